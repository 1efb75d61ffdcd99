/- Part B3 of what the layer's laws stand on: PAx17, Uf, Nn, Nw, Nx, PAx13, PAx14, PAx16, PAx20, PAx21, PAx27, PAx28, PAx31. Written by a program (merge.py) out of this session's own texts and of what the kit's print wrote over stand-ins (sp.py). Conditions: those that each theorem names. -/
import Derived.Test.YtbldocbijihpgaaQB2
import Derived.Test.YtbldocbijihpgaaQB1
-- ---- PAx17

namespace Go.Proofs.Ytbldocbijihpgaa.PA
open Go.RowKit Go.Proofs.YtbldocbijihpgaaW.PrintWords Go.Proofs.YtbldocbijihpgaaW.PrintLast Go.Proofs.YtbldocbijihpgaaW.PrintMore
attribute [local go_sem] max2_int min2_int max_two min_two max_three min_three max_four min_four   -- for this text's walks alone
set_option linter.unusedVariables false
set_option linter.unusedSimpArgs false

/-! ### wringerref7_freqs: function 27 -/
def wringerref7_freqs.l0 : Nat → List Int → Int → Int → Option (Bool)
  | 0, _, _, _ => none
  | k + 1, x0, x3, x4 => if x4 < (x0.length : Int) then (if 0 ≤ x4 then (if (rd x0 x4) < 0 then (some false) else (if (rd x0 x4) > 16777216 then (some false) else (wringerref7_freqs.l0 k x0 (wrap64 (x3 + (rd x0 x4))) (wrap64 (x4 + 1))))) else (none)) else (if (x0.length : Int) = 65 then (some (decide (x3 > 0))) else (some false))
def wringerref7_freqs.f (k : Nat) (l0 : List Int) : Option (Bool) := wringerref7_freqs.l0 k l0 0 0
theorem wringerref7_freqs.mono_l : ∀ k, (∀ y0 y1 y2, LeO (wringerref7_freqs.l0 k y0 y1 y2) (wringerref7_freqs.l0 (k + 1) y0 y1 y2))
  | 0 => fun _ _ _ r h => by simp [wringerref7_freqs.l0] at h
  | k + 1 => by
    have ih0 := wringerref7_freqs.mono_l k
    · intro y0 y1 y2
      unfold wringerref7_freqs.l0
      repeat' first
      | (with_reducible exact ih0 _ _ _)
      | (with_reducible exact LeO.refl _)
      | (with_reducible exact LeO.none _)
      | (with_reducible refine LeO.ite ?_ ?_)
      | (with_reducible refine LeO.bind ?_ (fun _ => ?_))
      | exact ih0 _ _ _
      | exact LeO.none _
      | refine LeO.ite ?_ ?_
      | refine LeO.bind ?_ (fun _ => ?_)
theorem wringerref7_freqs.mono : ∀ a0 k, LeO (wringerref7_freqs.f k a0) (wringerref7_freqs.f (k + 1) a0) := by
  intro a0 k
  have ih0 := wringerref7_freqs.mono_l k
  unfold wringerref7_freqs.f
  repeat' first
      | (with_reducible exact ih0 _ _ _)
      | (with_reducible exact LeO.refl _)
      | (with_reducible exact LeO.none _)
      | (with_reducible refine LeO.ite ?_ ?_)
      | (with_reducible refine LeO.bind ?_ (fun _ => ?_))
      | exact ih0 _ _ _
      | exact LeO.none _
      | refine LeO.ite ?_ ?_
      | refine LeO.bind ?_ (fun _ => ?_)
set_option maxHeartbeats 8000000 in
set_option maxRecDepth 100000 in
theorem wringerref7_freqs.calls (k : Nat) (A0 : Option Addr) (c0 : Nat) (l0 : List Int) (r : Bool) (w : World) (hr0 : Kd.C (Kd.int .i64) w A0 l0.length l0) (hc0 : l0.length ≤ c0) (h : wringerref7_freqs.f k l0 = some r) :
    Calls Try.prog 27 #[.slice A0 l0.length c0] w fun e w' => e = .returned (.bool r) ∧ Drawn0 w w' := by
  have HR0 := Aside0.mk hr0
  have HC0 := Aside0.mk hc0
  clear hr0 hc0
  have H : (wringerref7_freqs.l0 k l0 0 0) = some r := h
  clear h
  have H' := Aside0.mk H
  clear H
  go_enter Try.func27, Try.ntmps27
  go_wp2
  go_loopg [3, 4] k (fun kq v3 v4 w' => ∃ (x3_1 : Int) (x4_1 : Int), v3 = .int .i64 x3_1 ∧ v4 = .int .i64 x4_1 ∧ Aside0 (wringerref7_freqs.l0 kq l0 x3_1 x4_1 = some r) ∧ Aside0 (kq ≤ k) ∧ Drawn0 w w')
  case atStart => exact ⟨(0), (0), (by first | rfl | (simp; done) | (simp [*]; done)), (by first | rfl | (simp; done) | (simp [*]; done)), H', ⟨Nat.le_refl _⟩, by repeat (first | exact Drawn0.refl _ | apply Drawn0.step)⟩
  case round =>
    clear H'
    obtain ⟨x3_1, x4_1, rfl, rfl, HA, HK1, ⟨m1, rfl⟩⟩ := hrel
    cases gk with
    | zero => exact absurd HA.out (by simp [wringerref7_freqs.l0])
    | succ k1 =>
      have H := HA.out
      clear HA
      simp only [wringerref7_freqs.l0] at H
      by_cases c2 : x4_1 < (l0.length : Int)
      · rw [if_pos c2] at H
        have c2b0 : decide (x4_1 < (l0.length : Int)) = true := decide_eq_true c2
        clear c2
        by_cases c3 : 0 ≤ x4_1
        · rw [if_pos c3] at H
          have c3b0 : decide (0 ≤ x4_1) = true := decide_eq_true c3
          clear c3
          by_cases c4 : (rd l0 x4_1) < 0
          · rw [if_pos c4] at H
            have c4b0 : decide ((rd l0 x4_1) < 0) = true := decide_eq_true c4
            clear c4
            obtain rfl := Option.some.inj H
            have p130 : 0 ≤ (x4_1 : Int) := of_decide_eq_true (by first | (with_reducible assumption) | assumption)
            have q130 : x4_1 < (l0.length : Int) := of_decide_eq_true (by first | (with_reducible assumption) | assumption)
            obtain ⟨ad130, e130, hx130_0⟩ := Kd.at_int HR0.out x4_1 p130 q130
            cases e130
            replace p130 := eq_true p130
            replace q130 := eq_true q130
            go_wp2
            go_ret
            exact ⟨by first | rfl | (simp; done) | (simp [*]; done), by repeat (first | exact Drawn0.refl _ | apply Drawn0.step)⟩
          · rw [if_neg c4] at H
            have c4b0 : decide ((rd l0 x4_1) < 0) = false := decide_eq_false c4
            clear c4
            by_cases c5 : (rd l0 x4_1) > 16777216
            · rw [if_pos c5] at H
              have c5b0 : decide (16777216 < (rd l0 x4_1)) = true := decide_eq_true c5
              clear c5
              obtain rfl := Option.some.inj H
              have p130 : 0 ≤ (x4_1 : Int) := of_decide_eq_true (by first | (with_reducible assumption) | assumption)
              have q130 : x4_1 < (l0.length : Int) := of_decide_eq_true (by first | (with_reducible assumption) | assumption)
              obtain ⟨ad130, e130, hx130_0⟩ := Kd.at_int HR0.out x4_1 p130 q130
              cases e130
              replace p130 := eq_true p130
              replace q130 := eq_true q130
              have p131 : 0 ≤ (x4_1 : Int) := of_decide_eq_true (by first | (with_reducible assumption) | assumption)
              have q131 : x4_1 < (l0.length : Int) := of_decide_eq_true (by first | (with_reducible assumption) | assumption)
              obtain ⟨ad131, e131, hx131_0⟩ := Kd.at_int HR0.out x4_1 p131 q131
              obtain rfl : ad130 = ad131 := (by injection e131)
              replace p131 := eq_true p131
              replace q131 := eq_true q131
              go_wp2
              go_ret
              exact ⟨by first | rfl | (simp; done) | (simp [*]; done), by repeat (first | exact Drawn0.refl _ | apply Drawn0.step)⟩
            · rw [if_neg c5] at H
              have c5b0 : decide (16777216 < (rd l0 x4_1)) = false := decide_eq_false c5
              clear c5
              have H' := Aside0.mk H
              clear H
              have p130 : 0 ≤ (x4_1 : Int) := of_decide_eq_true (by first | (with_reducible assumption) | assumption)
              have q130 : x4_1 < (l0.length : Int) := of_decide_eq_true (by first | (with_reducible assumption) | assumption)
              obtain ⟨ad130, e130, hx130_0⟩ := Kd.at_int HR0.out x4_1 p130 q130
              cases e130
              replace p130 := eq_true p130
              replace q130 := eq_true q130
              have p131 : 0 ≤ (x4_1 : Int) := of_decide_eq_true (by first | (with_reducible assumption) | assumption)
              have q131 : x4_1 < (l0.length : Int) := of_decide_eq_true (by first | (with_reducible assumption) | assumption)
              obtain ⟨ad131, e131, hx131_0⟩ := Kd.at_int HR0.out x4_1 p131 q131
              obtain rfl : ad130 = ad131 := (by injection e131)
              replace p131 := eq_true p131
              replace q131 := eq_true q131
              have p132 : 0 ≤ (x4_1 : Int) := of_decide_eq_true (by first | (with_reducible assumption) | assumption)
              have q132 : x4_1 < (l0.length : Int) := of_decide_eq_true (by first | (with_reducible assumption) | assumption)
              obtain ⟨ad132, e132, hx132_0⟩ := Kd.at_int HR0.out x4_1 p132 q132
              obtain rfl : ad130 = ad132 := (by injection e132)
              replace p132 := eq_true p132
              replace q132 := eq_true q132
              go_wp2
              go_roundg k1
              case measure => have := HK1.out; omega
              case rel => exact ⟨(wrap64 (x3_1 + (rd l0 x4_1))), (wrap64 (x4_1 + 1)), (by first | rfl | (simp; done) | (simp [*]; done)), (by first | rfl | (simp; done) | (simp [*]; done)), H', ⟨by have := HK1.out; omega⟩, by repeat (first | exact Drawn0.refl _ | apply Drawn0.step)⟩
        · rw [if_neg c3] at H
          exact absurd H (by simp)
      · rw [if_neg c2] at H
        have c2b0 : decide (x4_1 < (l0.length : Int)) = false := decide_eq_false c2
        clear c2
        by_cases c6 : (l0.length : Int) = 65
        · rw [if_pos c6] at H
          have c6b0 : ((l0.length : Int) == 65) = true := beq_iff_eq.mpr c6
          have c6b1 : ((l0.length : Int) != 65) = false := bne_eq_false_iff_eq.mpr c6
          clear c6
          obtain rfl := Option.some.inj H
          go_wp2
          go_ret
          exact ⟨by first | rfl | (simp; done) | (simp [*]; done), by repeat (first | exact Drawn0.refl _ | apply Drawn0.step)⟩
        · rw [if_neg c6] at H
          have c6b0 : ((l0.length : Int) == 65) = false := beq_eq_false_iff_ne.mpr c6
          have c6b1 : ((l0.length : Int) != 65) = true := bne_iff_ne.mpr c6
          obtain rfl := Option.some.inj H
          go_wp2
          go_ret
          exact ⟨by first | rfl | (simp; done) | (simp [*]; done), by repeat (first | exact Drawn0.refl _ | apply Drawn0.step)⟩

end Go.Proofs.Ytbldocbijihpgaa.PA

-- ---- Uf
/- The document's test of frequencies: what it comes to. -/
namespace Go.Proofs.Ytbldocbijihpgaa.PA
set_option linter.unusedVariables false
set_option linter.unusedSimpArgs false
open Go.RowKit Go.Proofs.YtbldocbijihpgaaW.PrintWords Go.Proofs.YtbldocbijihpgaaW.PrintLast Go.Proofs.YtbldocbijihpgaaW.PrintMore Nl

theorem isLogF (a : Int) : wringerref7_isLog.f a = some (decide (7 ≤ a ∧ a ≤ 12)) := by
  unfold wringerref7_isLog.f
  by_cases h : a ≥ 7
  · rw [if_pos h]; congr 1; simp; omega
  · rw [if_neg h]; congr 1; simp; omega
theorem getD_drop (l : List Int) (i : Nat) (h : i < l.length) : l.drop i = l.getD i 0 :: l.drop (i + 1) := by
  rw [List.drop_eq_getElem_cons h]; simp [List.getD_eq_getElem?_getD, h]
theorem freqs_l0 (l : List Int) (hl : l.length = 65) : ∀ (d i : Nat) (t : Int), i + d = l.length → 0 ≤ t → t ≤ 16777216 * (i : Int) →
    Ev (fun k => wringerref7_freqs.l0 k l t (i : Int)) (decide ((∀ x ∈ l.drop i, 0 ≤ x ∧ x ≤ 16777216) ∧ 0 < t + (l.drop i).sum)) := by
  intro d
  induction d with
  | zero =>
    intro i t hi h0 h1
    refine Ev.step (f := fun _ => some (decide (0 < t))) (fun k => by simp only [wringerref7_freqs.l0]; rw [if_neg (by omega), if_pos (by omega)]) (Ev.ofSome ?_)
    rw [List.drop_eq_nil_of_le (by omega)]; simp
  | succ d ih =>
    intro i t hi h0 h1
    have hil : i < l.length := by omega
    rw [getD_drop l i hil]
    generalize hy : l.getD i 0 = y
    by_cases hy0 : y < 0
    · refine Ev.step (f := fun _ => some false) (fun k => by simp only [wringerref7_freqs.l0]; rw [if_pos (by omega), if_pos (by omega), rd_nat, hy, if_pos hy0]) (Ev.ofSome ?_)
      symm; rw [decide_eq_false_iff_not]; intro h; have := h.1 y (by simp); omega
    · by_cases hyP : y > 16777216
      · refine Ev.step (f := fun _ => some false) (fun k => by simp only [wringerref7_freqs.l0]; rw [if_pos (by omega), if_pos (by omega), rd_nat, hy, if_neg hy0, if_pos hyP]) (Ev.ofSome ?_)
        symm; rw [decide_eq_false_iff_not]; intro h; have := h.1 y (by simp); omega
      · refine evq ?_ (Ev.step (f := fun k => wringerref7_freqs.l0 k l (t + y) ((i + 1 : Nat) : Int)) (fun k => by simp only [wringerref7_freqs.l0]; rw [if_pos (by omega), if_pos (by omega), rd_nat, hy, if_neg hy0, if_neg hyP, w64 (by omega) (by omega), w64 (by omega) (by omega)]; rfl) (ih (i + 1) (t + y) (by omega) (by omega) (by omega)))
        congr 1
        simp only [List.mem_cons, forall_eq_or_imp, List.sum_cons, eq_iff_iff]
        constructor
        · rintro ⟨a, b⟩; exact ⟨⟨⟨by omega, by omega⟩, a⟩, by omega⟩
        · rintro ⟨⟨_, a⟩, b⟩; exact ⟨a, by omega⟩
theorem freqs_is (l : List Int) (hl : l.length = 65) : Ev (fun k => wringerref7_freqs.f k l) (frB l) := by
  refine evq ?_ (Ev.congr (fun k => ?_) (freqs_l0 l hl l.length 0 0 (by omega) (by omega) (by omega)))
  · unfold frB; rw [List.drop_zero]; congr 1; rw [eq_iff_iff]
    exact ⟨fun ⟨a, b⟩ => ⟨hl, a, by omega⟩, fun ⟨_, a, b⟩ => ⟨a, by omega⟩⟩
  · unfold wringerref7_freqs.f; rfl
end Go.Proofs.Ytbldocbijihpgaa.PA

-- ---- Nn
/- The document's numbers of a sum: what the call answers. -/
namespace Go.Proofs.Ytbldocbijihpgaa.PA
set_option linter.unusedSimpArgs false
set_option linter.unusedVariables false
open Go.RowKit Go.Proofs.YtbldocbijihpgaaW.PrintWords Mix _root_.Go.Proofs.Ytbldocbijihpgaa.Own Ol Nl
attribute [local go_sem] Own.max_int Own.min_int

/-- The block of the result, on the way; all that was there has stayed. -/
structure StN (B : Nat) (w wr : World) : Prop where
  res : Blk wr B #[.slice none 0 0, .int .i64 0] 30
  low : Below B w wr
structure StR (B : Nat) (w wr : World) (g : Nat) (xs : List Int) : Prop where
  st : StN B w wr
  row : Owns wr 3 (.slice (some ⟨g, 0, none⟩) 65 65) (ints .i64 xs)
  new : B ≤ g
theorem StN.sz {B : Nat} {w wr : World} (h : StN B w wr) : B < wr.heap.size := h.res.lt
theorem StN.later {B : Nat} {w wr w' : World} (h : StN B w wr) (hb : Below wr.heap.size wr w') : StN B w w' :=
  ⟨(hb.block B h.sz).trans h.res, h.low.trans (hb.mono (Nat.le_of_lt h.sz))⟩
theorem StR.later {B : Nat} {w wr w' : World} {g : Nat} {xs : List Int} (h : StR B w wr g xs) (hb : Below wr.heap.size wr w') : StR B w w' g xs :=
  ⟨h.st.later hb, h.row.keep fun k _ hk => hb.block k hk, h.new⟩
theorem StR.ne {B : Nat} {w wr : World} {g : Nat} {xs : List Int} (h : StR B w wr g xs) : B ≠ g := fun e => h.row.ne h.st.res (by decide) (by simp [Value.ownBlock, e])
theorem StR.store {B : Nat} {w wr : World} {g : Nat} {xs : List Int} (h : StR B w wr g xs) (j : Nat) (x : Int) : StR B w (wr.setCell ⟨g, j, none⟩ (.int .i64 x)) g (xs.set j x) := by
  refine ⟨⟨h.st.res.setOther h.ne _, h.st.low.setCell h.new _⟩, ?_, h.new⟩
  have := h.row.store j (.int .i64 x)
  have e : ints .i64 (xs.set j x) = (ints .i64 xs).set j (.int .i64 x) := by simp [ints, List.map_set]
  rw [e]; exact this
theorem StR.cell {B : Nat} {w wr : World} {g : Nat} {xs : List Int} (h : StR B w wr g xs) (j : Nat) (hj : j < xs.length) : wr.cell? ⟨g, j, none⟩ = some (.int .i64 (xs.getD j 0)) := h.row.cell (Own.ints_at .i64 xs j hj)

set_option maxRecDepth 20000 in
set_option maxHeartbeats 4000000 in
theorem rnorm_bad (A0 : Option Addr) (c0 : Nat) (l0 : List Int) (a1 : Int) (w : World) (hr0 : Kd.C (Kd.int .i64) w A0 l0.length l0) (hc0 : l0.length ≤ c0) (hn : l0.length < 200000000000000)
    (hb : ¬ (frB l0 = true ∧ 7 ≤ a1 ∧ a1 ≤ 12)) :
    Calls Try.prog 12 #[.slice A0 l0.length c0, .int .i64 a1] w fun e w' => e = .returned (.agg #[.slice none 0 0, .int .i64 1]) ∧ Below w.heap.size w w' := by
  by_cases h65 : l0.length = 65
  · obtain ⟨k, hk⟩ := (freqs_is l0 h65).rounds
    have hfr := fun w1 (h : Below w.heap.size w w1) => wringerref7_freqs.calls k A0 c0 l0 _ w1 (Kd.C_below hr0 h) hc0 hk
    have hlg := fun w1 => wringerref7_isLog.calls a1 _ w1 (isLogF a1)
    have t65 : ((l0.length : Int) != 65) = false := by simp; omega
    have hb0 : Below w.heap.size w (w.alloc (.cells #[.slice none 0 0, .int .i64 0] 30)) := (Below.refl _ _).alloc (Nat.le_refl _) _
    have HFr := kept (hfr _ hb0)
    have HLg := kept hlg
    obtain ⟨n, hnn⟩ : ∃ n, n = l0.length := ⟨_, rfl⟩
    rw [← hnn] at hn t65 ⊢
    rw [← hnn] at HFr
    cases hf : frB l0 with
    | false =>
      rw [hf] at HFr
      clear hr0 hc0 h65 hk hfr hlg hb0 hb hnn hf
      go_enter Try.func12, Try.ntmps12
      go_wp2_with (first | (go_at_call 27; refine HFr.out.mono ?_; rintro e w' ⟨rfl, hd⟩; obtain ⟨⟨nd, rfl⟩⟩ := hd))
      exact bodyPost_ret (results_cell_row rfl _ _ w.heap.size 30 #[.slice none 0 0, .int .i64 1] (0, 0) _ rfl (((Blk.fresh _ _ _).set 0 _).set 1 _) Try.underlying30 rfl (by kernel_rfl)) rfl ⟨rfl, ((pw_below_drewN ((Below.refl _ _).alloc (Nat.le_refl _) _) _).setCell (by simp) _).setCell (by simp) _⟩
    | true =>
      rw [hf] at HFr hb
      have hd : decide (7 ≤ a1 ∧ a1 ≤ 12) = false := by rw [decide_eq_false_iff_not]; exact fun h => hb ⟨rfl, h⟩
      rw [hd] at HLg
      clear hr0 hc0 h65 hk hfr hlg hb0 hb hnn hf hd
      go_enter Try.func12, Try.ntmps12
      go_wp2_with (first | (go_at_call 27; refine HFr.out.mono ?_; rintro e w' ⟨rfl, hd⟩; obtain ⟨⟨nd, rfl⟩⟩ := hd) | (go_at_call 28; refine (HLg.out _).mono ?_; rintro e w' ⟨rfl, hd⟩; obtain ⟨⟨nd2, rfl⟩⟩ := hd))
      exact bodyPost_ret (results_cell_row rfl _ _ w.heap.size 30 #[.slice none 0 0, .int .i64 1] (0, 0) _ rfl (((Blk.fresh _ _ _).set 0 _).set 1 _) Try.underlying30 rfl (by kernel_rfl)) rfl ⟨rfl, ((pw_below_drewN ((Below.refl _ _).alloc (Nat.le_refl _) _) _).setCell (by simp) _).setCell (by simp) _⟩
  · obtain ⟨n, hnn⟩ : ∃ n, n = l0.length := ⟨_, rfl⟩
    rw [← hnn] at hn ⊢
    have t65 : ((n : Int) != 65) = true := by simp; omega
    clear hr0 hc0 h65 hb hnn
    go_enter Try.func12, Try.ntmps12
    go_wp2_with fail
    exact bodyPost_ret (results_cell_row rfl _ _ w.heap.size 30 #[.slice none 0 0, .int .i64 1] (0, 0) _ rfl (Blk.fresh _ _ _) Try.underlying30 rfl (by kernel_rfl)) rfl ⟨rfl, (Below.refl _ _).alloc (Nat.le_refl _) _⟩

theorem share_walk (y t : Int) (m P : Nat) (hy : 0 < y) (hy1 : y ≤ 16777216) (hP : P = 2 ^ m) (hP1 : P ≤ 4096) (ht : 0 < t) : Own.mx 1 (wrap64 ((wrap64 (y * 2 ^ m)).tdiv t)) = share (P : Int) t y := by
  have e : ((2 : Int) ^ m) = (P : Int) := by rw [hP]; simp
  have h1 : y * (P : Int) ≤ 16777216 * 4096 := Int.mul_le_mul hy1 (by omega) (by omega) (by omega)
  have h0 : 0 ≤ y * (P : Int) := Int.mul_nonneg (by omega) (by omega)
  have h2 : y * (P : Int) / t ≤ y * (P : Int) := Int.ediv_le_self _ h0
  have h3 : 0 ≤ y * (P : Int) / t := Int.ediv_nonneg h0 (by omega)
  unfold share
  rw [if_pos hy, e, w64 (x := y * (P : Int)) (by omega) (by omega), Int.tdiv_eq_ediv_of_nonneg h0, w64 (x := y * (P : Int) / t) (by omega) (by omega), Own.mx_eq]

set_option maxRecDepth 20000 in
set_option maxHeartbeats 8000000 in
theorem rnorm_ok (A0 : Option Addr) (c0 : Nat) (l0 : List Int) (m : Nat) (w : World) (hr0 : Kd.C (Kd.int .i64) w A0 l0.length l0) (hc0 : l0.length ≤ c0) (hf : Fr l0) (h7 : 7 ≤ m) (h12 : m ≤ 12) :
    Calls Try.prog 12 #[.slice A0 l0.length c0, .int .i64 (m : Int)] w fun e w' => ∃ v, e = .returned (.agg #[v, .int .i64 0]) ∧ Owns w' 3 v (ints .i64 (normL l0 ((2 ^ m : Nat) : Int))) ∧ (∀ g, v.ownBlock = some g → w.heap.size ≤ g) ∧ Below w.heap.size w w' := by
  have h65 := hf.len
  obtain ⟨i0, hi, hz0, hz1, hz2⟩ := info_partsI infoI64
  obtain ⟨k, hk⟩ := (freqs_is l0 h65).rounds
  rw [(frB_iff l0).2 hf] at hk
  obtain ⟨B, hB⟩ : ∃ B, B = w.heap.size := ⟨_, rfl⟩
  have hst : StN B w (w.alloc (.cells #[.slice none 0 0, .int .i64 0] 30)) := ⟨by rw [hB]; exact Blk.fresh _ _ _, by rw [hB]; exact (Below.refl _ _).alloc (Nat.le_refl _) _⟩
  have hfr := fun w1 (h : Below w.heap.size w w1) => wringerref7_freqs.calls k A0 c0 l0 _ w1 (Kd.C_below hr0 h) hc0 hk
  have hfr2 := hfr _ (by rw [← hB]; exact hst.low)
  have hlg := fun w1 => wringerref7_isLog.calls (m : Int) _ w1 (isLogF (m : Int))
  have hlt : decide (7 ≤ (m : Int) ∧ (m : Int) ≤ 12) = true := by rw [decide_eq_true_eq]; omega
  rw [hlt] at hlg
  have hR := Own.rd_of_C hr0
  have hro := fun w1 (h : Below w.heap.size w w1) => rorder_calls A0 l0.length c0 l0 w1 (hR.later h) (by omega)
  obtain ⟨P, hP⟩ : ∃ P, P = 2 ^ m := ⟨_, rfl⟩
  have hshl := shl_int m (by omega)
  have hp12 := pow12 m h12
  have hp7 : 128 ≤ P := by have h := Nat.pow_le_pow_right (show 0 < 2 by decide) h7; rw [hP]; omega
  rw [← hP] at hshl hp12 ⊢
  rw [h65] at hR hro hfr2 ⊢
  rw [← hB]
  have HB := kept hB
  have HF := kept hf
  have HR := kept hR
  have HRo := kept hro
  have HFr := kept hfr2
  have HLg := kept hlg
  have H65 := kept h65
  have HSt := kept hst
  have HP := kept hP
  have t65 : (65 != (65 : Int)) = false := rfl
  have hm63 : m < 63 := by omega
  clear hB hf hR hro hfr hfr2 hlg h65 hst hk hr0 hc0 hlt hP h7 h12
  go_enter Try.func12, Try.ntmps12
  go_wp2_with (first | (go_at_call 27; refine HFr.out.mono ?_; rintro e w' ⟨rfl, hd⟩; obtain ⟨⟨nd, rfl⟩⟩ := hd) | (go_at_call 28; refine (HLg.out _).mono ?_; rintro e w' ⟨rfl, hd⟩; obtain ⟨⟨nd2, rfl⟩⟩ := hd))
  rw [show w.heap.size = B from HB.out.symm]
  generalize hw1 : World.drewN _ _ = w1
  have HSt1 : Kept (StN B w w1) := kept (by rw [← hw1]; exact HSt.out.later (pw_below_drewN (Below.refl _ _) _))
  clear hw1 HSt HFr HLg
  have HR1 := kept (HR.out.later (by rw [← HB.out]; exact HSt1.out.low))
  go_loopw [5, 7] (fun s5 s7 wr => ∃ i : Nat, i ≤ 65 ∧ s7 = .int .i64 (i : Int) ∧ (∃ t : Int, t = (l0.take i).sum ∧ s5 = .int .i64 t) ∧ wr = w1) (fun s5 s7 _ => 65 - (intOf s7).toNat)
  case atStart => exact ⟨0, by omega, rfl, ⟨0, by simp, rfl⟩, rfl⟩
  case round =>
    obtain ⟨i, hi65, rfl, ⟨t, ht, rfl⟩, rfl⟩ := hrel
    have htb := HF.out.take_sum i
    rw [← ht] at htb
    obtain ⟨tb0, tb1⟩ := htb
    by_cases hlt : i < 65
    · have hil : i < l0.length := by rw [H65.out]; exact hlt
      obtain ⟨x, rfl, hc⟩ := HR1.out.at (Own.ints_at .i64 l0 i hil)
      have hfm := Nl.getD_mem hil
      have hy0 := HF.out.nn _ hfm
      have hy1 := HF.out.le _ hfm
      have hsn := Nl.take_sum l0 i hil
      clear hfm
      obtain ⟨y, hy⟩ : ∃ y, y = l0.getD i 0 := ⟨_, rfl⟩
      rw [← hy] at hc hy0 hy1 hsn
      rw [← ht] at hsn
      have HSn := kept hsn
      clear hsn ht hy hil
      go_wp2_with fail
      go_roundw
      case rel => exact ⟨i + 1, by omega, by go_num, ⟨t + y, HSn.out.symm, by go_num⟩, trivial⟩
      case measure => simp [intOf]; omega
    · have hie : i = 65 := by omega
      subst hie
      have hte : t = l0.sum := by rw [ht, ← H65.out, List.take_length]
      have hpos : 0 < t := by rw [hte]; exact HF.out.pos
      have HT := kept hte
      clear ht hte hlt tb0
      go_wp2_with (first | (refine wpList_mk1 rfl _ _ 24 rfl 3 i0 (.int .i64 0) 8 Try.underlying24 hi hz0 hz1 hz2 rfl .i64 .i64 _ _ 65 rfl rfl rfl rfl (by decide) (by decide) ?_))
      intro w2 hO hb hlt2
      obtain ⟨g, hg⟩ : ∃ g, g = wr.heap.size := ⟨_, rfl⟩
      have HSt2 : Kept (StR B w w2 g (shN l0 (P : Int) t 0)) := kept ⟨HSt1.out.later hb, by rw [hg, shN_zero, H65.out]; simpa [ints] using hO, by have := HSt1.out.sz; omega⟩
      rw [← hg]
      clear hO hb hlt2 hg
      have HR2 := kept (HR.out.later (by rw [← HB.out]; exact HSt2.out.st.low))
      clear HSt1 HR1
      go_wp2_with fail
      go_loopw [6, 9] (fun s6 s9 wq => ∃ i : Nat, i ≤ 65 ∧ s9 = .int .i64 (i : Int) ∧ (∃ q : Int, q = (shN l0 (P : Int) t i).sum ∧ s6 = .int .i64 q) ∧ StR B w wq g (shN l0 (P : Int) t i)) (fun s6 s9 _ => 65 - (intOf s9).toNat)
      case atStart => exact ⟨0, by omega, rfl, ⟨0, by rw [shN_zero]; simp, rfl⟩, HSt2.out⟩
      case round =>
        obtain ⟨i, hi65, rfl, ⟨q, hq, rfl⟩, hst⟩ := hrel
        obtain ⟨wq, rfl⟩ : ∃ wq, wq = wr := ⟨wr, rfl⟩
        have hqb := HF.out.shN_sum (size := (P : Int)) (by omega) i (by rw [H65.out]; exact hi65)
        rw [← HT.out, ← hq] at hqb
        have hqb2 : (P : Int) * (i : Int) ≤ 4096 * 65 := Int.mul_le_mul (by omega) (by omega) (by omega) (by omega)
        have hq0 : 0 ≤ q := hqb.1
        have hq1 : q ≤ 266240 := by omega
        clear hqb hqb2
        have HSt3 := kept hst
        have hrd := HR.out.later (show Below w.heap.size w wq by rw [← HB.out]; exact hst.st.low)
        clear hst
        by_cases hlt : i < 65
        · have hil : i < l0.length := by rw [H65.out]; exact hlt
          obtain ⟨x, rfl, hc⟩ := hrd.at (Own.ints_at .i64 l0 i hil)
          have hfm := Nl.getD_mem hil
          have hy0 := HF.out.nn _ hfm
          have hy1 := HF.out.le _ hfm
          have hsl := HF.out.share_le (size := (P : Int)) (by omega) hfm
          have hsn := sum_shN l0 (P : Int) t i hil
          have hst3 := shN_succ l0 (P : Int) t i hil
          have hsame := shN_same l0 (P : Int) t i hil
          have hat := shN_at l0 (P : Int) t i hil
          rw [← HT.out] at hsl
          clear hfm
          obtain ⟨y, hy⟩ : ∃ y, y = l0.getD i 0 := ⟨_, rfl⟩
          rw [← hy] at hc hy0 hy1 hsn hsl hst3 hsame
          rw [← hq] at hsn
          have HSn := kept hsn
          have HSt4 := kept hst3
          have HSame := kept hsame
          obtain ⟨sl0, sl1⟩ := hsl
          by_cases hpos2 : 0 < y
          · have hxl : (shN l0 (P : Int) t i).length = 65 := by rw [length_shN _ _ _ _ (by omega)]; exact H65.out
            obtain ⟨xs, hxs⟩ : ∃ xs, xs = shN l0 (P : Int) t i := ⟨_, rfl⟩
            rw [← hxs] at HSt3 HSt4 HSame hxl hq hat
            have c1 := HSt3.out.cell i (by omega)
            have f1 : wq.frozen? ⟨g, i, none⟩ = false := HSt3.out.row.free i
            clear hxs hsn hst3 hsame hq hil hy hrd hat
            have hsw := share_walk y t m P hpos2 hy1 HP.out (by omega) hpos
            obtain ⟨z, hz⟩ : ∃ z, z = share (P : Int) t y := ⟨_, rfl⟩
            rw [← hz] at hsw sl0 sl1 HSt4 HSn
            have HSw := kept hsw
            clear hsw hz
            have HSt5 : Kept (StR B w (wq.setCell ⟨g, i, none⟩ (.int .i64 z)) g (shN l0 (P : Int) t (i + 1))) := kept (by rw [HSt4.out]; exact HSt3.out.store i z)
            go_wp2_with fail
            go_roundw
            case rel =>
              refine ⟨i + 1, by omega, by go_num, ⟨q + z, HSn.out.symm, ?_⟩, ?_⟩
              · rw [HSw.out, w64 (by omega) (by omega)]
              · rw [HSw.out]; exact HSt5.out
            case measure => simp [intOf]; omega
          · have hn0 : y ≤ 0 := by omega
            have HSt5 : Kept (StR B w wq g (shN l0 (P : Int) t (i + 1))) := kept (by rw [HSame.out hpos2]; exact HSt3.out)
            have HQ : Kept (q = (shN l0 (P : Int) t (i + 1)).sum) := kept (by rw [HSame.out hpos2]; exact hq)
            clear hsn hst3 hsame hq hil hy hrd hat
            go_wp2_with fail
            go_roundw
            case rel => exact ⟨i + 1, by omega, by go_num, ⟨q, HQ.out, by go_num⟩, HSt5.out⟩
            case measure => simp [intOf]; omega
        · have hie : i = 65 := by omega
          subst hie
          obtain ⟨xs, hxs⟩ : ∃ xs, xs = shares l0 (P : Int) t := ⟨_, rfl⟩
          have hxe : shN l0 (P : Int) t 65 = xs := by rw [hxs, ← H65.out]; exact shN_all l0 (P : Int) t
          rw [hxe] at HSt3 hq
          have hxl : xs.length = 65 := by rw [hxs, length_shares]; exact H65.out
          have HX := kept hxs
          have HQ := kept hq
          have HXl := kept hxl
          have hrd2 := HR.out.later (show Below w.heap.size w wq by rw [← HB.out]; exact HSt3.out.st.low)
          have HRd2 := kept hrd2
          clear hxs hq hxe hrd hrd2 hlt
          by_cases hls : q < (P : Int)
          · obtain ⟨tl, htl, hk65⟩ := HF.out.head
            obtain ⟨k, hk⟩ : ∃ k, k = (ordL l0).headD 0 := ⟨_, rfl⟩
            rw [← hk] at htl hk65
            have hok := HF.out.shares_ok (size := (P : Int)) (by omega)
            rw [← HT.out, ← HX.out] at hok
            have hnn : ∀ x ∈ xs, 0 ≤ x := fun x hx => by
              obtain ⟨i, hi, rfl⟩ := mem_getD hx
              exact hok.nn i (by rw [H65.out, ← hxl]; exact hi)
            have hk2 : k < xs.length := by omega
            have hge := hnn _ (Nl.getD_mem hk2)
            have hle := Nl.le_sum xs hnn _ (Nl.getD_mem hk2)
            rw [← HQ.out] at hle
            obtain ⟨x, hx⟩ : ∃ x, x = xs.getD k 0 := ⟨_, rfl⟩
            have HNorm : Kept (normL l0 (P : Int) = xs.set k (x + (P : Int) - q)) := kept (by
              unfold normL
              rw [← HT.out, ← HX.out, ← HQ.out, if_pos (by omega), ← hk]
              unfold bump; rw [← hx]; congr 1; omega)
            rw [← hx] at hge hle
            have HX6 := kept hx
            have HTl := kept htl
            have HC := kept (HRo.out wq (by rw [← HB.out]; exact HSt3.out.st.low))
            clear hok hnn hk2 hx htl hk
            go_wp2_with fail
            refine HC.out.mono ?_
            rintro e w6 ⟨v6, rfl, hro6⟩
            have HSt7 := kept (HSt3.out.later hro6.low)
            have hrow6 := hro6.own
            rw [HTl.out] at hrow6
            obtain ⟨g6, cap6, rfl, hc6, _⟩ := hrow6.row (by simp [idx])
            have hcell6 : w6.cell? ⟨g6, 0, none⟩ = some (.int .i64 (k : Int)) := hrow6.cell (j := 0) (by simp [idx])
            have hlen6 : (idx (k :: tl)).length = tl.length + 1 := by simp
            rw [hlen6] at hc6
            rw [hlen6]
            have hy6 := HSt7.out.cell k (by omega)
            rw [← HX6.out] at hy6
            clear hro6 hrow6 hlen6
            have l6 := lat_cell hy6
            go_wp2_with fail
            refine wp_region_mixL [] [0,1,2,3,4,5,6,7,8,9,10,11] [12] (by kernel_rfl) (by kernel_rfl) ?_
            intro K hK
            simp only [pick, List.filterMap_cons, List.filterMap_nil, List.getElem?_cons_zero, List.getElem?_cons_succ]
            refine wpQuiet_nil ?_
            repeat (show wpQuiet _ _ _ _ (_ :: _) _; go_big_quiet_step (fail))
            refine wpQuiet_nil ?_
            show wpList _ _ _ [_] _ _
            generalize hwd : World.drew w6 = w7
            have HSt8 : Kept (StR B w w7 g xs) := kept (by rw [← hwd]; exact HSt7.out.later ((Below.refl _ _).drew))
            clear hwd l6 hy6 hcell6
            have c7 := HSt8.out.cell k (by omega)
            have f7 : w7.frozen? ⟨g, k, none⟩ = false := HSt8.out.row.free k
            have HSt9 : Kept (StR B w (w7.setCell ⟨g, k, none⟩ (.int .i64 (x + (P : Int) - q))) g (normL l0 (P : Int))) := kept (by rw [HNorm.out]; exact HSt8.out.store k _)
            go_wp2_with fail
            refine hK _ _ ?_
            have HNl : Kept ((normL l0 (P : Int)).length = 65) := kept (by rw [HNorm.out, List.length_set]; exact HXl.out)
            generalize hwe : World.setCell w7 _ _ = w8
            have HSt10 : Kept (StR B w w8 g (normL l0 (P : Int))) := kept (by rw [← hwe]; exact HSt9.out)
            clear hwe c7 f7
            rw [hshl]
            go_wp2_with fail
            go_loopw [6] (fun s6 wr => ∃ (q2 : Int) (ys : List Int), s6 = .int .i64 q2 ∧ StR B w wr g ys ∧ ys.length = 65 ∧ normL l0 (P : Int) = decTop (q2 - (P : Int)).toNat ys ∧ ((P : Int) < q2 → Ok l0 ys ∧ ys.sum = q2) ∧ 0 ≤ q2 ∧ q2 ≤ 266240) (fun s6 _ => (intOf s6 - (P : Int)).toNat)
            case atStart => exact ⟨q, _, rfl, HSt10.out, HNl.out, by rw [show (q - (P : Int)).toNat = 0 by omega]; rfl, fun h => by omega, hq0, hq1⟩
            case round =>
              obtain ⟨q2, ys, rfl, hst, hyl, hnorm, hok, hq20, hq21⟩ := hrel
              obtain ⟨wl, rfl⟩ : ∃ wl, wl = wr := ⟨wr, rfl⟩
              by_cases hgt : (P : Int) < q2
              · obtain ⟨hok1, hsum⟩ := hok hgt
                obtain ⟨htop, tl, htl⟩ := top_of (l := ys) (by rw [hyl, hsum]; omega)
                obtain ⟨k, hk⟩ : ∃ k, k = (ordL ys).headD 0 := ⟨_, rfl⟩
                rw [← hk] at htop htl
                have hk65 : k < 65 := by rw [← hyl]; exact htop.lt
                have htwo := htop.two
                have hle := Nl.le_sum ys (fun x hx => by
                  obtain ⟨i, hi, rfl⟩ := mem_getD hx
                  exact hok1.nn i (by rw [H65.out, ← hyl]; exact hi)) _ (Nl.getD_mem htop.lt)
                rw [hsum] at hle
                obtain ⟨x, hx⟩ : ∃ x, x = ys.getD k 0 := ⟨_, rfl⟩
                have hcall := rorder_calls (some ⟨g, 0, none⟩) 65 65 ys wl hst.row.rd (by omega)
                have HC := kept hcall
                have HSt6 := kept hst
                have HTl := kept htl
                have HYl := kept hyl
                have HNew : Kept (normL l0 (P : Int) = decTop (q2 - 1 - (P : Int)).toNat (bump ys k (-1)) ∧ Ok l0 (bump ys k (-1)) ∧ (bump ys k (-1)).sum = q2 - 1) := kept ⟨by
                  rw [hnorm, show (q2 - (P : Int)).toNat = (q2 - 1 - (P : Int)).toNat + 1 by omega, hk]; rfl, hok1.step htop, by rw [sum_bump ys k _ htop.lt, hsum]; rfl⟩
                rw [← hx] at htwo hle
                have HX6 := kept hx
                have HBm : Kept (bump ys k (-1) = ys.set k (x - 1)) := kept (by unfold bump; rw [hx]; rfl)
                clear hok1 hsum htop htl hk hcall hst hyl hnorm hok hx
                go_wp2_with fail
                refine HC.out.mono ?_
                rintro e w6 ⟨v6, rfl, hro6⟩
                have HSt7 := kept (HSt6.out.later hro6.low)
                have hrow6 := hro6.own
                rw [HTl.out] at hrow6
                obtain ⟨g6, cap6, rfl, hc6, _⟩ := hrow6.row (by simp [idx])
                have hcell6 : w6.cell? ⟨g6, 0, none⟩ = some (.int .i64 (k : Int)) := hrow6.cell (j := 0) (by simp [idx])
                have hlen6 : (idx (k :: tl)).length = tl.length + 1 := by simp
                rw [hlen6] at hc6
                rw [hlen6]
                have hy6 := HSt7.out.cell k (by rw [HYl.out]; exact hk65)
                rw [← HX6.out] at hy6
                have f6 : w6.frozen? ⟨g, k, none⟩ = false := HSt7.out.row.free k
                have HSt8 : Kept (StR B w (w6.setCell ⟨g, k, none⟩ (.int .i64 (x - 1))) g (bump ys k (-1))) := kept (by rw [HBm.out]; exact HSt7.out.store k (x - 1))
                clear hro6 hrow6 hlen6
                go_wp2_with fail
                go_roundw
                case rel =>
                  refine ⟨q2 - 1, bump ys k (-1), by go_num, HSt8.out, by rw [length_bump]; exact HYl.out, HNew.out.1, fun _ => HNew.out.2, by omega, by omega⟩
                case measure => simp [intOf]; omega
              · have hz : (q2 - (P : Int)).toNat = 0 := by omega
                rw [hz] at hnorm
                have hfin : normL l0 (P : Int) = ys := hnorm
                have HSt6 := kept hst
                have HFin := kept hfin
                have d0 : wl.cell? ⟨B, 0, none⟩ = some (.slice none 0 0) := hst.st.res.cell rfl
                have d1 : wl.cell? ⟨B, 1, none⟩ = some (.int .i64 0) := hst.st.res.cell rfl
                have e0 : wl.frozen? ⟨B, 0, none⟩ = false := hst.st.res.free 0
                have e1 : wl.frozen? ⟨B, 1, none⟩ = false := hst.st.res.free 1
                clear hst hyl hnorm hok hz hfin
                go_wp2_with fail
                refine bodyPost_ret (results_cell_row rfl _ _ B 30 #[.slice (some ⟨g, 0, none⟩) 65 65, .int .i64 0] (0, 0) _ rfl ((HSt6.out.st.res.set 0 _).set 1 _) Try.underlying30 rfl (by kernel_rfl)) rfl ⟨_, rfl, ?_, ?_, ?_⟩
                · rw [HFin.out]
                  exact (HSt6.out.row.setOther (a := ⟨B, 0, none⟩) (HSt6.out.row.ne HSt6.out.st.res (by decide)) _).setOther (a := ⟨B, 1, none⟩) (HSt6.out.row.ne HSt6.out.st.res (by decide)) _
                · intro g' hg'
                  simp [Value.ownBlock] at hg'
                  rw [← hg']; exact HSt6.out.new
                · have h := (HSt6.out.st.low.setCell (p := ⟨B, 0, none⟩) (Nat.le_refl _) (.slice (some ⟨g, 0, none⟩) 65 65)).setCell (p := ⟨B, 1, none⟩) (Nat.le_refl _) (.int .i64 0)
                  exact h
          · have HNorm : Kept (normL l0 (P : Int) = decTop (q - (P : Int)).toNat xs) := kept (by
              unfold normL
              rw [← HT.out, ← HX.out, ← HQ.out]
              by_cases he : q ≤ (P : Int)
              · rw [if_pos he, show q = (P : Int) by omega, Int.sub_self, bump_zero]; rfl
              · rw [if_neg he])
            have HOk : Kept (Ok l0 xs) := kept (by
              have hok := HF.out.shares_ok (size := (P : Int)) (by omega)
              rw [← HT.out, ← HX.out] at hok; exact hok)
            go_wp2_with fail
            go_loopw [6] (fun s6 wr => ∃ (q2 : Int) (ys : List Int), s6 = .int .i64 q2 ∧ StR B w wr g ys ∧ ys.length = 65 ∧ normL l0 (P : Int) = decTop (q2 - (P : Int)).toNat ys ∧ ((P : Int) < q2 → Ok l0 ys ∧ ys.sum = q2) ∧ 0 ≤ q2 ∧ q2 ≤ 266240) (fun s6 _ => (intOf s6 - (P : Int)).toNat)
            case atStart => exact ⟨q, xs, rfl, HSt3.out, HXl.out, HNorm.out, fun _ => ⟨HOk.out, HQ.out.symm⟩, hq0, hq1⟩
            case round =>
              obtain ⟨q2, ys, rfl, hst, hyl, hnorm, hok, hq20, hq21⟩ := hrel
              obtain ⟨wl, rfl⟩ : ∃ wl, wl = wr := ⟨wr, rfl⟩
              by_cases hgt : (P : Int) < q2
              · obtain ⟨hok1, hsum⟩ := hok hgt
                obtain ⟨htop, tl, htl⟩ := top_of (l := ys) (by rw [hyl, hsum]; omega)
                obtain ⟨k, hk⟩ : ∃ k, k = (ordL ys).headD 0 := ⟨_, rfl⟩
                rw [← hk] at htop htl
                have hk65 : k < 65 := by rw [← hyl]; exact htop.lt
                have htwo := htop.two
                have hle := Nl.le_sum ys (fun x hx => by
                  obtain ⟨i, hi, rfl⟩ := mem_getD hx
                  exact hok1.nn i (by rw [H65.out, ← hyl]; exact hi)) _ (Nl.getD_mem htop.lt)
                rw [hsum] at hle
                obtain ⟨x, hx⟩ : ∃ x, x = ys.getD k 0 := ⟨_, rfl⟩
                have hcall := rorder_calls (some ⟨g, 0, none⟩) 65 65 ys wl hst.row.rd (by omega)
                have HC := kept hcall
                have HSt6 := kept hst
                have HTl := kept htl
                have HYl := kept hyl
                have HNew : Kept (normL l0 (P : Int) = decTop (q2 - 1 - (P : Int)).toNat (bump ys k (-1)) ∧ Ok l0 (bump ys k (-1)) ∧ (bump ys k (-1)).sum = q2 - 1) := kept ⟨by
                  rw [hnorm, show (q2 - (P : Int)).toNat = (q2 - 1 - (P : Int)).toNat + 1 by omega, hk]; rfl, hok1.step htop, by rw [sum_bump ys k _ htop.lt, hsum]; rfl⟩
                rw [← hx] at htwo hle
                have HX6 := kept hx
                have HBm : Kept (bump ys k (-1) = ys.set k (x - 1)) := kept (by unfold bump; rw [hx]; rfl)
                clear hok1 hsum htop htl hk hcall hst hyl hnorm hok hx
                go_wp2_with fail
                refine HC.out.mono ?_
                rintro e w6 ⟨v6, rfl, hro6⟩
                have HSt7 := kept (HSt6.out.later hro6.low)
                have hrow6 := hro6.own
                rw [HTl.out] at hrow6
                obtain ⟨g6, cap6, rfl, hc6, _⟩ := hrow6.row (by simp [idx])
                have hcell6 : w6.cell? ⟨g6, 0, none⟩ = some (.int .i64 (k : Int)) := hrow6.cell (j := 0) (by simp [idx])
                have hlen6 : (idx (k :: tl)).length = tl.length + 1 := by simp
                rw [hlen6] at hc6
                rw [hlen6]
                have hy6 := HSt7.out.cell k (by rw [HYl.out]; exact hk65)
                rw [← HX6.out] at hy6
                have f6 : w6.frozen? ⟨g, k, none⟩ = false := HSt7.out.row.free k
                have HSt8 : Kept (StR B w (w6.setCell ⟨g, k, none⟩ (.int .i64 (x - 1))) g (bump ys k (-1))) := kept (by rw [HBm.out]; exact HSt7.out.store k (x - 1))
                clear hro6 hrow6 hlen6
                go_wp2_with fail
                go_roundw
                case rel =>
                  refine ⟨q2 - 1, bump ys k (-1), by go_num, HSt8.out, by rw [length_bump]; exact HYl.out, HNew.out.1, fun _ => HNew.out.2, by omega, by omega⟩
                case measure => simp [intOf]; omega
              · have hz : (q2 - (P : Int)).toNat = 0 := by omega
                rw [hz] at hnorm
                have hfin : normL l0 (P : Int) = ys := hnorm
                have HSt6 := kept hst
                have HFin := kept hfin
                have d0 : wl.cell? ⟨B, 0, none⟩ = some (.slice none 0 0) := hst.st.res.cell rfl
                have d1 : wl.cell? ⟨B, 1, none⟩ = some (.int .i64 0) := hst.st.res.cell rfl
                have e0 : wl.frozen? ⟨B, 0, none⟩ = false := hst.st.res.free 0
                have e1 : wl.frozen? ⟨B, 1, none⟩ = false := hst.st.res.free 1
                clear hst hyl hnorm hok hz hfin
                go_wp2_with fail
                refine bodyPost_ret (results_cell_row rfl _ _ B 30 #[.slice (some ⟨g, 0, none⟩) 65 65, .int .i64 0] (0, 0) _ rfl ((HSt6.out.st.res.set 0 _).set 1 _) Try.underlying30 rfl (by kernel_rfl)) rfl ⟨_, rfl, ?_, ?_, ?_⟩
                · rw [HFin.out]
                  exact (HSt6.out.row.setOther (a := ⟨B, 0, none⟩) (HSt6.out.row.ne HSt6.out.st.res (by decide)) _).setOther (a := ⟨B, 1, none⟩) (HSt6.out.row.ne HSt6.out.st.res (by decide)) _
                · intro g' hg'
                  simp [Value.ownBlock] at hg'
                  rw [← hg']; exact HSt6.out.new
                · have h := (HSt6.out.st.low.setCell (p := ⟨B, 0, none⟩) (Nat.le_refl _) (.slice (some ⟨g, 0, none⟩) 65 65)).setCell (p := ⟨B, 1, none⟩) (Nat.le_refl _) (.int .i64 0)
                  exact h
end Go.Proofs.Ytbldocbijihpgaa.PA

-- ---- Nw
/- norm.Get where numbers may stand: what the call answers. Conditions: the text is not longer than a thousand million bytes. -/
namespace Go.Proofs.Ytbldocbijihpgaa.NormG
open Go.RowKit Go.Proofs.YtbldocbijihpgaaW.PrintWords Go.Proofs.YtbldocbijihpgaaW.PrintLast Go.Proofs.YtbldocbijihpgaaW.PrintMore
open Mix _root_.Go.Proofs.Ytbldocbijihpgaa.Own Vt Np PA
set_option linter.unusedVariables false
set_option linter.unusedSimpArgs false
attribute [local go_sem] Own.max_int Own.min_int

def sLenN : Value → Nat
  | .slice _ n _ => n
  | _ => 0
/-- One round of what stands there. -/
theorem parN_round (bs : List Nat) (f k : Nat) (acc : List Int) (h : acc.length < 65) (r : Nat × Nat × Nat) (hr : r = goV 10 true (bs.drop k)) : parN bs (f + 1) k acc =
    if r.2.2 ≠ 0 then ([], 0, r.2.2) else if 0 < r.1 then parN bs f (k + r.2.1) (acc ++ [(r.1 : Int)])
    else if (goV 10 true (bs.drop (k + r.2.1))).2.2 ≠ 0 then ([], 0, (goV 10 true (bs.drop (k + r.2.1))).2.2)
    else if 65 < acc.length + (goV 10 true (bs.drop (k + r.2.1))).1 + 1 then ([], 0, 3)
    else parN bs f (k + r.2.1 + (goV 10 true (bs.drop (k + r.2.1))).2.1) (acc ++ List.replicate ((goV 10 true (bs.drop (k + r.2.1))).1 + 1) 0) := by
  subst hr
  rw [parN, if_neg (by omega)]
theorem parN_end (bs : List Nat) (f k : Nat) (acc : List Int) (h : 65 ≤ acc.length) : parN bs (f + 1) k acc = (acc, k, 0) := by rw [parN, if_pos h]
theorem fin_err (s : ByteArray) (m : Nat) (a : Int) (e : Nat) (h : e ≠ 0) : finN s m a ([], 0, e) = ([], 0, (e : Int)) := by unfold finN; rw [if_pos h]
theorem getNE_fin (s : ByteArray) (m lg : Nat) (hm : m ≤ s.size) (h7 : 7 ≤ lg) (h12 : lg ≤ 12) : getNE s (m : Int) (lg : Int) = finN s m (lg : Int) (parN (bsOf s) 66 m []) := by
  unfold getNE; rw [if_neg (by omega), Int.toNat_natCast]

set_option maxRecDepth 20000 in
set_option maxHeartbeats 4000000 in
theorem nget_calls (s : ByteArray) (m lg : Nat) (w : World) (hs : s.size ≤ 1000000000) (hm : m ≤ s.size) (h7 : 7 ≤ lg) (h12 : lg ≤ 12) (R : List Int × Int × Int) (hR : R = getNE s (m : Int) (lg : Int)) :
    Calls Try.prog 16 #[.string s, .int .i64 (m : Int), .int .i64 (lg : Int)] w fun e w' => ∃ v, e = .returned (.tuple #[v, .int .i64 R.2.1, .int .i64 R.2.2]) ∧ Owns w' 3 v (ints .i64 R.1) ∧ (∀ g, v.ownBlock = some g → w.heap.size ≤ g) ∧ Below w.heap.size w w' := by
  obtain ⟨i0, hi, hz0, hz1, hz2⟩ := info_partsG infoIntG
  rw [getNE_fin s m lg hm h7 h12] at hR
  obtain ⟨B, hB⟩ : ∃ B, B = w.heap.size := ⟨_, rfl⟩
  have t1 : decide ((m : Int) < 0) = false := decide_eq_false (by omega)
  have t2 : decide (s.size < m) = false := decide_eq_false (by omega)
  have hM := fun w1 => NormF.mayLog_calls (lg : Int) w1
  rw [show (decide (7 ≤ (lg : Int)) && decide ((lg : Int) ≤ 12)) = true by rw [decide_eq_true (show 7 ≤ (lg : Int) by omega), decide_eq_true (show (lg : Int) ≤ 12 by omega)]; rfl] at hM
  have HM := kept hM
  have HB := kept hB
  have HR := kept hR
  have hmn0 : Own.mn 0 4097 = 0 := by rw [Own.mn_eq]; omega
  rw [← hB]
  clear hB hR hM
  go_enter Try.func16, Try.ntmps16
  go_upto_region 3 with (first | (go_at_call 23; refine (HM.out _).mono ?_; rintro e w1 ⟨rfl, rfl⟩))
  generalize hwa : World.alloc (World.alloc w _) _ = wa
  obtain ⟨bs, hbs⟩ : ∃ bs, bs = w.heap.size := ⟨_, rfl⟩
  obtain ⟨bn, hbn⟩ : ∃ bn, bn = w.heap.size + 1 := ⟨_, rfl⟩
  have hba : Below w.heap.size w wa := by rw [← hwa]; exact (two_new s w (.int .i64 0)).2
  have hB1 : Blk wa bs #[.string s] 9 := by
    rw [← hwa, hbs]
    exact (((Below.refl _ _).alloc (Nat.le_refl _) _).block _ (by simp)).trans (Blk.fresh _ _ _)
  have hB2 : Blk wa bn #[.int .i64 0] 3 := by
    rw [← hwa, hbn]
    exact Blk.fresh_at _ _ (by simp) _ _
  rw [← hbn, ← hbs]
  have hSb : B ≤ bs := by rw [HB.out, hbs]; exact Nat.le_refl _
  have hSn : B ≤ bn := by rw [HB.out, hbn]; omega
  have hne : bs ≠ bn := by omega
  have hf0 := hB2.free 0
  have hc0 := hB2.cell (i := 0) rfl
  have HS0 : Kept (StN B w (wa.setCell ⟨bn, 0, none⟩ (.int .i64 (m : Int))) bs bn s m (.slice none 0 0) (capL 4097 [])) := kept (by
    have hc := Chg.setCell wa ⟨bn, 0, none⟩ (.int .i64 (m : Int))
    have hbw := hba.setCell (p := ⟨bn, 0, none⟩) (by show w.heap.size ≤ bn; omega) (.int .i64 (m : Int))
    exact ⟨hc.keep hB1 hne, hB2.set 0 _, Owns.nil _ _, hSb, hSn, hne, fun g hg => by simp [Value.ownBlock] at hg, by rw [HB.out]; exact hbw, by rw [HB.out]; exact hbw.size⟩)
  clear hwa hba hB1 hB2 hbs hbn hSb hSn hne t1 t2
  go_wp2_with fail
  go_loopw [6] (fun s6 wr => ∃ (v : Value) (acc : List Int) (k f : Nat), s6 = v ∧ StN B w wr bs bn s k v (capL 4097 acc) ∧ parN (bsOf s) 66 m [] = parN (bsOf s) f k acc ∧ 66 ≤ f + acc.length ∧ 1 ≤ f ∧ acc.length ≤ 65 ∧ k ≤ s.size ∧ m ≤ k ∧ (∀ x ∈ acc, 0 ≤ x)) (fun s6 _ => 65 - sLenN s6)
  case atStart => exact ⟨_, [], m, 66, rfl, HS0.out, rfl, by simp, by omega, by simp, hm, Nat.le_refl _, fun x hx => by cases hx⟩
  case round =>
    obtain ⟨v, acc, k, f, rfl, hst, hpa, hf, hf1, hal, hks, hmk, hnn⟩ := hrel
    obtain ⟨av, cv, hv⟩ := sliceI hst.own
    subst hv
    rw [capL_length] at hst ⊢
    obtain ⟨wq, rfl⟩ : ∃ wq, wq = wr := ⟨wr, rfl⟩
    obtain ⟨f, rfl⟩ : ∃ f', f = f' + 1 := ⟨f - 1, by omega⟩
    have HNn := kept hnn
    clear hnn HS0
    by_cases h65 : acc.length < 65
    · obtain ⟨r, hr⟩ : ∃ r, r = goV 10 true ((bsOf s).drop k) := ⟨_, rfl⟩
      have hpe := parN_round (bsOf s) f k acc h65 r hr
      have herr := goV_err 10 true ((bsOf s).drop k)
      have hsz := goV_size 10 true ((bsOf s).drop k)
      have hbd := goV_bound 9 true ((bsOf s).drop k)
      rw [← hr] at herr hsz hbd
      rw [List.length_drop, length_bsOf] at hsz
      obtain ⟨k2, hk2⟩ : ∃ k2, k2 = if r.2.2 = 0 then k + r.2.1 else k := ⟨_, rfl⟩
      have HRead := kept (nread_calls bs bn s k wq hs hks (hst.str.cell (i := 0) rfl) hst.nxt r hr k2 hk2)
      have HSt := kept hst
      obtain ⟨q1, q2, q3⟩ := r
      simp only at hpe herr hsz hbd hk2 HRead
      by_cases h3 : q3 = 0
      · subst h3
        obtain ⟨hq21, hq22, hq23⟩ := hsz rfl
        rw [if_neg (by simp)] at hpe
        rw [if_pos rfl] at hk2
        have h128 : 2 * 128 ^ 9 = 18446744073709551616 := by decide
        have hq64 : q1 < 18446744073709551616 := by omega
        clear hr herr hst
        by_cases hq0 : 0 < q1
        · rw [if_pos hq0] at hpe
          obtain ⟨c, hc⟩ : ∃ c : Nat, c = min q1 4097 := ⟨_, rfl⟩
          have hmn : Own.mn (q1 : Int) 4097 = (c : Int) := by rw [Own.mn_eq]; omega
          have hc4 : c ≤ 4097 := by omega
          have hcap : ∀ l : List Int, capL 4097 (l ++ [(q1 : Int)]) = capL 4097 l ++ [(c : Int)] := fun l => by rw [capL_snoc]; congr 2; omega
          have HCap := kept hcap
          have HPa : Kept (parN (bsOf s) 66 m [] = parN (bsOf s) f k2 (acc ++ [(q1 : Int)])) := kept (by rw [hpa, hpe, hk2])
          have hk2s : k2 ≤ s.size := by omega
          have tn : ((q1 : Int) == 0) = false := by rw [beq_eq_false_iff_ne]; omega
          have tq : decide ((65 : Int) - (acc.length : Int) ≤ 0) = false := decide_eq_false (by omega)
          have HK2 := kept hk2
          clear hpe hpa hcap hc hk2 hbd hsz
          go_wp2_with fail
          refine HRead.out.mono ?_
          rintro e w2 ⟨rfl, hR2, hc2⟩
          have HS2 := kept (HSt.out.got hR2 hc2)
          clear hR2 hc2
          go_wp2_with fail
          go_loopw [6, 57] (fun s6 s57 wx => ∃ (vj : Value) (j : Nat), s6 = vj ∧ s57 = .int .u64 (j : Int) ∧ j ≤ 0 + 1 ∧ StN B w wx bs bn s k2 vj (capL 4097 acc ++ List.replicate j (c : Int))) (fun _ s57 _ => 0 + 1 - (intOf s57).toNat)
          case atStart => exact ⟨_, 0, rfl, rfl, by omega, by simpa using HS2.out⟩
          case round =>
            obtain ⟨_, j, rfl, rfl, hj, hst⟩ := hrel
            obtain ⟨aj, cj, hvj⟩ := sliceI hst.own
            subst hvj
            have hlv : (capL 4097 acc ++ List.replicate j (c : Int)).length = acc.length + j := by simp [capL_length]
            rw [hlv] at hst ⊢
            by_cases hjq : j < 0 + 1
            · have HSj := kept hst
              have HLj := kept (show acc.length + j ≤ 200 by omega)
              have HLv := kept hlv
              clear hst hlv
              go_wp2_with (first | (at_builtin; go_loud (refine wpList_app1 rfl _ _ 24 rfl 3 i0 (.int .i64 0) 8 Try.underlying24 hi hz0 hz1 hz2 rfl (.slice aj (acc.length + j) cj) _ (.int .i64 (c : Int)) rfl HSj.out.own rfl rfl ?_ ?_ ?_)))
              · have := HLj.out; rw [length_ints, HLv.out]; simp only [maxLen]; omega
              · have := HLj.out; rw [length_ints, HLv.out]; omega
              intro v5 w5 O5 C5 F5
              have e5 : ints .i64 (capL 4097 acc ++ List.replicate j (c : Int)) ++ [.int .i64 (c : Int)] = ints .i64 (capL 4097 acc ++ List.replicate (j + 1) (c : Int)) := by simp [ints, List.replicate_succ', ← List.append_assoc]
              rw [e5] at O5
              have HS5 := kept (HSj.out.app O5 C5 F5)
              clear O5 C5 F5 e5
              go_wp2_with fail
              go_roundw
              case rel => exact ⟨v5, j + 1, rfl, by go_num, by omega, HS5.out⟩
              case measure => simp [intOf]; omega
            · have hje : j = 0 + 1 := by omega
              subst hje
              have HSj := kept hst
              clear hst hjq hlv
              go_wp2_with fail
              go_roundw
              case rel => exact ⟨_, acc ++ [(q1 : Int)], k2, f, rfl, by rw [HCap.out]; exact HSj.out, HPa.out, by simp; omega, by omega, by simp; omega, hk2s, by have := HK2.out; omega, fun x hx => by
                  rcases List.mem_append.1 hx with hx | hx
                  · exact HNn.out x hx
                  · simp at hx; omega⟩
              case measure => simp [sLenN]; omega
        · have hnz : q1 = 0 := by omega
          subst hnz
          rw [if_neg hq0, ← hk2] at hpe
          have hk2s : k2 ≤ s.size := by omega
          have hmk2 : m ≤ k2 := by omega
          have HPe := kept hpe
          have HPa0 := kept hpa
          clear hpe hpa hk2 hbd hsz hq0
          go_wp2_with fail
          refine HRead.out.mono ?_
          rintro e w2 ⟨rfl, hR2, hc2⟩
          have HS2 := kept (HSt.out.got hR2 hc2)
          clear hR2 hc2
          obtain ⟨r, hr⟩ : ∃ r, r = goV 10 true ((bsOf s).drop k2) := ⟨_, rfl⟩
          have herr := goV_err 10 true ((bsOf s).drop k2)
          have hsz := goV_size 10 true ((bsOf s).drop k2)
          have hbd := goV_bound 9 true ((bsOf s).drop k2)
          rw [← hr] at herr hsz hbd
          rw [List.length_drop, length_bsOf] at hsz
          obtain ⟨k3, hk3⟩ : ∃ k3, k3 = if r.2.2 = 0 then k2 + r.2.1 else k2 := ⟨_, rfl⟩
          have HRead2 := kept (nread_calls bs bn s k2 w2 hs hk2s (HS2.out.str.cell (i := 0) rfl) HS2.out.nxt r hr k3 hk3)
          have hpe := HPe.out
          have hpa := HPa0.out
          rw [← hr] at hpe
          obtain ⟨p1, p2, p3⟩ := r
          simp only at hpe herr hsz hbd hk3 HRead2
          by_cases h3b : p3 = 0
          · subst h3b
            obtain ⟨hp21, hp22, hp23⟩ := hsz rfl
            rw [if_neg (by simp)] at hpe
            rw [if_pos rfl] at hk3
            have hp64 : p1 < 18446744073709551616 := by omega
            rw [← hk3] at hpe
            have hk3s : k3 ≤ s.size := by omega
            have hmk3 : m ≤ k3 := by omega
            clear hr herr hbd hsz hk3
            by_cases hbig : 65 < acc.length + p1 + 1
            · rw [if_pos hbig] at hpe
              have HE : Kept (R = ([], 0, 3)) := kept (by rw [HR.out, hpa, hpe, fin_err _ _ _ _ (by decide)]; rfl)
              have tq : decide ((65 : Int) - (acc.length : Int) ≤ (p1 : Int)) = true := decide_eq_true (by omega)
              clear hpe hpa
              go_wp2_with fail
              refine HRead2.out.mono ?_
              rintro e w3 ⟨rfl, hR3, hc3⟩
              have HS3 := kept (HS2.out.got hR3 hc3)
              have hf3 := HS3.out.nxt.free 0
              have hcc3 := HS3.out.nxt.cell (i := 0) rfl
              clear hR3 hc3
              go_wp2_with fail
              exact bodyPost_ret (results_tct rfl _ _ _ ⟨bn, 0, none⟩ (.int .i64 0) rfl (load_int _ _ _ ((HS3.out.nxt.set 0 _).cell (i := 0) rfl))) rfl ⟨.slice none 0 0, by rw [HE.out]; rfl, by rw [HE.out]; exact Owns.nil _ _, fun g hg => by simp [Value.ownBlock] at hg, HS3.out.low.setCell (p := ⟨bn, 0, none⟩) HS3.out.nB _⟩
            · rw [if_neg hbig] at hpe
              have HPa : Kept (parN (bsOf s) 66 m [] = parN (bsOf s) f k3 (acc ++ List.replicate (p1 + 1) 0)) := kept (by rw [hpa, hpe])
              have HCap : Kept (capL 4097 (acc ++ List.replicate (p1 + 1) 0) = capL 4097 acc ++ List.replicate (p1 + 1) 0) := kept (capL_zeros _ _ _ (by omega))
              have tq : decide ((65 : Int) - (acc.length : Int) ≤ (p1 : Int)) = false := decide_eq_false (by omega)
              have hp65 : p1 < 65 := by omega
              clear hpe hpa
              go_wp2_with fail
              refine HRead2.out.mono ?_
              rintro e w3 ⟨rfl, hR3, hc3⟩
              have HS3 := kept (HS2.out.got hR3 hc3)
              clear hR3 hc3
              go_wp2_with fail
              go_loopw [6, 57] (fun s6 s57 wx => ∃ (vj : Value) (j : Nat), s6 = vj ∧ s57 = .int .u64 (j : Int) ∧ j ≤ p1 + 1 ∧ StN B w wx bs bn s k3 vj (capL 4097 acc ++ List.replicate j 0)) (fun _ s57 _ => p1 + 1 - (intOf s57).toNat)
              case atStart => exact ⟨_, 0, rfl, rfl, by omega, by simpa using HS3.out⟩
              case round =>
                obtain ⟨_, j, rfl, rfl, hj, hst⟩ := hrel
                obtain ⟨aj, cj, hvj⟩ := sliceI hst.own
                subst hvj
                have hlv : (capL 4097 acc ++ List.replicate j (0 : Int)).length = acc.length + j := by simp [capL_length]
                rw [hlv] at hst ⊢
                by_cases hjq : j < p1 + 1
                · have HSj := kept hst
                  have HLj := kept (show acc.length + j ≤ 200 by omega)
                  have HLv := kept hlv
                  clear hst hlv
                  go_wp2_with (first | (at_builtin; go_loud (refine wpList_app1 rfl _ _ 24 rfl 3 i0 (.int .i64 0) 8 Try.underlying24 hi hz0 hz1 hz2 rfl (.slice aj (acc.length + j) cj) _ (.int .i64 0) rfl HSj.out.own rfl rfl ?_ ?_ ?_)))
                  · have := HLj.out; rw [length_ints, HLv.out]; simp only [maxLen]; omega
                  · have := HLj.out; rw [length_ints, HLv.out]; omega
                  intro v5 w5 O5 C5 F5
                  have e5 : ints .i64 (capL 4097 acc ++ List.replicate j 0) ++ [.int .i64 0] = ints .i64 (capL 4097 acc ++ List.replicate (j + 1) 0) := by simp [ints, List.replicate_succ', ← List.append_assoc]
                  rw [e5] at O5
                  have HS5 := kept (HSj.out.app O5 C5 F5)
                  clear O5 C5 F5 e5
                  go_wp2_with fail
                  go_roundw
                  case rel => exact ⟨v5, j + 1, rfl, by go_num, by omega, HS5.out⟩
                  case measure => simp [intOf]; omega
                · have hje : j = p1 + 1 := by omega
                  subst hje
                  have HSj := kept hst
                  clear hst hjq hlv
                  go_wp2_with fail
                  go_roundw
                  case rel => exact ⟨_, acc ++ List.replicate (p1 + 1) 0, k3, f, rfl, by rw [HCap.out]; exact HSj.out, HPa.out, by simp; omega, by omega, by simp; omega, hk3s, hmk3, fun x hx => by
                      rcases List.mem_append.1 hx with hx | hx
                      · exact HNn.out x hx
                      · have := (List.mem_replicate.1 hx).2; omega⟩
                  case measure => simp [sLenN]; omega
          · rw [if_pos (by simpa using h3b)] at hpe
            have HE : Kept (R = ([], 0, (p3 : Int))) := kept (by rw [HR.out, hpa, hpe, fin_err _ _ _ _ h3b])
            have t3 : ((p3 : Int) != 0) = true := by rw [bne_iff_ne]; omega
            clear hr herr hbd hsz hk3 hpe hpa h3b
            go_wp2_with fail
            refine HRead2.out.mono ?_
            rintro e w3 ⟨rfl, hR3, hc3⟩
            have HS3 := kept (HS2.out.got hR3 hc3)
            have hf3 := HS3.out.nxt.free 0
            have hcc3 := HS3.out.nxt.cell (i := 0) rfl
            clear hR3 hc3
            go_wp2_with fail
            exact bodyPost_ret (results_tct rfl _ _ _ ⟨bn, 0, none⟩ (.int .i64 0) rfl (load_int _ _ _ ((HS3.out.nxt.set 0 _).cell (i := 0) rfl))) rfl ⟨.slice none 0 0, by rw [HE.out]; rfl, by rw [HE.out]; exact Owns.nil _ _, fun g hg => by simp [Value.ownBlock] at hg, HS3.out.low.setCell (p := ⟨bn, 0, none⟩) HS3.out.nB _⟩
      · rw [if_pos (by simpa using h3)] at hpe
        have HE : Kept (R = ([], 0, (q3 : Int))) := kept (by rw [HR.out, hpa, hpe, fin_err _ _ _ _ h3])
        have t3 : ((q3 : Int) != 0) = true := by rw [bne_iff_ne]; omega
        clear hr herr hbd hsz hk2 hpe hpa h3 hst
        go_wp2_with fail
        refine HRead.out.mono ?_
        rintro e w3 ⟨rfl, hR3, hc3⟩
        have HS3 := kept (HSt.out.got hR3 hc3)
        have hf3 := HS3.out.nxt.free 0
        have hcc3 := HS3.out.nxt.cell (i := 0) rfl
        clear hR3 hc3
        go_wp2_with fail
        exact bodyPost_ret (results_tct rfl _ _ _ ⟨bn, 0, none⟩ (.int .i64 0) rfl (load_int _ _ _ ((HS3.out.nxt.set 0 _).cell (i := 0) rfl))) rfl ⟨.slice none 0 0, by rw [HE.out]; rfl, by rw [HE.out]; exact Owns.nil _ _, fun g hg => by simp [Value.ownBlock] at hg, HS3.out.low.setCell (p := ⟨bn, 0, none⟩) HS3.out.nB _⟩
    · have hacc65 : acc.length = 65 := by omega
      have hpe := parN_end (bsOf s) f k acc (by omega)
      have HE : Kept (R = finN s m (lg : Int) (acc, k, 0)) := kept (by rw [HR.out, hpa, hpe])
      have hcv : acc.length ≤ cv := by
        obtain ⟨a2, c2, hv2, h1, h2, _⟩ := hst.own.rd
        simp only [Value.slice.injEq, length_ints, capL_length] at hv2 h1
        obtain ⟨_, _, rfl⟩ := hv2; exact h1
      have hcl := capL_length 4097 acc
      have hCn : ∀ n : Lat wq, Kd.C (Kd.int .i64) n.w av acc.length (capL 4097 acc) := fun n => C_of_rd (hst.own.rd.later n.below)
      obtain ⟨km, hkm⟩ := (may_is (capL 4097 acc) (lg : Int)).rounds
      rw [capL_may 4097 acc (lg : Int) (by omega)] at hkm
      have hMay : ∀ n : Lat wq, Calls Try.prog 15 #[.slice av acc.length cv, .int .i64 (lg : Int)] n.w fun e w' => e = .returned (.bool (Sp.mayN acc (lg : Int))) ∧ Below n.w.heap.size n.w w' := fun n => by
        have h := norm_May.calls km av cv (capL 4097 acc) (lg : Int) _ n.w (by rw [hcl]; exact hCn n) (by rw [hcl]; exact hcv) hkm
        rw [hcl] at h
        exact h.mono fun e w' ⟨he, hd⟩ => ⟨he, hd.below⟩
      have HMay := kept hMay
      have HSt := kept hst
      have HCn := kept hCn
      have HCv := kept hcv
      have hs0 := hst.str.cell (i := 0) rfl
      have hn0 := hst.nxt.cell (i := 0) rfl
      have q0 := lat_cell hs0
      have q1 := lat_cell hn0
      have hmk1 : (m : Int) ≤ (k : Int) := by omega
      have hks1 : (k : Int) ≤ (s.size : Int) := by omega
      rw [hacc65] at HMay HSt HCn HCv ⊢
      clear hpe hpa hst hkm hMay hCn hcv hs0 hn0
      go_upto_region 20 with fail
      cases hml : Sp.mayN acc (lg : Int) with
      | false =>
        rw [hml] at HMay
        have HE2 : Kept (R = ([], 0, 3)) := kept (by rw [HE.out]; unfold finN; rw [if_neg (by simp), if_neg (by rw [hml]; simp)])
        clear hml HE
        refine wp_region_quietL (by kernel_rfl) (by kernel_rfl) ?_
        repeat (go_big_quiet_step (first | (go_at_call 15; exact lat_call (HMay.out _))))
        refine wpQuiet_nil ?_
        intro nq
        have hS3 : Blk nq.w bn #[.int .i64 (k : Int)] 3 := (nq.below.block bn HSt.out.nxt.lt).trans HSt.out.nxt
        have HS3 := kept hS3
        have hf3 := hS3.free 0
        have hcc3 := hS3.cell (i := 0) rfl
        have HBq := kept (HSt.out.low.trans (nq.below.mono HSt.out.sz))
        clear hS3
        go_wp2_with fail
        exact bodyPost_ret (results_tct rfl _ _ _ ⟨bn, 0, none⟩ (.int .i64 0) rfl (load_int _ _ _ ((HS3.out.set 0 _).cell (i := 0) rfl))) rfl ⟨.slice none 0 0, by rw [HE2.out]; rfl, by rw [HE2.out]; exact Owns.nil _ _, fun g hg => by simp [Value.ownBlock] at hg, HBq.out.setCell (p := ⟨bn, 0, none⟩) HSt.out.nB _⟩
      | true =>
        rw [hml] at HMay
        have hid := capL_of_may 4097 acc (lg : Int) (by omega) hml
        have hrange : ∀ x ∈ acc, 0 ≤ x ∧ x < 9223372036854775808 := fun x hx => by
          rw [← hid] at hx
          obtain ⟨y, hy, rfl⟩ := List.mem_map.1 hx
          have := HNn.out y hy
          omega
        rw [hid] at HCn HSt
        obtain ⟨T, hT⟩ : ∃ T, T = txt (nputL acc) := ⟨_, rfl⟩
        have hPut : ∀ n : Lat wq, Calls Try.prog 19 #[.slice av 65 cv] n.w fun e w' => e = .returned (.string T) ∧ Below n.w.heap.size n.w w' := fun n => by
          have h := NormP.nput_calls av cv acc n.w (by rw [hacc65]; exact HCn.out n) (by rw [hacc65]; exact HCv.out) hrange (by omega)
          rw [hacc65, ← hT] at h; exact h
        have HPut := kept hPut
        have HML := kept hml
        have HT := kept hT
        clear hml hT hPut hrange hid
        refine wp_region_quietL (by kernel_rfl) (by kernel_rfl) ?_
        repeat (go_big_quiet_step (first | (go_at_call 15; exact lat_call (HMay.out _)) | (go_at_call 19; exact lat_call (HPut.out _))))
        refine wpQuiet_nil ?_
        intro nq
        have hq : T.toList = (s.extract m k).toList ↔ nputL acc = ((bsOf s).take k).drop m := by
          rw [toList_injV, HT.out]
          constructor
          · intro h
            have := congrArg bsOf h
            rwa [bsOf_txt _ (nputL_byte acc), bsOf_extract] at this
          · intro h
            apply bsOf_inj
            rw [bsOf_txt _ (nputL_byte acc), bsOf_extract, h]
        have hS3 : Blk nq.w bn #[.int .i64 (k : Int)] 3 := (nq.below.block bn HSt.out.nxt.lt).trans HSt.out.nxt
        have HS3 := kept hS3
        have HBq := kept (HSt.out.low.trans (nq.below.mono HSt.out.sz))
        by_cases heq : T.toList = (s.extract m k).toList
        · have te : (T.toList == (s.extract m k).toList) = true := by rw [beq_iff_eq]; exact heq
          have HE2 : Kept (R = (acc, (k : Int), 0)) := kept (by rw [HE.out]; unfold finN; rw [if_neg (by simp), if_pos ⟨HML.out, hq.1 heq⟩])
          have HTe := kept te
          have hl := HSt.out.own.keep (w' := nq.w) fun g _ hg => nq.below.block g hg
          have HL := kept hl
          clear heq te hq hS3 hl
          rw [HTe.out]
          go_wp2_with fail
          have g2 : nq.w.cell? ⟨bn, 0, none⟩ = some (.int .i64 (k : Int)) := HS3.out.cell (i := 0) rfl
          have g3 : nq.w.drew.cell? ⟨bn, 0, none⟩ = some (.int .i64 (k : Int)) := g2
          have q2 := lat_cell g2
          have q3 := lat_cell g3
          refine wp_region_mixL [] [0,1,2] [3,4] (by kernel_rfl) (by kernel_rfl) ?_
          intro K2 hK2
          simp only [pick, List.filterMap_cons, List.filterMap_nil, List.getElem?_cons_zero, List.getElem?_cons_succ]
          refine wpQuiet_nil ?_
          repeat (show wpQuiet _ _ _ _ (_ :: _) _; go_big_quiet_step (fail))
          refine wpQuiet_nil ?_
          show wpList _ _ _ [_, _] _ _
          have hS4 : Blk nq.w.drew bn #[.int .i64 (k : Int)] 3 := HS3.out
          have HL4 : Kept (Owns nq.w.drew 3 (.slice av 65 cv) (ints .i64 acc)) := kept HL.out
          have HB4 : Kept (Below B w nq.w.drew) := kept HBq.out.drew
          clear g2 g3 q2 q3
          generalize World.drew nq.w = wd at hS4 HL4 HB4 ⊢
          have HS4 := kept hS4
          have hf4 := hS4.free 0
          have hc4 := hS4.cell (i := 0) rfl
          clear hS4
          go_wp2_with fail
          refine hK2 _ _ ?_
          go_wp2_with fail
          have hcs := Chg.setCell wd ⟨bn, 0, none⟩ (.int .i64 (k : Int))
          exact bodyPost_ret (results_tct rfl _ _ _ ⟨bn, 0, none⟩ (.int .i64 (k : Int)) rfl (load_int _ _ _ ((HS4.out.set 0 _).cell (i := 0) rfl))) rfl ⟨_, by rw [HE2.out]; rfl, by rw [HE2.out]; exact HL4.out.chg hcs (fun g hg e => (HSt.out.new g hg).2.1 e), fun g hg => by exact (HSt.out.new g hg).1, HB4.out.setCell (p := ⟨bn, 0, none⟩) HSt.out.nB _⟩
        · have te : (T.toList == (s.extract m k).toList) = false := by rw [beq_eq_false_iff_ne]; exact heq
          have HE2 : Kept (R = ([], 0, 3)) := kept (by rw [HE.out]; unfold finN; rw [if_neg (by simp), if_neg (fun h => heq (hq.2 h.2))])
          have HTe := kept te
          have hf3 := hS3.free 0
          have hcc3 := hS3.cell (i := 0) rfl
          clear heq te hq hS3
          rw [HTe.out]
          go_wp2_with fail
          exact bodyPost_ret (results_tct rfl _ _ _ ⟨bn, 0, none⟩ (.int .i64 0) rfl (load_int _ _ _ ((HS3.out.set 0 _).cell (i := 0) rfl))) rfl ⟨.slice none 0 0, by rw [HE2.out]; rfl, by rw [HE2.out]; exact Owns.nil _ _, fun g hg => by simp [Value.ownBlock] at hg, HBq.out.setCell (p := ⟨bn, 0, none⟩) HSt.out.nB _⟩
end Go.Proofs.Ytbldocbijihpgaa.NormG

-- ---- Nx
/- Numbers of a sum: told again out of their bytes; out of fewer more is needed; other bytes tell others. Plain facts. No program in sight. -/
namespace Go.Proofs.Ytbldocbijihpgaa.Np
set_option linter.unusedSimpArgs false
set_option linter.unusedVariables false
open Vt Nl

theorem size_app (a b : ByteArray) : (a ++ b).size = a.size + b.size := ByteArray.size_append
theorem goV_nat (n : Nat) (rest : List Nat) (h : n < 18446744073709551616) : goV 10 true (putV n ++ rest) = (n, (putV n).length, 0) := goV_putV 9 true n rest h (.inl rfl)
theorem goV_short (n k : Nat) (h : n < 18446744073709551616) (hk : k < (putV n).length) : goV 10 true ((putV n).take k) = (0, 0, 2) := goV_cut 9 true n k h hk
theorem goV_nought (rest : List Nat) : goV 10 true (0 :: rest) = (0, 1, 0) := by
  have h := goV_nat 0 rest (by decide)
  rw [putV_lt (by decide)] at h
  simpa using h
theorem cat_runZ (t acc : List Int) : acc ++ List.replicate (runZ t + 1) 0 ++ t.drop (runZ t) = acc ++ 0 :: t := by
  rw [List.replicate_succ, List.append_assoc, List.cons_append, ← runZ_take, List.take_append_drop]
theorem parN_put (bs rest : List Nat) : ∀ (n : Nat) (l acc : List Int) (f k : Nat), l.length ≤ n → (∀ x ∈ l, 0 ≤ x ∧ x < 18446744073709551616) → acc.length + l.length = 65 → bs.drop k = nputL l ++ rest → l.length < f →
    parN bs f k acc = (acc ++ l, k + (nputL l).length, 0) := by
  intro n
  induction n with
  | zero =>
    intro l acc f k hn _ ha _ hf
    have hl : l = [] := List.length_eq_zero_iff.1 (by omega)
    subst hl
    obtain ⟨f, rfl⟩ : ∃ g, f = g + 1 := ⟨f - 1, by simp at hf; omega⟩
    simp only [parN]
    rw [if_pos (by simp at ha; omega)]
    simp [nputL_nil]
  | succ n ih =>
    intro l acc f k hn hr ha hd hf
    obtain ⟨f, rfl⟩ : ∃ g, f = g + 1 := ⟨f - 1, by omega⟩
    cases l with
    | nil =>
      simp only [parN]
      rw [if_pos (by simp at ha; omega)]
      simp [nputL_nil]
    | cons x t =>
      simp only [List.length_cons] at hn ha hf
      have ht : ∀ x ∈ t, 0 ≤ x ∧ x < 18446744073709551616 := fun x hx => hr x (List.mem_cons_of_mem _ hx)
      by_cases hx : x = 0
      · subst hx
        rw [nputL_zero] at hd ⊢
        obtain ⟨r, hrr⟩ : ∃ r, r = runZ t := ⟨_, rfl⟩
        have hrl : r ≤ t.length := by rw [hrr]; exact runZ_le t
        have hc := cat_runZ t acc
        rw [← hrr] at hd hc ⊢
        have e1 : goV 10 true (bs.drop k) = (0, 1, 0) := by rw [hd]; exact goV_nought _
        have hd1 : bs.drop (k + 1) = putV r ++ (nputL (t.drop r) ++ rest) := by
          rw [← List.drop_drop, hd]; simp
        have e2 : goV 10 true (bs.drop (k + 1)) = (r, (putV r).length, 0) := by rw [hd1]; exact goV_nat _ _ (by omega)
        have hd2 : bs.drop (k + 1 + (putV r).length) = nputL (t.drop r) ++ rest := by
          rw [← List.drop_drop, hd1]; simp
        have hi := ih (t.drop r) (acc ++ List.replicate (r + 1) 0) f (k + 1 + (putV r).length) (by rw [List.length_drop]; omega) (fun x hx => ht x (List.mem_of_mem_drop hx)) (by rw [List.length_append, List.length_replicate, List.length_drop]; omega) hd2 (by rw [List.length_drop]; omega)
        simp only [parN, e1, e2]
        rw [if_neg (by omega), if_neg (by simp), if_neg (by omega), if_neg (by simp), if_neg (by omega), hi, hc]
        simp only [List.length_cons, List.length_append, Prod.mk.injEq, true_and, and_true]
        omega
      · have hx2 := hr x (List.mem_cons_self)
        rw [nputL_pos x t hx] at hd ⊢
        have e1 : goV 10 true (bs.drop k) = (x.toNat, (putV x.toNat).length, 0) := by rw [hd, List.append_assoc]; exact goV_nat _ _ (by omega)
        have hd2 : bs.drop (k + (putV x.toNat).length) = nputL t ++ rest := by
          rw [← List.drop_drop, hd, List.append_assoc]; simp
        have hi := ih t (acc ++ [(x.toNat : Int)]) f (k + (putV x.toNat).length) (by omega) ht (by simp; omega) hd2 (by omega)
        simp only [parN, e1]
        rw [if_neg (by omega), if_neg (by simp), if_pos (by omega), hi]
        have ex : (x.toNat : Int) = x := by omega
        rw [ex, List.append_assoc, List.length_append]
        simp only [List.cons_append, List.nil_append, Prod.mk.injEq, true_and, and_true]
        omega
theorem parN_cut (bs : List Nat) : ∀ (n : Nat) (l acc : List Int) (f k c : Nat), l.length ≤ n → (∀ x ∈ l, 0 ≤ x ∧ x < 18446744073709551616) → acc.length + l.length = 65 → bs.drop k = (nputL l).take c → c < (nputL l).length → l.length < f →
    parN bs f k acc = ([], 0, 2) := by
  intro n
  induction n with
  | zero =>
    intro l acc f k c hn _ ha _ hc hf
    have hl : l = [] := List.length_eq_zero_iff.1 (by omega)
    subst hl
    simp [nputL_nil] at hc
  | succ n ih =>
    intro l acc f k c hn hr ha hd hc hf
    obtain ⟨f, rfl⟩ : ∃ g, f = g + 1 := ⟨f - 1, by omega⟩
    cases l with
    | nil => simp [nputL_nil] at hc
    | cons x t =>
      simp only [List.length_cons] at hn ha hf
      have ht : ∀ x ∈ t, 0 ≤ x ∧ x < 18446744073709551616 := fun x hx => hr x (List.mem_cons_of_mem _ hx)
      by_cases hx : x = 0
      · subst hx
        rw [nputL_zero] at hd hc
        obtain ⟨r, hrr⟩ : ∃ r, r = runZ t := ⟨_, rfl⟩
        have hrl : r ≤ t.length := by rw [hrr]; exact runZ_le t
        rw [← hrr] at hd hc
        cases c with
        | zero =>
          have e1 : goV 10 true (bs.drop k) = (0, 0, 2) := by rw [hd]; rfl
          simp only [parN, e1]
          rw [if_neg (by omega), if_pos (by simp)]
        | succ c =>
          rw [List.take_succ_cons] at hd
          have e1 : goV 10 true (bs.drop k) = (0, 1, 0) := by rw [hd]; exact goV_nought _
          have hd1 : bs.drop (k + 1) = (putV r ++ nputL (t.drop r)).take c := by
            rw [← List.drop_drop, hd]; simp
          by_cases h2 : c < (putV r).length
          · have e2 : goV 10 true (bs.drop (k + 1)) = (0, 0, 2) := by
              rw [hd1, List.take_append_of_le_length (by omega)]; exact goV_short _ _ (by omega) h2
            simp only [parN, e1, e2]
            rw [if_neg (by omega), if_neg (by simp), if_neg (by omega), if_pos (by simp)]
          · have e3 : (putV r ++ nputL (t.drop r)).take c = putV r ++ (nputL (t.drop r)).take (c - (putV r).length) := by
              rw [List.take_append, List.take_of_length_le (by omega)]
            have e2 : goV 10 true (bs.drop (k + 1)) = (r, (putV r).length, 0) := by rw [hd1, e3]; exact goV_nat _ _ (by omega)
            have hd2 : bs.drop (k + 1 + (putV r).length) = (nputL (t.drop r)).take (c - (putV r).length) := by
              rw [← List.drop_drop, hd1, e3]; simp
            have hi := ih (t.drop r) (acc ++ List.replicate (r + 1) 0) f (k + 1 + (putV r).length) (c - (putV r).length) (by rw [List.length_drop]; omega) (fun x hx => ht x (List.mem_of_mem_drop hx)) (by rw [List.length_append, List.length_replicate, List.length_drop]; omega) hd2 (by simp only [List.length_cons, List.length_append] at hc; omega) (by rw [List.length_drop]; omega)
            simp only [parN, e1, e2]
            rw [if_neg (by omega), if_neg (by simp), if_neg (by omega), if_neg (by simp), if_neg (by omega), hi]
      · have hx2 := hr x (List.mem_cons_self)
        rw [nputL_pos x t hx] at hd hc
        by_cases h2 : c < (putV x.toNat).length
        · have e2 : goV 10 true (bs.drop k) = (0, 0, 2) := by
            rw [hd, List.take_append_of_le_length (by omega)]; exact goV_short _ _ (by omega) h2
          simp only [parN, e2]
          rw [if_neg (by omega), if_pos (by simp)]
        · have e3 : (putV x.toNat ++ nputL t).take c = putV x.toNat ++ (nputL t).take (c - (putV x.toNat).length) := by
            rw [List.take_append, List.take_of_length_le (by omega)]
          have e1 : goV 10 true (bs.drop k) = (x.toNat, (putV x.toNat).length, 0) := by rw [hd, e3]; exact goV_nat _ _ (by omega)
          have hd2 : bs.drop (k + (putV x.toNat).length) = (nputL t).take (c - (putV x.toNat).length) := by
            rw [← List.drop_drop, hd, e3]; simp
          have hi := ih t (acc ++ [(x.toNat : Int)]) f (k + (putV x.toNat).length) (c - (putV x.toNat).length) (by omega) ht (by simp; omega) hd2 (by simp only [List.length_append] at hc; omega) (by omega)
          simp only [parN, e1]
          rw [if_neg (by omega), if_neg (by simp), if_pos (by omega), hi]

theorem mayN_is {l : List Int} {a : Int} (h : Sp.mayN l a = true) : 7 ≤ a ∧ a ≤ 12 ∧ l.length = 65 ∧ ∀ x ∈ l, 0 ≤ x ∧ x ≤ 4096 := by
  unfold Sp.mayN at h
  rw [decide_eq_true_eq] at h
  obtain ⟨h1, h2, h3, h4, _⟩ := h
  have := (pow_le12 a ⟨h1, h2⟩).1
  exact ⟨h1, h2, h3, fun x hx => by have := h4 x hx; omega⟩
theorem put_size {l : List Int} {a : Int} (h : Sp.mayN l a = true) : (txt (nputL l)).size = (nputL l).length ∧ 1 ≤ (nputL l).length ∧ (nputL l).length ≤ 715 := by
  obtain ⟨_, _, h65, hr⟩ := mayN_is h
  refine ⟨size_txt _, ?_, ?_⟩
  · cases l with
    | nil => simp at h65
    | cons x t =>
      by_cases hx : x = 0
      · subst hx; rw [nputL_zero]; simp
      · rw [nputL_pos x t hx]
        have := putV_len_pos x.toNat
        rw [List.length_append]; omega
  · have := nputL_len l (fun x hx => by have := hr x hx; omega) (by omega)
    omega
theorem get_put {l : List Int} {a : Int} (h : Sp.mayN l a = true) (s2 s3 : ByteArray) : getNE (s2 ++ txt (nputL l) ++ s3) (s2.size : Int) a = (l, ((s2.size + (txt (nputL l)).size : Nat) : Int), 0) := by
  obtain ⟨h7, h12, h65, hr⟩ := mayN_is h
  have hz := size_txt (nputL l)
  have hb := bsOf_txt (nputL l) (nputL_byte l)
  have hbs : bsOf (s2 ++ txt (nputL l) ++ s3) = bsOf s2 ++ (nputL l ++ bsOf s3) := by rw [bsOf_append, bsOf_append, hb, List.append_assoc]
  have hl2 := length_bsOf s2
  unfold getNE
  rw [if_neg (by rw [size_app, size_app]; omega), Int.toNat_natCast]
  have hd : (bsOf (s2 ++ txt (nputL l) ++ s3)).drop s2.size = nputL l ++ bsOf s3 := by
    rw [hbs, ← hl2]; simp
  have hp := parN_put _ _ l.length l [] 66 s2.size (Nat.le_refl _) (fun x hx => by have := hr x hx; omega) (by simpa using h65) hd (by omega)
  rw [hp]
  unfold finN
  rw [if_neg (by simp), if_pos]
  · simp only [List.nil_append, hz]
  · refine ⟨by simpa using h, ?_⟩
    simp only [List.nil_append]
    rw [List.drop_take, hd]
    simp
theorem get_cut {l : List Int} {a : Int} (h : Sp.mayN l a = true) (c : Nat) (hc : c < (txt (nputL l)).size) : getNE ((txt (nputL l)).extract 0 c) 0 a = ([], 0, 2) := by
  obtain ⟨h7, h12, h65, hr⟩ := mayN_is h
  have hz := size_txt (nputL l)
  have hb := bsOf_txt (nputL l) (nputL_byte l)
  unfold getNE
  rw [if_neg (by omega)]
  have hd : (bsOf ((txt (nputL l)).extract 0 c)).drop 0 = (nputL l).take c := by rw [bsOf_extract, hb]; simp
  have hp := parN_cut _ l.length l [] 66 0 c (Nat.le_refl _) (fun x hx => by have := hr x hx; omega) (by simpa using h65) hd (by omega) (by omega)
  rw [show (0 : Int).toNat = 0 from rfl, hp]
  unfold finN
  rw [if_pos (by simp)]
  rfl
theorem getNE_ok {s : ByteArray} {a : Int} {n : List Int} {x : Int} (h : getNE s 0 a = (n, x, 0)) : n.length = 65 ∧ ∃ j, nputL n = (bsOf s).take j := by
  unfold getNE at h
  split at h
  · simp only [Prod.mk.injEq] at h; omega
  · unfold finN at h
    split at h
    · rename_i h2
      simp only [Prod.mk.injEq] at h
      omega
    · split at h
      · rename_i hc
        simp only [Prod.mk.injEq] at h
        obtain ⟨h1, h3, _⟩ := h
        rw [← h1]
        exact ⟨(mayN_is hc.1).2.2.1, _, by rw [hc.2]; rfl⟩
      · simp only [Prod.mk.injEq] at h; omega
theorem get_other {l : List Int} {a : Int} {s : ByteArray} {nx : Int} (hsz : s.size = (txt (nputL l)).size) (hg : getNE s 0 a = (l, nx, 0)) : s = txt (nputL l) := by
  obtain ⟨_, j, hj⟩ := getNE_ok hg
  have hz := size_txt (nputL l)
  have hl := length_bsOf s
  have h2 := congrArg List.length hj
  rw [List.length_take] at h2
  rw [hj, List.take_of_length_le (by omega), txt_bsOf]

/- One class alone. -/
def oneL (k m : Nat) : List Int := (List.replicate 65 0).set k ((2 ^ m : Nat) : Int)
theorem putV_small (n : Nat) (h : n < 128) : putV n = [n] := putV_lt h
theorem putV_two (n : Nat) (h : 128 ≤ n) (h2 : n < 16384) : putV n = [n % 128 + 128, n / 128] := by rw [putV_ge h, putV_lt (by omega)]
theorem runZ_rep (n : Nat) (l : List Int) (h : runZ l = 0) : runZ (List.replicate n 0 ++ l) = n := by
  induction n with
  | zero => simpa using h
  | succ n ih => rw [List.replicate_succ, List.cons_append]; simp only [runZ]; rw [if_pos trivial, ih]
theorem nput_rep (n : Nat) (l : List Int) (h : runZ l = 0) (hn : n < 128) : nputL (List.replicate (n + 1) 0 ++ l) = 0 :: n :: nputL l := by
  rw [List.replicate_succ, List.cons_append, nputL_zero, runZ_rep n l h, putV_small n hn]
  simp
theorem oneL_is (k m : Nat) (hk : k < 65) : oneL k m = List.replicate k 0 ++ ((2 ^ m : Nat) : Int) :: List.replicate (64 - k) 0 := by
  unfold oneL
  apply List.ext_getElem?
  intro i
  rw [List.getElem?_set]
  by_cases h1 : i < k
  · rw [if_neg (by omega), List.getElem?_append_left (by simpa using h1), List.getElem?_replicate, List.getElem?_replicate, if_pos (by omega), if_pos h1]
  · rw [List.getElem?_append_right (by simpa using Nat.le_of_not_lt h1)]
    by_cases h2 : k = i
    · subst h2; simp; omega
    · rw [if_neg h2]
      obtain ⟨j, hj⟩ : ∃ j, i = k + 1 + j := ⟨i - k - 1, by omega⟩
      subst hj
      rw [List.length_replicate, show k + 1 + j - k = j + 1 by omega, List.getElem?_cons_succ, List.getElem?_replicate, List.getElem?_replicate]
      by_cases h3 : k + 1 + j < 65
      · rw [if_pos h3, if_pos (by omega)]
      · rw [if_neg h3, if_neg (by omega)]
def headB (k : Nat) : List Nat := if 0 < k then [0, k - 1] else []
def tailB (k : Nat) : List Nat := if k < 64 then [0, 63 - k] else []
theorem one_put (k m : Nat) (hk : k < 65) (h7 : 7 ≤ m) (h12 : m ≤ 12) : nputL (oneL k m) = headB k ++ [128, 2 ^ (m - 7)] ++ tailB k := by
  have hp : 2 ^ m % 128 = 0 ∧ 2 ^ m / 128 = 2 ^ (m - 7) ∧ 128 ≤ 2 ^ m ∧ 2 ^ m < 16384 := by
    have h1 : m = 7 ∨ m = 8 ∨ m = 9 ∨ m = 10 ∨ m = 11 ∨ m = 12 := by omega
    rcases h1 with h | h | h | h | h | h <;> rw [h] <;> decide
  have hne : ((2 ^ m : Nat) : Int) ≠ 0 := by omega
  have hrz : ∀ t, runZ (((2 ^ m : Nat) : Int) :: t) = 0 := fun t => by simp only [runZ]; rw [if_neg hne]
  have hmid : ∀ t, nputL (((2 ^ m : Nat) : Int) :: t) = 128 :: 2 ^ (m - 7) :: nputL t := fun t => by
    rw [nputL_pos _ _ hne, Int.toNat_natCast, putV_two _ hp.2.2.1 hp.2.2.2, hp.1, hp.2.1]; rfl
  have htail : nputL (List.replicate (64 - k) 0) = tailB k := by
    unfold tailB
    split
    · obtain ⟨j, hj⟩ : ∃ j, 64 - k = j + 1 := ⟨63 - k, by omega⟩
      have := nput_rep j [] rfl (by omega)
      rw [List.append_nil, nputL_nil] at this
      rw [hj, this, show 63 - k = j by omega]
    · rw [show 64 - k = 0 by omega]; rfl
  rw [oneL_is k m hk]
  unfold headB
  split
  · obtain ⟨j, hj⟩ : ∃ j, k = j + 1 := ⟨k - 1, by omega⟩
    rw [hj, nput_rep j _ (hrz _) (by omega), hmid, ← hj, htail, show k - 1 = j by omega]; rfl
  · rw [show k = 0 by omega] at htail ⊢
    rw [List.replicate_zero, List.nil_append, hmid, htail]; rfl
theorem one_may (k m : Nat) (hk : k < 65) (h7 : 7 ≤ m) (h12 : m ≤ 12) : Sp.mayN (oneL k m) (m : Int) = true := by
  have h : ∀ (k : Fin 65) (m : Fin 6), Sp.mayN (oneL k.1 (7 + m.1)) ((7 + m.1 : Nat) : Int) = true := by decide +kernel
  have := h ⟨k, hk⟩ ⟨m - 7, by omega⟩
  simp only [show 7 + (m - 7) = m by omega] at this
  exact this
/-- A row in two parts. -/
theorem odd_get (m : Nat) (h7 : 7 ≤ m) (h12 : m ≤ 12) : getNE (txt [128, 2 ^ (m - 7), 0, 10, 0, 52]) 0 (m : Int) = ([], 0, 3) := by
  have h : ∀ (m : Fin 6), parN [128, 2 ^ m.1, 0, 10, 0, 52] 66 0 [] = (oneL 0 (7 + m.1), 6, 0) := by decide +kernel
  have := h ⟨m - 7, by omega⟩
  simp only [show 7 + (m - 7) = m by omega] at this
  have hb : ∀ x ∈ [128, 2 ^ (m - 7), 0, 10, 0, 52], x < 256 := by
    have h1 : m - 7 = 0 ∨ m - 7 = 1 ∨ m - 7 = 2 ∨ m - 7 = 3 ∨ m - 7 = 4 ∨ m - 7 = 5 := by omega
    rcases h1 with h | h | h | h | h | h <;> rw [h] <;> decide
  unfold getNE
  rw [if_neg (by omega), bsOf_txt _ hb, show (0 : Int).toNat = 0 from rfl, this]
  unfold finN
  rw [if_neg (by simp), if_neg]
  rintro ⟨_, h2⟩
  simp only at h2
  rw [one_put 0 m (by decide) h7 h12, bsOf_txt _ hb] at h2
  have := congrArg List.length h2
  simp [headB, tailB] at this
theorem far_get (m : Nat) (h7 : 7 ≤ m) (h12 : m ≤ 12) : getNE (txt [128, 2 ^ (m - 7), 0, 64]) 0 (m : Int) = ([], 0, 3) := by
  have h : ∀ (m : Fin 6), parN [128, 2 ^ m.1, 0, 64] 66 0 [] = ([], 0, 3) := by decide +kernel
  have := h ⟨m - 7, by omega⟩
  have hb : ∀ x ∈ [128, 2 ^ (m - 7), 0, 64], x < 256 := by
    have h1 : m - 7 = 0 ∨ m - 7 = 1 ∨ m - 7 = 2 ∨ m - 7 = 3 ∨ m - 7 = 4 ∨ m - 7 = 5 := by omega
    rcases h1 with h | h | h | h | h | h <;> rw [h] <;> decide
  unfold getNE
  rw [if_neg (by omega), bsOf_txt _ hb, show (0 : Int).toNat = 0 from rfl]
  simp only at this
  rw [this]
  rfl
end Go.Proofs.Ytbldocbijihpgaa.Np

-- ---- PAx13
/- norm.Of: what the call answers, for every list and log. Conditions: the list's length fits a slice. -/
namespace Go.Proofs.Ytbldocbijihpgaa.PA
open Go.RowKit Go.Proofs.YtbldocbijihpgaaW.PrintWords Go.Proofs.YtbldocbijihpgaaW.PrintLast Go.Proofs.YtbldocbijihpgaaW.PrintMore
set_option linter.unusedVariables false
set_option linter.unusedSimpArgs false

def normO (l : List Int) (a : Int) : List Int × Int := if Nl.frB l = true ∧ 7 ≤ a ∧ a ≤ 12 then (Nl.normL l ((2 ^ a.toNat : Nat) : Int), 0) else ([], 1)
def norm_Of.f (l0 : List Int) (a1 : Int) : Option (List Int × Int) := if l0.length < 200000000000000 then some (normO l0 a1) else none
theorem norm_Of.calls (A0 : Option Addr) (c0 : Nat) (l0 : List Int) (a1 : Int) (r1 : List Int) (r2 : Int) (w : World) (hr0 : Kd.C (Kd.int .i64) w A0 l0.length l0) (hc0 : l0.length ≤ c0) (h : norm_Of.f l0 a1 = some (r1, r2)) :
    Calls Try.prog 11 #[.slice A0 l0.length c0, .int .i64 a1] w fun e w' => ∃ v0_ : Value, e = .returned (.tuple #[v0_, .int .i64 r2]) ∧ Kd.R (Kd.int .i64) 3 w' w.heap.size (fun _ => True) v0_ r1 ∧ Below w.heap.size w w' := by
  unfold norm_Of.f at h
  split at h
  · rename_i hn
    have h := Option.some.inj h
    unfold normO at h
    have hR := Own.rd_of_C hr0
    split at h
    · rename_i hg
      obtain ⟨rfl, rfl⟩ := Prod.mk.inj h
      obtain ⟨m, rfl⟩ := Int.eq_ofNat_of_zero_le (show 0 ≤ a1 by omega)
      have hf := (Nl.frB_iff l0).1 hg.1
      have h65 := hf.len
      rw [h65] at hR ⊢
      refine (NormF.norm_ok A0 c0 l0 m w hR hf (by omega) (by omega)).mono ?_
      rintro e w' ⟨v, rfl, ho, hnew, hb⟩
      exact ⟨v, rfl, Own.R_of_owns (by rw [Int.toNat_natCast]; exact ho) hnew, hb⟩
    · rename_i hg
      obtain ⟨rfl, rfl⟩ := Prod.mk.inj h
      refine (NormF.norm_bad A0 l0.length c0 l0 a1 w hR hn hg).mono ?_
      rintro e w' ⟨rfl, rfl⟩
      exact ⟨_, rfl, Kd.R_nil _ _ _ _ _, Below.refl _ _⟩
  · cases h
end Go.Proofs.Ytbldocbijihpgaa.PA

-- ---- PAx14

namespace Go.Proofs.Ytbldocbijihpgaa.PA
open Go.RowKit Go.Proofs.YtbldocbijihpgaaW.PrintWords Go.Proofs.YtbldocbijihpgaaW.PrintLast Go.Proofs.YtbldocbijihpgaaW.PrintMore
attribute [local go_sem] max2_int min2_int max_two min_two max_three min_three max_four min_four   -- for this text's walks alone
set_option linter.unusedVariables false
set_option linter.unusedSimpArgs false

/-! ### wringerlaw1_Err: function 14 -/
def wringerlaw1_Err.f (a0 : Int) : Option (Int) := some a0
set_option maxHeartbeats 8000000 in
set_option maxRecDepth 100000 in
theorem wringerlaw1_Err.calls (a0 : Int) (r : Int) (w : World) (h : wringerlaw1_Err.f a0 = some r) :
    Calls Try.prog 14 #[.int .i64 a0] w fun e w' => e = .returned (.int .i64 r) ∧ Drawn0 w w' := by
  have H : (some a0) = some r := h
  clear h
  obtain rfl := Option.some.inj H
  go_enter Try.func14, Try.ntmps14
  go_wp2
  go_ret
  exact ⟨by first | rfl | (simp; done) | (simp [*]; done), by repeat (first | exact Drawn0.refl _ | apply Drawn0.step)⟩

end Go.Proofs.Ytbldocbijihpgaa.PA

-- ---- PAx16

namespace Go.Proofs.Ytbldocbijihpgaa.PA
open Go.RowKit Go.Proofs.YtbldocbijihpgaaW.PrintWords Go.Proofs.YtbldocbijihpgaaW.PrintLast Go.Proofs.YtbldocbijihpgaaW.PrintMore
attribute [local go_sem] max2_int min2_int max_two min_two max_three min_three max_four min_four   -- for this text's walks alone
set_option linter.unusedVariables false
set_option linter.unusedSimpArgs false

/-! ### wringerlaw12_awake: function 9 -/
def wringerlaw12_awake.f (k : Nat)  : Option (Bool) := if 65 ≤ 35184372088832 then ((some (List.replicate 65 0 : List Int)).bind fun y119 => (if 7 < (y119.length : Int) then ((norm_Of.f (y119.set (7 : Int).toNat 9) 7).bind fun bt123 => ((wringerlaw1_Err.f bt123.2).bind fun t127 => (if t127 = 0 then (if (bt123.1.length : Int) = 65 then (if 7 < (bt123.1.length : Int) then (if (rd bt123.1 7) = 128 then ((norm_May.f k bt123.1 7).bind fun t129 => (some t129)) else (some false)) else (none)) else (some false)) else (some false)))) else (none))) else (none)
theorem wringerlaw12_awake.mono : ∀ k, LeO (wringerlaw12_awake.f k ) (wringerlaw12_awake.f (k + 1) ) := by
  intro  k
  unfold wringerlaw12_awake.f
  repeat' first
      | (with_reducible exact norm_May.mono _ _ _)
      | (with_reducible exact LeO.refl _)
      | (with_reducible exact LeO.none _)
      | (with_reducible refine LeO.ite ?_ ?_)
      | (with_reducible refine LeO.bind ?_ (fun _ => ?_))
      | exact norm_May.mono _ _ _
      | exact LeO.none _
      | refine LeO.ite ?_ ?_
      | refine LeO.bind ?_ (fun _ => ?_)
set_option maxHeartbeats 8000000 in
set_option maxRecDepth 100000 in
theorem wringerlaw12_awake.calls (k : Nat)  (r : Bool) (w : World) (h : wringerlaw12_awake.f k  = some r) :
    Calls Try.prog 9 #[] w fun e w' => e = .returned (.bool r) ∧ Below w.heap.size w w' := by
  have HB := Aside0.mk (Below.refl w.heap.size w)
  have H : (if 65 ≤ 35184372088832 then ((some (List.replicate 65 0 : List Int)).bind fun y119 => (if 7 < (y119.length : Int) then ((norm_Of.f (y119.set (7 : Int).toNat 9) 7).bind fun bt123 => ((wringerlaw1_Err.f bt123.2).bind fun t127 => (if t127 = 0 then (if (bt123.1.length : Int) = 65 then (if 7 < (bt123.1.length : Int) then (if (rd bt123.1 7) = 128 then ((norm_May.f k bt123.1 7).bind fun t129 => (some t129)) else (some false)) else (none)) else (some false)) else (some false)))) else (none))) else (none)) = some r := h
  clear h
  by_cases c1 : 65 ≤ 35184372088832
  · rw [if_pos c1] at H
    have c1b0 := eq_true c1
    have c1b1 : decide (65 ≤ 35184372088832) = true := decide_eq_true c1
    clear c1
    obtain ⟨y119, hy119⟩ : ∃ y_ : List Int, y_ = (List.replicate 65 0) := ⟨_, rfl⟩
    replace H : (if 7 < (y119.length : Int) then ((norm_Of.f (y119.set (7 : Int).toNat 9) 7).bind fun bt123 => ((wringerlaw1_Err.f bt123.2).bind fun t127 => (if t127 = 0 then (if (bt123.1.length : Int) = 65 then (if 7 < (bt123.1.length : Int) then (if (rd bt123.1 7) = 128 then ((norm_May.f k bt123.1 7).bind fun t129 => (some t129)) else (some false)) else (none)) else (some false)) else (some false)))) else (none)) = some r := by first | (rw [hy119]; with_reducible exact H) | (have H2_ := (Option.bind_some _ _).symm.trans H; rw [hy119]; with_reducible exact H2_) | (have H2_ := (Option.bind_some _ _).symm.trans H; with_reducible exact H2_) | with_reducible exact H | (rw [hy119]; exact H) | exact H
    have Ny119 := Aside0.mk hy119
    clear hy119
    by_cases c2 : 7 < (y119.length : Int)
    · rw [if_pos c2] at H
      have c2b0 : decide (7 < (y119.length : Int)) = true := decide_eq_true c2
      have c2b1 : decide (7 < y119.length) = true := decide_eq_true (by omega)
      clear c2
      obtain ⟨y122, hy122⟩ : ∃ y_ : List Int, y_ = (y119.set (7 : Int).toNat 9) := ⟨_, rfl⟩
      replace H : ((norm_Of.f y122 7).bind fun bt123 => ((wringerlaw1_Err.f bt123.2).bind fun t127 => (if t127 = 0 then (if (bt123.1.length : Int) = 65 then (if 7 < (bt123.1.length : Int) then (if (rd bt123.1 7) = 128 then ((norm_May.f k bt123.1 7).bind fun t129 => (some t129)) else (some false)) else (none)) else (some false)) else (some false)))) = some r := by first | (rw [hy122]; with_reducible exact H) | (have H2_ := (Option.bind_some _ _).symm.trans H; rw [hy122]; with_reducible exact H2_) | (have H2_ := (Option.bind_some _ _).symm.trans H; with_reducible exact H2_) | with_reducible exact H | (rw [hy122]; exact H) | exact H
      have Ny122 := Aside0.mk hy122
      clear hy122
      replace H := Option.bind_eq_some_iff.mp H
      obtain ⟨⟨t123, t124⟩, A40, H⟩ := H
      replace H : ((wringerlaw1_Err.f t124).bind fun t127 => (if t127 = 0 then (if (t123.length : Int) = 65 then (if 7 < (t123.length : Int) then (if (rd t123 7) = 128 then ((norm_May.f k t123 7).bind fun t129 => (some t129)) else (some false)) else (none)) else (some false)) else (some false))) = some r := H
      have A4 := Aside0.mk A40
      clear A40
      replace H := Option.bind_eq_some_iff.mp H
      obtain ⟨t127, A50, H⟩ := H
      replace H : (if t127 = 0 then (if (t123.length : Int) = 65 then (if 7 < (t123.length : Int) then (if (rd t123 7) = 128 then ((norm_May.f k t123 7).bind fun t129 => (some t129)) else (some false)) else (none)) else (some false)) else (some false)) = some r := H
      have A5 := Aside0.mk A50
      clear A50
      by_cases c6 : t127 = 0
      · rw [if_pos c6] at H
        have c6b0 : (t127 == 0) = true := beq_iff_eq.mpr c6
        have c6b1 : (t127 != 0) = false := bne_eq_false_iff_eq.mpr c6
        clear c6
        by_cases c7 : (t123.length : Int) = 65
        · rw [if_pos c7] at H
          have c7b0 : ((t123.length : Int) == 65) = true := beq_iff_eq.mpr c7
          have c7b1 : ((t123.length : Int) != 65) = false := bne_eq_false_iff_eq.mpr c7
          clear c7
          by_cases c8 : 7 < (t123.length : Int)
          · rw [if_pos c8] at H
            have c8b0 : decide (7 < (t123.length : Int)) = true := decide_eq_true c8
            have c8b1 : decide (7 < t123.length) = true := decide_eq_true (by omega)
            clear c8
            by_cases c9 : (rd t123 7) = 128
            · rw [if_pos c9] at H
              have c9b0 : ((rd t123 7) == 128) = true := beq_iff_eq.mpr c9
              have c9b1 : ((rd t123 7) != 128) = false := bne_eq_false_iff_eq.mpr c9
              clear c9
              replace H := Option.bind_eq_some_iff.mp H
              obtain ⟨t129, A100, H⟩ := H
              replace H : (some t129) = some r := H
              have A10 := Aside0.mk A100
              clear A100
              obtain rfl := Option.some.inj H
              go_enter Try.func9, Try.ntmps9
              go_wp2_with (first | ((with_reducible refine gate_dst (N := 4) rfl ?_); (try (refine gate_guard (by rfl) ?_; dsimp only)); refine Kd.R_make (Kd.int .i64) _ 3 rfl (N := 4) rfl 24 _ _ rfl 65 rfl rfl Try.underlying24 (.int .i64 0) 8 info3 rfl (by decide) (by omega) 0 (ok := fun _ => True) (okp := fun _ => True) rfl (fun _ hk => hk) trivial (by omega) (by omega) (Below.refl _ _) (Nat.le_refl _) ?_; intro v120 w11 ho12 hb hg_ hnew_; clear hg_ hnew_; (first | rw [← Ny119.out] at ho12 | (simp only [Int.reduceToNat] at ho12; rw [← Ny119.out] at ho12)); have n0_ := Aside0.mk (Kd.R_lower ho12 (below_size (by repeat (first | (with_reducible first | exact HB.out | apply below_alloc | apply pw_below_drewN | apply below_drew1) | exact HB.out)))); have n1_ := Aside0.mk (below_step (by repeat (first | (with_reducible first | exact HB.out | apply below_alloc | apply pw_below_drewN | apply below_drew1) | exact HB.out)) hb); clear HB; have HO121 := n0_; have HB := n1_; clear n0_ n1_; clear hb ho12; have p3 : 0 ≤ (7 : Int) := (by omega); have q3 : (7 : Int) < ((y119.length : Int) : Int) := of_decide_eq_true (by first | (with_reducible assumption) | assumption); have qi3 : (7 < y119.length) = True := eq_true (by omega); obtain ⟨go3, co3, eo3, gb3, gl3, cl3, HG3⟩ := Kd.R_form HO121.out (by omega); (first | cases eo3 | (injection eo3 with ea_ en_ ec_; (first | subst ea_ | (injection ea_ with ea_; subst ea_)); subst ec_; clear en_)); have GB3 := Aside0.mk gb3; have GG3 := Aside0.mk HG3; clear gb3 gl3 HG3; obtain ⟨hx3_0, hf3_0⟩ := Kd.R_celln 0 HO121.out (7 : Int) p3 q3; (try rw [show ((7 : Int)).toNat = 7 from rfl] at hx3_0); (try simp only [Nat.reduceMul, Nat.zero_mul, Nat.zero_add, Nat.reduceAdd] at hx3_0); (try rw [show ((7 : Int)).toNat = 7 from rfl] at hf3_0); (try simp only [Nat.reduceMul, Nat.zero_mul, Nat.zero_add, Nat.reduceAdd] at hf3_0); replace p3 := eq_true p3; replace q3 := eq_true q3; obtain ⟨hy13_, hz13_⟩ := Kd.R_celln 0 HO121.out (7 : Int) (by omega) (of_decide_eq_true (by first | (with_reducible assumption) | assumption)); (try simp only [Int.reduceToNat, Int.toNat_zero, Int.toNat_ofNat, Nat.reduceMul, Nat.zero_mul, Nat.zero_add] at hy13_ hz13_); (try rw [show ((7 : Int)).toNat = 7 from rfl] at hy13_); (try rw [show ((7 : Int)).toNat = 7 from rfl] at hz13_); have HP13 := Kd.R_putg HO121.out (7 : Int) 9) | ((with_reducible refine gate_store (t := 3) (p := 6) rfl ?_); refine store_event (t := 3) (p := 6) (v := ?vo_w14) (w1 := (w11.setCell ⟨go3, (7 : Int).toNat, none⟩ (.int .i64 9))) ?hg ?ho ?hn ?hr ?_; (case ho => rfl); (case hg => rfl); (case hn => rfl); (case hr => first | (go_simp; done) | (go_simp; rfl)); intro w14 hw; have hg : w11.grownBy w14 (some go3) := (by rw [hw]; exact HP13.2); have hp_ : Kd.R (Kd.int .i64) 3 w14 w.heap.size (fun _ => True) (.slice (some ⟨go3, 0, none⟩) y119.length co3) y122 := (by rw [hw, Ny122.out]; exact HP13.1); clear HP13; have n0_ := Aside0.mk (hp_); have n1_ := Aside0.mk ((by rw [hw]; exact below_set (HB.out) GB3.out : Below w.heap.size w w14)); clear HO121; clear HB; have HO121 := n0_; have HB := n1_; clear n0_ n1_; clear hg hw hp_) | ((with_reducible refine gate_callee (f := 11) rfl ?_); refine goesL_ (some 9) rfl rfl Try.func11 (by kernel_rfl) rfl #[.slice (some ⟨go3, 0, none⟩) y122.length co3, .int .i64 7] rfl (by (try simp only [List.map_toArray, List.map_cons, List.map_nil]); first | done | (rw [show y122.length = y119.length from (Kd.R_reads' HO121.out).1.symm] <;> rfl) | rfl | (simp only [List.length_drop, List.length_take]; rfl)) ?_; (with_reducible refine (norm_Of.calls _ _ y122 7 t123 t124 _ ?side1 ?side2 A4.out).mono ?_); (case side1 => repeat (first | exact (Kd.R_reads' HO121.out).2.2 | (with_reducible refine Kd.C_alloc ?_ _) | (with_reducible refine Kd.C_drewN ?_ _) | (with_reducible refine Kd.C_drew ?_))); (case side2 => rw [show y122.length = y119.length from (Kd.R_reads' HO121.out).1.symm]; exact (Kd.R_reads' HO121.out).2.1); rintro e w15 ⟨v125, rfl, ho0, hb⟩; refine ⟨_, rfl, ?_⟩; have n0_ := Aside0.mk (Kd.R_elder' (by (with_reducible repeat (first | apply Kd.R_alloc | apply Kd.R_drewN | apply Kd.R_drew)); exact HO121.out) (Kd.R_base ho0) hb); have n1_ := Aside0.mk (Kd.R_lower (Kd.R_new' ho0 (Kd.R_lt (by (with_reducible repeat (first | apply Kd.R_alloc | apply Kd.R_drewN | apply Kd.R_drew)); exact HO121.out))) (below_size (by repeat (first | (with_reducible first | exact HB.out | apply below_alloc | apply pw_below_drewN | apply below_drew1) | exact HB.out)))); have n2_ := Aside0.mk (below_step (by repeat (first | (with_reducible first | exact HB.out | apply below_alloc | apply pw_below_drewN | apply below_drew1) | exact HB.out)) hb); clear HO121; clear HB; have HO121 := n0_; have HO126 := n1_; have HB := n2_; clear n0_ n1_ n2_; (try clear hb); (try clear hb2); (try clear hk); (try clear hi); (try clear ho0)) | ((with_reducible refine gate_callee (f := 14) rfl ?_); refine goesL_ (some 13) rfl rfl Try.func14 (by kernel_rfl) rfl #[.int .i64 t124] rfl (by (try simp only [List.map_toArray, List.map_cons, List.map_nil]); first | done | rfl | (simp only [List.length_drop, List.length_take]; rfl)) ?_; (with_reducible refine (wringerlaw1_Err.calls t124 t127 _ A5.out).mono ?_); rintro e w' ⟨rfl, ⟨nd, rfl⟩⟩; refine ⟨_, rfl, ?_⟩; obtain ⟨Ao16, co16, eo16⟩ := Kd.R_slice HO126.out; subst eo16; have p128 : 0 ≤ (7 : Int) := (by omega); have q128 : 7 < (t123.length : Int) := of_decide_eq_true (by first | (with_reducible assumption) | assumption); obtain ⟨ad128, e128, hx128_0⟩ := Kd.at_int (Kd.R_reads' HO126.out).2.2 7 p128 q128; cases e128; (try simp only [show (7 : Int).toNat = 7 from rfl, Nat.reduceMul, Nat.reduceEqDiff, Go.Addr.add, ↓reduceIte] at hx128_0); have qi128 : (7 < t123.length) = True := eq_true (by omega); (try rw [show ((7 : Int)).toNat = 7 from rfl] at hx128_0); replace p128 := eq_true p128; replace q128 := eq_true q128) | (go_at_call 15; (with_reducible refine (norm_May.calls k _ _ t123 7 t129 _ ?side1 ?side2 A10.out).mono ?_); (case side1 => repeat (first | exact (Kd.R_reads' HO126.out).2.2 | (with_reducible refine Kd.C_alloc ?_ _) | (with_reducible refine Kd.C_drewN ?_ _) | (with_reducible refine Kd.C_drew ?_))); (case side2 => exact (Kd.R_reads' HO126.out).2.1); rintro e w' ⟨rfl, ⟨nd, rfl⟩⟩))
              go_ret
              exact ⟨by first | rfl | (simp [errW_none, errW_some] <;> rfl) | (simp [*, errW_none, errW_some] <;> rfl), by repeat (first | (with_reducible first | exact HB.out | apply below_alloc | apply pw_below_drewN | apply below_drew1) | exact HB.out)⟩
            · rw [if_neg c9] at H
              have c9b0 : ((rd t123 7) == 128) = false := beq_eq_false_iff_ne.mpr c9
              have c9b1 : ((rd t123 7) != 128) = true := bne_iff_ne.mpr c9
              obtain rfl := Option.some.inj H
              go_enter Try.func9, Try.ntmps9
              go_wp2_with (first | ((with_reducible refine gate_dst (N := 4) rfl ?_); (try (refine gate_guard (by rfl) ?_; dsimp only)); refine Kd.R_make (Kd.int .i64) _ 3 rfl (N := 4) rfl 24 _ _ rfl 65 rfl rfl Try.underlying24 (.int .i64 0) 8 info3 rfl (by decide) (by omega) 0 (ok := fun _ => True) (okp := fun _ => True) rfl (fun _ hk => hk) trivial (by omega) (by omega) (Below.refl _ _) (Nat.le_refl _) ?_; intro v120 w17 ho18 hb hg_ hnew_; clear hg_ hnew_; (first | rw [← Ny119.out] at ho18 | (simp only [Int.reduceToNat] at ho18; rw [← Ny119.out] at ho18)); have n0_ := Aside0.mk (Kd.R_lower ho18 (below_size (by repeat (first | (with_reducible first | exact HB.out | apply below_alloc | apply pw_below_drewN | apply below_drew1) | exact HB.out)))); have n1_ := Aside0.mk (below_step (by repeat (first | (with_reducible first | exact HB.out | apply below_alloc | apply pw_below_drewN | apply below_drew1) | exact HB.out)) hb); clear HB; have HO121 := n0_; have HB := n1_; clear n0_ n1_; clear hb ho18; have p3 : 0 ≤ (7 : Int) := (by omega); have q3 : (7 : Int) < ((y119.length : Int) : Int) := of_decide_eq_true (by first | (with_reducible assumption) | assumption); have qi3 : (7 < y119.length) = True := eq_true (by omega); obtain ⟨go3, co3, eo3, gb3, gl3, cl3, HG3⟩ := Kd.R_form HO121.out (by omega); (first | cases eo3 | (injection eo3 with ea_ en_ ec_; (first | subst ea_ | (injection ea_ with ea_; subst ea_)); subst ec_; clear en_)); have GB3 := Aside0.mk gb3; have GG3 := Aside0.mk HG3; clear gb3 gl3 HG3; obtain ⟨hx3_0, hf3_0⟩ := Kd.R_celln 0 HO121.out (7 : Int) p3 q3; (try rw [show ((7 : Int)).toNat = 7 from rfl] at hx3_0); (try simp only [Nat.reduceMul, Nat.zero_mul, Nat.zero_add, Nat.reduceAdd] at hx3_0); (try rw [show ((7 : Int)).toNat = 7 from rfl] at hf3_0); (try simp only [Nat.reduceMul, Nat.zero_mul, Nat.zero_add, Nat.reduceAdd] at hf3_0); replace p3 := eq_true p3; replace q3 := eq_true q3; obtain ⟨hy19_, hz19_⟩ := Kd.R_celln 0 HO121.out (7 : Int) (by omega) (of_decide_eq_true (by first | (with_reducible assumption) | assumption)); (try simp only [Int.reduceToNat, Int.toNat_zero, Int.toNat_ofNat, Nat.reduceMul, Nat.zero_mul, Nat.zero_add] at hy19_ hz19_); (try rw [show ((7 : Int)).toNat = 7 from rfl] at hy19_); (try rw [show ((7 : Int)).toNat = 7 from rfl] at hz19_); have HP19 := Kd.R_putg HO121.out (7 : Int) 9) | ((with_reducible refine gate_store (t := 3) (p := 6) rfl ?_); refine store_event (t := 3) (p := 6) (v := ?vo_w20) (w1 := (w17.setCell ⟨go3, (7 : Int).toNat, none⟩ (.int .i64 9))) ?hg ?ho ?hn ?hr ?_; (case ho => rfl); (case hg => rfl); (case hn => rfl); (case hr => first | (go_simp; done) | (go_simp; rfl)); intro w20 hw; have hg : w17.grownBy w20 (some go3) := (by rw [hw]; exact HP19.2); have hp_ : Kd.R (Kd.int .i64) 3 w20 w.heap.size (fun _ => True) (.slice (some ⟨go3, 0, none⟩) y119.length co3) y122 := (by rw [hw, Ny122.out]; exact HP19.1); clear HP19; have n0_ := Aside0.mk (hp_); have n1_ := Aside0.mk ((by rw [hw]; exact below_set (HB.out) GB3.out : Below w.heap.size w w20)); clear HO121; clear HB; have HO121 := n0_; have HB := n1_; clear n0_ n1_; clear hg hw hp_) | ((with_reducible refine gate_callee (f := 11) rfl ?_); refine goesL_ (some 9) rfl rfl Try.func11 (by kernel_rfl) rfl #[.slice (some ⟨go3, 0, none⟩) y122.length co3, .int .i64 7] rfl (by (try simp only [List.map_toArray, List.map_cons, List.map_nil]); first | done | (rw [show y122.length = y119.length from (Kd.R_reads' HO121.out).1.symm] <;> rfl) | rfl | (simp only [List.length_drop, List.length_take]; rfl)) ?_; (with_reducible refine (norm_Of.calls _ _ y122 7 t123 t124 _ ?side1 ?side2 A4.out).mono ?_); (case side1 => repeat (first | exact (Kd.R_reads' HO121.out).2.2 | (with_reducible refine Kd.C_alloc ?_ _) | (with_reducible refine Kd.C_drewN ?_ _) | (with_reducible refine Kd.C_drew ?_))); (case side2 => rw [show y122.length = y119.length from (Kd.R_reads' HO121.out).1.symm]; exact (Kd.R_reads' HO121.out).2.1); rintro e w21 ⟨v125, rfl, ho0, hb⟩; refine ⟨_, rfl, ?_⟩; have n0_ := Aside0.mk (Kd.R_elder' (by (with_reducible repeat (first | apply Kd.R_alloc | apply Kd.R_drewN | apply Kd.R_drew)); exact HO121.out) (Kd.R_base ho0) hb); have n1_ := Aside0.mk (Kd.R_lower (Kd.R_new' ho0 (Kd.R_lt (by (with_reducible repeat (first | apply Kd.R_alloc | apply Kd.R_drewN | apply Kd.R_drew)); exact HO121.out))) (below_size (by repeat (first | (with_reducible first | exact HB.out | apply below_alloc | apply pw_below_drewN | apply below_drew1) | exact HB.out)))); have n2_ := Aside0.mk (below_step (by repeat (first | (with_reducible first | exact HB.out | apply below_alloc | apply pw_below_drewN | apply below_drew1) | exact HB.out)) hb); clear HO121; clear HB; have HO121 := n0_; have HO126 := n1_; have HB := n2_; clear n0_ n1_ n2_; (try clear hb); (try clear hb2); (try clear hk); (try clear hi); (try clear ho0)) | ((with_reducible refine gate_callee (f := 14) rfl ?_); refine goesL_ (some 13) rfl rfl Try.func14 (by kernel_rfl) rfl #[.int .i64 t124] rfl (by (try simp only [List.map_toArray, List.map_cons, List.map_nil]); first | done | rfl | (simp only [List.length_drop, List.length_take]; rfl)) ?_; (with_reducible refine (wringerlaw1_Err.calls t124 t127 _ A5.out).mono ?_); rintro e w' ⟨rfl, ⟨nd, rfl⟩⟩; refine ⟨_, rfl, ?_⟩; obtain ⟨Ao22, co22, eo22⟩ := Kd.R_slice HO126.out; subst eo22; have p128 : 0 ≤ (7 : Int) := (by omega); have q128 : 7 < (t123.length : Int) := of_decide_eq_true (by first | (with_reducible assumption) | assumption); obtain ⟨ad128, e128, hx128_0⟩ := Kd.at_int (Kd.R_reads' HO126.out).2.2 7 p128 q128; cases e128; (try simp only [show (7 : Int).toNat = 7 from rfl, Nat.reduceMul, Nat.reduceEqDiff, Go.Addr.add, ↓reduceIte] at hx128_0); have qi128 : (7 < t123.length) = True := eq_true (by omega); (try rw [show ((7 : Int)).toNat = 7 from rfl] at hx128_0); replace p128 := eq_true p128; replace q128 := eq_true q128))
              go_ret
              exact ⟨by first | rfl | (simp [errW_none, errW_some] <;> rfl) | (simp [*, errW_none, errW_some] <;> rfl), by repeat (first | (with_reducible first | exact HB.out | apply below_alloc | apply pw_below_drewN | apply below_drew1) | exact HB.out)⟩
          · rw [if_neg c8] at H
            exact absurd H (by simp)
        · rw [if_neg c7] at H
          have c7b0 : ((t123.length : Int) == 65) = false := beq_eq_false_iff_ne.mpr c7
          have c7b1 : ((t123.length : Int) != 65) = true := bne_iff_ne.mpr c7
          obtain rfl := Option.some.inj H
          go_enter Try.func9, Try.ntmps9
          go_wp2_with (first | ((with_reducible refine gate_dst (N := 4) rfl ?_); (try (refine gate_guard (by rfl) ?_; dsimp only)); refine Kd.R_make (Kd.int .i64) _ 3 rfl (N := 4) rfl 24 _ _ rfl 65 rfl rfl Try.underlying24 (.int .i64 0) 8 info3 rfl (by decide) (by omega) 0 (ok := fun _ => True) (okp := fun _ => True) rfl (fun _ hk => hk) trivial (by omega) (by omega) (Below.refl _ _) (Nat.le_refl _) ?_; intro v120 w23 ho24 hb hg_ hnew_; clear hg_ hnew_; (first | rw [← Ny119.out] at ho24 | (simp only [Int.reduceToNat] at ho24; rw [← Ny119.out] at ho24)); have n0_ := Aside0.mk (Kd.R_lower ho24 (below_size (by repeat (first | (with_reducible first | exact HB.out | apply below_alloc | apply pw_below_drewN | apply below_drew1) | exact HB.out)))); have n1_ := Aside0.mk (below_step (by repeat (first | (with_reducible first | exact HB.out | apply below_alloc | apply pw_below_drewN | apply below_drew1) | exact HB.out)) hb); clear HB; have HO121 := n0_; have HB := n1_; clear n0_ n1_; clear hb ho24; have p3 : 0 ≤ (7 : Int) := (by omega); have q3 : (7 : Int) < ((y119.length : Int) : Int) := of_decide_eq_true (by first | (with_reducible assumption) | assumption); have qi3 : (7 < y119.length) = True := eq_true (by omega); obtain ⟨go3, co3, eo3, gb3, gl3, cl3, HG3⟩ := Kd.R_form HO121.out (by omega); (first | cases eo3 | (injection eo3 with ea_ en_ ec_; (first | subst ea_ | (injection ea_ with ea_; subst ea_)); subst ec_; clear en_)); have GB3 := Aside0.mk gb3; have GG3 := Aside0.mk HG3; clear gb3 gl3 HG3; obtain ⟨hx3_0, hf3_0⟩ := Kd.R_celln 0 HO121.out (7 : Int) p3 q3; (try rw [show ((7 : Int)).toNat = 7 from rfl] at hx3_0); (try simp only [Nat.reduceMul, Nat.zero_mul, Nat.zero_add, Nat.reduceAdd] at hx3_0); (try rw [show ((7 : Int)).toNat = 7 from rfl] at hf3_0); (try simp only [Nat.reduceMul, Nat.zero_mul, Nat.zero_add, Nat.reduceAdd] at hf3_0); replace p3 := eq_true p3; replace q3 := eq_true q3; obtain ⟨hy25_, hz25_⟩ := Kd.R_celln 0 HO121.out (7 : Int) (by omega) (of_decide_eq_true (by first | (with_reducible assumption) | assumption)); (try simp only [Int.reduceToNat, Int.toNat_zero, Int.toNat_ofNat, Nat.reduceMul, Nat.zero_mul, Nat.zero_add] at hy25_ hz25_); (try rw [show ((7 : Int)).toNat = 7 from rfl] at hy25_); (try rw [show ((7 : Int)).toNat = 7 from rfl] at hz25_); have HP25 := Kd.R_putg HO121.out (7 : Int) 9) | ((with_reducible refine gate_store (t := 3) (p := 6) rfl ?_); refine store_event (t := 3) (p := 6) (v := ?vo_w26) (w1 := (w23.setCell ⟨go3, (7 : Int).toNat, none⟩ (.int .i64 9))) ?hg ?ho ?hn ?hr ?_; (case ho => rfl); (case hg => rfl); (case hn => rfl); (case hr => first | (go_simp; done) | (go_simp; rfl)); intro w26 hw; have hg : w23.grownBy w26 (some go3) := (by rw [hw]; exact HP25.2); have hp_ : Kd.R (Kd.int .i64) 3 w26 w.heap.size (fun _ => True) (.slice (some ⟨go3, 0, none⟩) y119.length co3) y122 := (by rw [hw, Ny122.out]; exact HP25.1); clear HP25; have n0_ := Aside0.mk (hp_); have n1_ := Aside0.mk ((by rw [hw]; exact below_set (HB.out) GB3.out : Below w.heap.size w w26)); clear HO121; clear HB; have HO121 := n0_; have HB := n1_; clear n0_ n1_; clear hg hw hp_) | ((with_reducible refine gate_callee (f := 11) rfl ?_); refine goesL_ (some 9) rfl rfl Try.func11 (by kernel_rfl) rfl #[.slice (some ⟨go3, 0, none⟩) y122.length co3, .int .i64 7] rfl (by (try simp only [List.map_toArray, List.map_cons, List.map_nil]); first | done | (rw [show y122.length = y119.length from (Kd.R_reads' HO121.out).1.symm] <;> rfl) | rfl | (simp only [List.length_drop, List.length_take]; rfl)) ?_; (with_reducible refine (norm_Of.calls _ _ y122 7 t123 t124 _ ?side1 ?side2 A4.out).mono ?_); (case side1 => repeat (first | exact (Kd.R_reads' HO121.out).2.2 | (with_reducible refine Kd.C_alloc ?_ _) | (with_reducible refine Kd.C_drewN ?_ _) | (with_reducible refine Kd.C_drew ?_))); (case side2 => rw [show y122.length = y119.length from (Kd.R_reads' HO121.out).1.symm]; exact (Kd.R_reads' HO121.out).2.1); rintro e w27 ⟨v125, rfl, ho0, hb⟩; refine ⟨_, rfl, ?_⟩; have n0_ := Aside0.mk (Kd.R_elder' (by (with_reducible repeat (first | apply Kd.R_alloc | apply Kd.R_drewN | apply Kd.R_drew)); exact HO121.out) (Kd.R_base ho0) hb); have n1_ := Aside0.mk (Kd.R_lower (Kd.R_new' ho0 (Kd.R_lt (by (with_reducible repeat (first | apply Kd.R_alloc | apply Kd.R_drewN | apply Kd.R_drew)); exact HO121.out))) (below_size (by repeat (first | (with_reducible first | exact HB.out | apply below_alloc | apply pw_below_drewN | apply below_drew1) | exact HB.out)))); have n2_ := Aside0.mk (below_step (by repeat (first | (with_reducible first | exact HB.out | apply below_alloc | apply pw_below_drewN | apply below_drew1) | exact HB.out)) hb); clear HO121; clear HB; have HO121 := n0_; have HO126 := n1_; have HB := n2_; clear n0_ n1_ n2_; (try clear hb); (try clear hb2); (try clear hk); (try clear hi); (try clear ho0)) | ((with_reducible refine gate_callee (f := 14) rfl ?_); refine goesL_ (some 13) rfl rfl Try.func14 (by kernel_rfl) rfl #[.int .i64 t124] rfl (by (try simp only [List.map_toArray, List.map_cons, List.map_nil]); first | done | rfl | (simp only [List.length_drop, List.length_take]; rfl)) ?_; (with_reducible refine (wringerlaw1_Err.calls t124 t127 _ A5.out).mono ?_); rintro e w' ⟨rfl, ⟨nd, rfl⟩⟩; refine ⟨_, rfl, ?_⟩; obtain ⟨Ao28, co28, eo28⟩ := Kd.R_slice HO126.out; subst eo28))
          go_ret
          exact ⟨by first | rfl | (simp [errW_none, errW_some] <;> rfl) | (simp [*, errW_none, errW_some] <;> rfl), by repeat (first | (with_reducible first | exact HB.out | apply below_alloc | apply pw_below_drewN | apply below_drew1) | exact HB.out)⟩
      · rw [if_neg c6] at H
        have c6b0 : (t127 == 0) = false := beq_eq_false_iff_ne.mpr c6
        have c6b1 : (t127 != 0) = true := bne_iff_ne.mpr c6
        obtain rfl := Option.some.inj H
        go_enter Try.func9, Try.ntmps9
        go_wp2_with (first | ((with_reducible refine gate_dst (N := 4) rfl ?_); (try (refine gate_guard (by rfl) ?_; dsimp only)); refine Kd.R_make (Kd.int .i64) _ 3 rfl (N := 4) rfl 24 _ _ rfl 65 rfl rfl Try.underlying24 (.int .i64 0) 8 info3 rfl (by decide) (by omega) 0 (ok := fun _ => True) (okp := fun _ => True) rfl (fun _ hk => hk) trivial (by omega) (by omega) (Below.refl _ _) (Nat.le_refl _) ?_; intro v120 w29 ho30 hb hg_ hnew_; clear hg_ hnew_; (first | rw [← Ny119.out] at ho30 | (simp only [Int.reduceToNat] at ho30; rw [← Ny119.out] at ho30)); have n0_ := Aside0.mk (Kd.R_lower ho30 (below_size (by repeat (first | (with_reducible first | exact HB.out | apply below_alloc | apply pw_below_drewN | apply below_drew1) | exact HB.out)))); have n1_ := Aside0.mk (below_step (by repeat (first | (with_reducible first | exact HB.out | apply below_alloc | apply pw_below_drewN | apply below_drew1) | exact HB.out)) hb); clear HB; have HO121 := n0_; have HB := n1_; clear n0_ n1_; clear hb ho30; have p3 : 0 ≤ (7 : Int) := (by omega); have q3 : (7 : Int) < ((y119.length : Int) : Int) := of_decide_eq_true (by first | (with_reducible assumption) | assumption); have qi3 : (7 < y119.length) = True := eq_true (by omega); obtain ⟨go3, co3, eo3, gb3, gl3, cl3, HG3⟩ := Kd.R_form HO121.out (by omega); (first | cases eo3 | (injection eo3 with ea_ en_ ec_; (first | subst ea_ | (injection ea_ with ea_; subst ea_)); subst ec_; clear en_)); have GB3 := Aside0.mk gb3; have GG3 := Aside0.mk HG3; clear gb3 gl3 HG3; obtain ⟨hx3_0, hf3_0⟩ := Kd.R_celln 0 HO121.out (7 : Int) p3 q3; (try rw [show ((7 : Int)).toNat = 7 from rfl] at hx3_0); (try simp only [Nat.reduceMul, Nat.zero_mul, Nat.zero_add, Nat.reduceAdd] at hx3_0); (try rw [show ((7 : Int)).toNat = 7 from rfl] at hf3_0); (try simp only [Nat.reduceMul, Nat.zero_mul, Nat.zero_add, Nat.reduceAdd] at hf3_0); replace p3 := eq_true p3; replace q3 := eq_true q3; obtain ⟨hy31_, hz31_⟩ := Kd.R_celln 0 HO121.out (7 : Int) (by omega) (of_decide_eq_true (by first | (with_reducible assumption) | assumption)); (try simp only [Int.reduceToNat, Int.toNat_zero, Int.toNat_ofNat, Nat.reduceMul, Nat.zero_mul, Nat.zero_add] at hy31_ hz31_); (try rw [show ((7 : Int)).toNat = 7 from rfl] at hy31_); (try rw [show ((7 : Int)).toNat = 7 from rfl] at hz31_); have HP31 := Kd.R_putg HO121.out (7 : Int) 9) | ((with_reducible refine gate_store (t := 3) (p := 6) rfl ?_); refine store_event (t := 3) (p := 6) (v := ?vo_w32) (w1 := (w29.setCell ⟨go3, (7 : Int).toNat, none⟩ (.int .i64 9))) ?hg ?ho ?hn ?hr ?_; (case ho => rfl); (case hg => rfl); (case hn => rfl); (case hr => first | (go_simp; done) | (go_simp; rfl)); intro w32 hw; have hg : w29.grownBy w32 (some go3) := (by rw [hw]; exact HP31.2); have hp_ : Kd.R (Kd.int .i64) 3 w32 w.heap.size (fun _ => True) (.slice (some ⟨go3, 0, none⟩) y119.length co3) y122 := (by rw [hw, Ny122.out]; exact HP31.1); clear HP31; have n0_ := Aside0.mk (hp_); have n1_ := Aside0.mk ((by rw [hw]; exact below_set (HB.out) GB3.out : Below w.heap.size w w32)); clear HO121; clear HB; have HO121 := n0_; have HB := n1_; clear n0_ n1_; clear hg hw hp_) | ((with_reducible refine gate_callee (f := 11) rfl ?_); refine goesL_ (some 9) rfl rfl Try.func11 (by kernel_rfl) rfl #[.slice (some ⟨go3, 0, none⟩) y122.length co3, .int .i64 7] rfl (by (try simp only [List.map_toArray, List.map_cons, List.map_nil]); first | done | (rw [show y122.length = y119.length from (Kd.R_reads' HO121.out).1.symm] <;> rfl) | rfl | (simp only [List.length_drop, List.length_take]; rfl)) ?_; (with_reducible refine (norm_Of.calls _ _ y122 7 t123 t124 _ ?side1 ?side2 A4.out).mono ?_); (case side1 => repeat (first | exact (Kd.R_reads' HO121.out).2.2 | (with_reducible refine Kd.C_alloc ?_ _) | (with_reducible refine Kd.C_drewN ?_ _) | (with_reducible refine Kd.C_drew ?_))); (case side2 => rw [show y122.length = y119.length from (Kd.R_reads' HO121.out).1.symm]; exact (Kd.R_reads' HO121.out).2.1); rintro e w33 ⟨v125, rfl, ho0, hb⟩; refine ⟨_, rfl, ?_⟩; have n0_ := Aside0.mk (Kd.R_elder' (by (with_reducible repeat (first | apply Kd.R_alloc | apply Kd.R_drewN | apply Kd.R_drew)); exact HO121.out) (Kd.R_base ho0) hb); have n1_ := Aside0.mk (Kd.R_lower (Kd.R_new' ho0 (Kd.R_lt (by (with_reducible repeat (first | apply Kd.R_alloc | apply Kd.R_drewN | apply Kd.R_drew)); exact HO121.out))) (below_size (by repeat (first | (with_reducible first | exact HB.out | apply below_alloc | apply pw_below_drewN | apply below_drew1) | exact HB.out)))); have n2_ := Aside0.mk (below_step (by repeat (first | (with_reducible first | exact HB.out | apply below_alloc | apply pw_below_drewN | apply below_drew1) | exact HB.out)) hb); clear HO121; clear HB; have HO121 := n0_; have HO126 := n1_; have HB := n2_; clear n0_ n1_ n2_; (try clear hb); (try clear hb2); (try clear hk); (try clear hi); (try clear ho0)) | ((with_reducible refine gate_callee (f := 14) rfl ?_); refine goesL_ (some 13) rfl rfl Try.func14 (by kernel_rfl) rfl #[.int .i64 t124] rfl (by (try simp only [List.map_toArray, List.map_cons, List.map_nil]); first | done | rfl | (simp only [List.length_drop, List.length_take]; rfl)) ?_; (with_reducible refine (wringerlaw1_Err.calls t124 t127 _ A5.out).mono ?_); rintro e w' ⟨rfl, ⟨nd, rfl⟩⟩; refine ⟨_, rfl, ?_⟩))
        go_ret
        exact ⟨by first | rfl | (simp [errW_none, errW_some] <;> rfl) | (simp [*, errW_none, errW_some] <;> rfl), by repeat (first | (with_reducible first | exact HB.out | apply below_alloc | apply pw_below_drewN | apply below_drew1) | exact HB.out)⟩
    · rw [if_neg c2] at H
      exact absurd H (by simp)
  · rw [if_neg c1] at H
    exact absurd H (by simp)

end Go.Proofs.Ytbldocbijihpgaa.PA

-- ---- PAx20
/- The document's numbers of a sum: what the call answers, for every list and log. Conditions: the list's length fits a slice. -/
namespace Go.Proofs.Ytbldocbijihpgaa.PA
open Go.RowKit Go.Proofs.YtbldocbijihpgaaW.PrintWords Go.Proofs.YtbldocbijihpgaaW.PrintLast Go.Proofs.YtbldocbijihpgaaW.PrintMore
set_option linter.unusedVariables false
set_option linter.unusedSimpArgs false

def normE (l : List Int) (a : Int) : List Int × Int := if Nl.frB l = true ∧ 7 ≤ a ∧ a ≤ 12 then (Nl.normL l ((2 ^ a.toNat : Nat) : Int), 0) else ([], 1)
def wringerref7_Norm.f (l0 : List Int) (a1 : Int) : Option (List Int × Int) := if l0.length < 200000000000000 then some (normE l0 a1) else none
theorem wringerref7_Norm.calls (A0 : Option Addr) (c0 : Nat) (l0 : List Int) (a1 : Int) (r1 : List Int) (r2 : Int) (w : World) (hr0 : Kd.C (Kd.int .i64) w A0 l0.length l0) (hc0 : l0.length ≤ c0) (h : wringerref7_Norm.f l0 a1 = some (r1, r2)) :
    Calls Try.prog 12 #[.slice A0 l0.length c0, .int .i64 a1] w fun e w' => ∃ v0_ : Value, e = .returned (.agg #[v0_, .int .i64 r2]) ∧ Kd.R (Kd.int .i64) 3 w' w.heap.size (fun _ => True) v0_ r1 ∧ Below w.heap.size w w' := by
  unfold wringerref7_Norm.f at h
  split at h
  · rename_i hn
    have h := Option.some.inj h
    unfold normE at h
    split at h
    · rename_i hg
      obtain ⟨rfl, rfl⟩ := Prod.mk.inj h
      obtain ⟨m, rfl⟩ := Int.eq_ofNat_of_zero_le (show 0 ≤ a1 by omega)
      refine (rnorm_ok A0 c0 l0 m w hr0 hc0 ((Nl.frB_iff l0).1 hg.1) (by omega) (by omega)).mono ?_
      rintro e w' ⟨v, rfl, ho, hnew, hb⟩
      exact ⟨v, rfl, Own.R_of_owns (by rw [Int.toNat_natCast]; exact ho) hnew, hb⟩
    · rename_i hg
      obtain ⟨rfl, rfl⟩ := Prod.mk.inj h
      refine (rnorm_bad A0 c0 l0 a1 w hr0 hc0 hn hg).mono ?_
      rintro e w' ⟨rfl, hb⟩
      exact ⟨_, rfl, Kd.R_nil _ _ _ _ _, hb⟩
  · cases h
end Go.Proofs.Ytbldocbijihpgaa.PA

-- ---- PAx21

namespace Go.Proofs.Ytbldocbijihpgaa.PA
open Go.RowKit Go.Proofs.YtbldocbijihpgaaW.PrintWords Go.Proofs.YtbldocbijihpgaaW.PrintLast Go.Proofs.YtbldocbijihpgaaW.PrintMore
attribute [local go_sem] max2_int min2_int max_two min_two max_three min_three max_four min_four   -- for this text's walks alone
set_option linter.unusedVariables false
set_option linter.unusedSimpArgs false

/-! ### wringerref7_SameInts: function 13 -/
def wringerref7_SameInts.l0 : Nat → List Int → List Int → Int → Option (Bool)
  | 0, _, _, _ => none
  | k + 1, x0, x1, x5 => if x5 < (x0.length : Int) then (if 0 ≤ x5 then (if x5 < (x1.length : Int) then (if (rd x0 x5) = (rd x1 x5) then (wringerref7_SameInts.l0 k x0 x1 (wrap64 (x5 + 1))) else (some false)) else (none)) else (none)) else (some true)
def wringerref7_SameInts.f (k : Nat) (l0 : List Int) (l1 : List Int) : Option (Bool) := if (l0.length : Int) = (l1.length : Int) then (wringerref7_SameInts.l0 k l0 l1 0) else (some false)
theorem wringerref7_SameInts.mono_l : ∀ k, (∀ y0 y1 y2, LeO (wringerref7_SameInts.l0 k y0 y1 y2) (wringerref7_SameInts.l0 (k + 1) y0 y1 y2))
  | 0 => fun _ _ _ r h => by simp [wringerref7_SameInts.l0] at h
  | k + 1 => by
    have ih0 := wringerref7_SameInts.mono_l k
    · intro y0 y1 y2
      unfold wringerref7_SameInts.l0
      repeat' first
      | (with_reducible exact ih0 _ _ _)
      | (with_reducible exact LeO.refl _)
      | (with_reducible exact LeO.none _)
      | (with_reducible refine LeO.ite ?_ ?_)
      | (with_reducible refine LeO.bind ?_ (fun _ => ?_))
      | exact ih0 _ _ _
      | exact LeO.none _
      | refine LeO.ite ?_ ?_
      | refine LeO.bind ?_ (fun _ => ?_)
theorem wringerref7_SameInts.mono : ∀ a0 a1 k, LeO (wringerref7_SameInts.f k a0 a1) (wringerref7_SameInts.f (k + 1) a0 a1) := by
  intro a0 a1 k
  have ih0 := wringerref7_SameInts.mono_l k
  unfold wringerref7_SameInts.f
  repeat' first
      | (with_reducible exact ih0 _ _ _)
      | (with_reducible exact LeO.refl _)
      | (with_reducible exact LeO.none _)
      | (with_reducible refine LeO.ite ?_ ?_)
      | (with_reducible refine LeO.bind ?_ (fun _ => ?_))
      | exact ih0 _ _ _
      | exact LeO.none _
      | refine LeO.ite ?_ ?_
      | refine LeO.bind ?_ (fun _ => ?_)
set_option maxHeartbeats 8000000 in
set_option maxRecDepth 100000 in
theorem wringerref7_SameInts.calls (k : Nat) (A0 : Option Addr) (c0 : Nat) (l0 : List Int) (A1 : Option Addr) (c1 : Nat) (l1 : List Int) (r : Bool) (w : World) (hr0 : Kd.C (Kd.int .i64) w A0 l0.length l0) (hc0 : l0.length ≤ c0) (hr1 : Kd.C (Kd.int .i64) w A1 l1.length l1) (hc1 : l1.length ≤ c1) (h : wringerref7_SameInts.f k l0 l1 = some r) :
    Calls Try.prog 13 #[.slice A0 l0.length c0, .slice A1 l1.length c1] w fun e w' => e = .returned (.bool r) ∧ Drawn0 w w' := by
  have HR0 := Aside0.mk hr0
  have HC0 := Aside0.mk hc0
  clear hr0 hc0
  have HR1 := Aside0.mk hr1
  have HC1 := Aside0.mk hc1
  clear hr1 hc1
  have H : (if (l0.length : Int) = (l1.length : Int) then (wringerref7_SameInts.l0 k l0 l1 0) else (some false)) = some r := h
  clear h
  by_cases c3 : (l0.length : Int) = (l1.length : Int)
  · rw [if_pos c3] at H
    have c3b0 : ((l0.length : Int) == (l1.length : Int)) = true := beq_iff_eq.mpr c3
    have c3b1 : ((l0.length : Int) != (l1.length : Int)) = false := bne_eq_false_iff_eq.mpr c3
    have c3b2 : (l0.length == l1.length) = true := by first | simpa using c3 | (simp at c3 ⊢; omega)
    clear c3
    have H' := Aside0.mk H
    clear H
    go_enter Try.func13, Try.ntmps13
    go_wp2
    repeat (go_quiet (fail); try go_wp2)
    go_loopg [5] k (fun kq v5 w' => ∃ (x5_1 : Int), v5 = .int .i64 x5_1 ∧ Aside0 (wringerref7_SameInts.l0 kq l0 l1 x5_1 = some r) ∧ Aside0 (kq ≤ k) ∧ Drawn0 w w')
    case atStart => exact ⟨(0), (by first | rfl | (simp; done) | (simp [*]; done)), H', ⟨Nat.le_refl _⟩, by repeat (first | exact Drawn0.refl _ | apply Drawn0.step)⟩
    case round =>
      clear H'
      try clear c1
      try clear p2
      try clear c3
      try clear c3b0
      try clear c3b1
      try clear c3b2
      obtain ⟨x5_1, rfl, HA, HK1, ⟨m1, rfl⟩⟩ := hrel
      cases gk with
      | zero => exact absurd HA.out (by simp [wringerref7_SameInts.l0])
      | succ k1 =>
        have H := HA.out
        clear HA
        simp only [wringerref7_SameInts.l0] at H
        by_cases c4 : x5_1 < (l0.length : Int)
        · rw [if_pos c4] at H
          have c4b0 : decide (x5_1 < (l0.length : Int)) = true := decide_eq_true c4
          clear c4
          by_cases c5 : 0 ≤ x5_1
          · rw [if_pos c5] at H
            have c5b0 : decide (0 ≤ x5_1) = true := decide_eq_true c5
            clear c5
            by_cases c6 : x5_1 < (l1.length : Int)
            · rw [if_pos c6] at H
              have c6b0 : decide (x5_1 < (l1.length : Int)) = true := decide_eq_true c6
              clear c6
              by_cases c7 : (rd l0 x5_1) = (rd l1 x5_1)
              · rw [if_pos c7] at H
                have c7b0 : ((rd l0 x5_1) == (rd l1 x5_1)) = true := beq_iff_eq.mpr c7
                have c7b1 : ((rd l0 x5_1) != (rd l1 x5_1)) = false := bne_eq_false_iff_eq.mpr c7
                clear c7
                have H' := Aside0.mk H
                clear H
                have p143 : 0 ≤ (x5_1 : Int) := of_decide_eq_true (by first | (with_reducible assumption) | assumption)
                have q143 : x5_1 < (l0.length : Int) := of_decide_eq_true (by first | (with_reducible assumption) | assumption)
                obtain ⟨ad143, e143, hx143_0⟩ := Kd.at_int HR0.out x5_1 p143 q143
                cases e143
                replace p143 := eq_true p143
                replace q143 := eq_true q143
                have p144 : 0 ≤ (x5_1 : Int) := of_decide_eq_true (by first | (with_reducible assumption) | assumption)
                have q144 : x5_1 < (l1.length : Int) := of_decide_eq_true (by first | (with_reducible assumption) | assumption)
                obtain ⟨ad144, e144, hx144_0⟩ := Kd.at_int HR1.out x5_1 p144 q144
                cases e144
                replace p144 := eq_true p144
                replace q144 := eq_true q144
                go_wp2
                repeat (go_quiet (fail); try go_wp2)
                go_roundg k1
                case measure => have := HK1.out; omega
                case rel => exact ⟨(wrap64 (x5_1 + 1)), (by first | rfl | (simp; done) | (simp [*]; done)), H', ⟨by have := HK1.out; omega⟩, by repeat (first | exact Drawn0.refl _ | apply Drawn0.step)⟩
              · rw [if_neg c7] at H
                have c7b0 : ((rd l0 x5_1) == (rd l1 x5_1)) = false := beq_eq_false_iff_ne.mpr c7
                have c7b1 : ((rd l0 x5_1) != (rd l1 x5_1)) = true := bne_iff_ne.mpr c7
                obtain rfl := Option.some.inj H
                have p143 : 0 ≤ (x5_1 : Int) := of_decide_eq_true (by first | (with_reducible assumption) | assumption)
                have q143 : x5_1 < (l0.length : Int) := of_decide_eq_true (by first | (with_reducible assumption) | assumption)
                obtain ⟨ad143, e143, hx143_0⟩ := Kd.at_int HR0.out x5_1 p143 q143
                cases e143
                replace p143 := eq_true p143
                replace q143 := eq_true q143
                have p144 : 0 ≤ (x5_1 : Int) := of_decide_eq_true (by first | (with_reducible assumption) | assumption)
                have q144 : x5_1 < (l1.length : Int) := of_decide_eq_true (by first | (with_reducible assumption) | assumption)
                obtain ⟨ad144, e144, hx144_0⟩ := Kd.at_int HR1.out x5_1 p144 q144
                cases e144
                replace p144 := eq_true p144
                replace q144 := eq_true q144
                go_wp2
                repeat (go_quiet (fail); try go_wp2)
                go_ret
                exact ⟨by first | rfl | (simp; done) | (simp [*]; done), by repeat (first | exact Drawn0.refl _ | apply Drawn0.step)⟩
            · rw [if_neg c6] at H
              exact absurd H (by simp)
          · rw [if_neg c5] at H
            exact absurd H (by simp)
        · rw [if_neg c4] at H
          have c4b0 : decide (x5_1 < (l0.length : Int)) = false := decide_eq_false c4
          clear c4
          obtain rfl := Option.some.inj H
          go_wp2
          repeat (go_quiet (fail); try go_wp2)
          go_ret
          exact ⟨by first | rfl | (simp; done) | (simp [*]; done), by repeat (first | exact Drawn0.refl _ | apply Drawn0.step)⟩
  · rw [if_neg c3] at H
    have c3b0 : ((l0.length : Int) == (l1.length : Int)) = false := beq_eq_false_iff_ne.mpr c3
    have c3b1 : ((l0.length : Int) != (l1.length : Int)) = true := bne_iff_ne.mpr c3
    have c3b2 : (l0.length == l1.length) = false := by first | simpa using c3 | (simp at c3 ⊢; omega)
    obtain rfl := Option.some.inj H
    go_enter Try.func13, Try.ntmps13
    go_wp2
    repeat (go_quiet (fail); try go_wp2)
    go_ret
    exact ⟨by first | rfl | (simp; done) | (simp [*]; done), by repeat (first | exact Drawn0.refl _ | apply Drawn0.step)⟩

end Go.Proofs.Ytbldocbijihpgaa.PA

-- ---- PAx27
/- norm.Put: what the call answers, for numbers from nought on. Conditions: those, and a bound on how many. -/
namespace Go.Proofs.Ytbldocbijihpgaa.PA
open Go.RowKit Go.Proofs.YtbldocbijihpgaaW.PrintWords Go.Proofs.YtbldocbijihpgaaW.PrintLast Go.Proofs.YtbldocbijihpgaaW.PrintMore
set_option linter.unusedVariables false
set_option linter.unusedSimpArgs false

def norm_Put.f (l0 : List Int) : Option (ByteArray) := if (∀ x ∈ l0, 0 ≤ x ∧ x < 9223372036854775808) ∧ l0.length ≤ 100000 then some (Np.txt (Np.nputL l0)) else none
theorem norm_Put.calls (A0 : Option Addr) (c0 : Nat) (l0 : List Int) (r : ByteArray) (w : World) (hr0 : Kd.C (Kd.int .i64) w A0 l0.length l0) (hc0 : l0.length ≤ c0) (h : norm_Put.f l0 = some r) :
    Calls Try.prog 19 #[.slice A0 l0.length c0] w fun e w' => e = .returned (.string r) ∧ Below w.heap.size w w' := by
  unfold norm_Put.f at h
  split at h
  · rename_i hg
    cases h
    exact NormP.nput_calls A0 c0 l0 w hr0 hc0 hg.1 hg.2
  · cases h
end Go.Proofs.Ytbldocbijihpgaa.PA

-- ---- PAx28
/- norm.Get: what the call answers, for every text, place and log. Conditions: the text is not longer than a thousand million bytes. -/
namespace Go.Proofs.Ytbldocbijihpgaa.PA
open Go.RowKit Go.Proofs.YtbldocbijihpgaaW.PrintWords Go.Proofs.YtbldocbijihpgaaW.PrintLast Go.Proofs.YtbldocbijihpgaaW.PrintMore
set_option linter.unusedVariables false
set_option linter.unusedSimpArgs false

def norm_Get.f (a0 : ByteArray) (a1 : Int) (a2 : Int) : Option (List Int × Int × Int) := if a0.size ≤ 1000000000 then some (Np.getNE a0 a1 a2) else none
theorem norm_Get.calls (a0 : ByteArray) (a1 : Int) (a2 : Int) (r1 : List Int) (r2 : Int) (r3 : Int) (w : World) (h : norm_Get.f a0 a1 a2 = some (r1, r2, r3)) :
    Calls Try.prog 16 #[.string a0, .int .i64 a1, .int .i64 a2] w fun e w' => ∃ v0_ : Value, e = .returned (.tuple #[v0_, .int .i64 r2, .int .i64 r3]) ∧ Kd.R (Kd.int .i64) 3 w' w.heap.size (fun _ => True) v0_ r1 ∧ Below w.heap.size w w' := by
  unfold norm_Get.f at h
  split at h
  · rename_i hs
    have h := Option.some.inj h
    by_cases ha : a1 < 0 ∨ (a0.size : Int) < a1 ∨ ¬ (7 ≤ a2 ∧ a2 ≤ 12)
    · have e : Np.getNE a0 a1 a2 = ([], 0, 1) := by unfold Np.getNE; rw [if_pos ha]
      rw [e] at h
      cases h
      refine (NormG.nget_arg a0 a1 a2 w hs ha).mono ?_
      rintro e w' ⟨rfl, hb⟩
      exact ⟨_, rfl, Kd.R_nil _ _ _ _ _, hb⟩
    · obtain ⟨m, rfl⟩ := Int.eq_ofNat_of_zero_le (show 0 ≤ a1 by omega)
      obtain ⟨lg, rfl⟩ := Int.eq_ofNat_of_zero_le (show 0 ≤ a2 by omega)
      refine (NormG.nget_calls a0 m lg w hs (by omega) (by omega) (by omega) (r1, r2, r3) h.symm).mono ?_
      rintro e w' ⟨v, rfl, ho, hnew, hb⟩
      exact ⟨v, rfl, Own.R_of_owns ho hnew, hb⟩
  · cases h
end Go.Proofs.Ytbldocbijihpgaa.PA

-- ---- PAx31

namespace Go.Proofs.Ytbldocbijihpgaa.PA
open Go.RowKit Go.Proofs.YtbldocbijihpgaaW.PrintWords Go.Proofs.YtbldocbijihpgaaW.PrintLast Go.Proofs.YtbldocbijihpgaaW.PrintMore
attribute [local go_sem] max2_int min2_int max_two min_two max_three min_three max_four min_four   -- for this text's walks alone
set_option linter.unusedVariables false
set_option linter.unusedSimpArgs false

/-! ### wringerref7_PutNorm: function 20 -/
mutual
def wringerref7_PutNorm.l0 : Nat → List Int → ByteArray → Int → Option (ByteArray)
  | 0, _, _, _ => none
  | k + 1, x0, x3, x4 => if x4 < (x0.length : Int) then (if 0 ≤ x4 then ((wringerref1_PutVint.f k (IntKind.u64.wrap (rd x0 x4))).bind fun t171 => (if x3.size + t171.size ≤ 9223372036854775807 then (if (rd x0 x4) = 0 then (wringerref7_PutNorm.l1 k x0 (x3 ++ t171) x4 0) else (wringerref7_PutNorm.l0 k x0 (x3 ++ t171) (wrap64 (x4 + 1)))) else (none))) else (none)) else (some x3)
def wringerref7_PutNorm.l1 : Nat → List Int → ByteArray → Int → Int → Option (ByteArray)
  | 0, _, _, _, _ => none
  | k + 1, x0, x3, x4, x5 => if x4 < (x0.length : Int) then (if 0 ≤ x4 then (if (rd x0 x4) = 0 then (wringerref7_PutNorm.l1 k x0 x3 (wrap64 (x4 + 1)) (wrap64 (x5 + 1))) else ((wringerref1_PutVint.f k (IntKind.u64.wrap (wrap64 (x5 - 1)))).bind fun t174 => (if x3.size + t174.size ≤ 9223372036854775807 then (wringerref7_PutNorm.l0 k x0 (x3 ++ t174) x4) else (none)))) else (none)) else ((wringerref1_PutVint.f k (IntKind.u64.wrap (wrap64 (x5 - 1)))).bind fun t175 => (if x3.size + t175.size ≤ 9223372036854775807 then (wringerref7_PutNorm.l0 k x0 (x3 ++ t175) x4) else (none)))
end
def wringerref7_PutNorm.f (k : Nat) (l0 : List Int) : Option (ByteArray) := wringerref7_PutNorm.l0 k l0 (⟨#[]⟩ : ByteArray) 0
theorem wringerref7_PutNorm.mono_l : ∀ k, (∀ y0 y1 y2, LeO (wringerref7_PutNorm.l0 k y0 y1 y2) (wringerref7_PutNorm.l0 (k + 1) y0 y1 y2)) ∧ (∀ y0 y1 y2 y3, LeO (wringerref7_PutNorm.l1 k y0 y1 y2 y3) (wringerref7_PutNorm.l1 (k + 1) y0 y1 y2 y3))
  | 0 => ⟨fun _ _ _ r h => by simp [wringerref7_PutNorm.l0] at h, fun _ _ _ _ r h => by simp [wringerref7_PutNorm.l1] at h⟩
  | k + 1 => by
    obtain ⟨ih0, ih1⟩ := wringerref7_PutNorm.mono_l k
    refine ⟨?_, ?_⟩
    · intro y0 y1 y2
      unfold wringerref7_PutNorm.l0
      repeat' first
      | (with_reducible exact ih0 _ _ _)
      | (with_reducible exact ih1 _ _ _ _)
      | (with_reducible exact wringerref1_PutVint.mono _ _)
      | (with_reducible exact LeO.refl _)
      | (with_reducible exact LeO.none _)
      | (with_reducible refine LeO.ite ?_ ?_)
      | (with_reducible refine LeO.bind ?_ (fun _ => ?_))
      | exact ih0 _ _ _
      | exact ih1 _ _ _ _
      | exact wringerref1_PutVint.mono _ _
      | exact LeO.none _
      | refine LeO.ite ?_ ?_
      | refine LeO.bind ?_ (fun _ => ?_)
    · intro y0 y1 y2 y3
      unfold wringerref7_PutNorm.l1
      repeat' first
      | (with_reducible exact ih0 _ _ _)
      | (with_reducible exact ih1 _ _ _ _)
      | (with_reducible exact wringerref1_PutVint.mono _ _)
      | (with_reducible exact LeO.refl _)
      | (with_reducible exact LeO.none _)
      | (with_reducible refine LeO.ite ?_ ?_)
      | (with_reducible refine LeO.bind ?_ (fun _ => ?_))
      | exact ih0 _ _ _
      | exact ih1 _ _ _ _
      | exact wringerref1_PutVint.mono _ _
      | exact LeO.none _
      | refine LeO.ite ?_ ?_
      | refine LeO.bind ?_ (fun _ => ?_)
theorem wringerref7_PutNorm.mono : ∀ a0 k, LeO (wringerref7_PutNorm.f k a0) (wringerref7_PutNorm.f (k + 1) a0) := by
  intro a0 k
  obtain ⟨ih0, ih1⟩ := wringerref7_PutNorm.mono_l k
  unfold wringerref7_PutNorm.f
  repeat' first
      | (with_reducible exact ih0 _ _ _)
      | (with_reducible exact ih1 _ _ _ _)
      | (with_reducible exact wringerref1_PutVint.mono _ _)
      | (with_reducible exact LeO.refl _)
      | (with_reducible exact LeO.none _)
      | (with_reducible refine LeO.ite ?_ ?_)
      | (with_reducible refine LeO.bind ?_ (fun _ => ?_))
      | exact ih0 _ _ _
      | exact ih1 _ _ _ _
      | exact wringerref1_PutVint.mono _ _
      | exact LeO.none _
      | refine LeO.ite ?_ ?_
      | refine LeO.bind ?_ (fun _ => ?_)
set_option maxHeartbeats 8000000 in
set_option maxRecDepth 100000 in
theorem wringerref7_PutNorm.calls (k : Nat) (A0 : Option Addr) (c0 : Nat) (l0 : List Int) (r : ByteArray) (w : World) (hr0 : Kd.C (Kd.int .i64) w A0 l0.length l0) (hc0 : l0.length ≤ c0) (h : wringerref7_PutNorm.f k l0 = some r) :
    Calls Try.prog 20 #[.slice A0 l0.length c0] w fun e w' => e = .returned (.string r) ∧ Below w.heap.size w w' := by
  have HR0 := Aside0.mk hr0
  have HC0 := Aside0.mk hc0
  clear hr0 hc0
  have HB := Aside0.mk (Below.refl w.heap.size w)
  have H : (wringerref7_PutNorm.l0 k l0 (⟨#[]⟩ : ByteArray) 0) = some r := h
  clear h
  have H' := Aside0.mk H
  clear H
  go_enter Try.func20, Try.ntmps20
  go_wp2
  go_loopg [3, 4] k (fun kq v3 v4 w' => ∃ (x3_1 : ByteArray) (x4_1 : Int), v3 = .string x3_1 ∧ v4 = .int .i64 x4_1 ∧ Aside0 (wringerref7_PutNorm.l0 kq l0 x3_1 x4_1 = some r) ∧ Aside0 (kq ≤ k) ∧ Aside0 (Below w.heap.size w w'))
  case atStart => exact ⟨((⟨#[]⟩ : ByteArray)), (0), (by first | rfl | (simp; done) | (simp [*]; done)), (by first | rfl | (simp; done) | (simp [*]; done)), H', ⟨Nat.le_refl _⟩, ⟨by repeat (first | (with_reducible first | exact HB.out | apply below_alloc | apply pw_below_drewN | apply below_drew1) | exact HB.out)⟩⟩
  case round =>
    clear H'
    obtain ⟨x3_1, x4_1, rfl, rfl, HA, HK1, HB⟩ := hrel
    cases gk with
    | zero => exact absurd HA.out (by simp [wringerref7_PutNorm.l0])
    | succ k1 =>
      have H := HA.out
      clear HA
      simp only [wringerref7_PutNorm.l0] at H
      by_cases c2 : x4_1 < (l0.length : Int)
      · rw [if_pos c2] at H
        have c2b0 : decide (x4_1 < (l0.length : Int)) = true := decide_eq_true c2
        clear c2
        by_cases c3 : 0 ≤ x4_1
        · rw [if_pos c3] at H
          have c3b0 : decide (0 ≤ x4_1) = true := decide_eq_true c3
          clear c3
          replace H := Option.bind_eq_some_iff.mp H
          obtain ⟨t171, A40, H⟩ := H
          replace H : (if x3_1.size + t171.size ≤ 9223372036854775807 then (if (rd l0 x4_1) = 0 then (wringerref7_PutNorm.l1 k1 l0 (x3_1 ++ t171) x4_1 0) else (wringerref7_PutNorm.l0 k1 l0 (x3_1 ++ t171) (wrap64 (x4_1 + 1)))) else (none)) = some r := H
          have A4 := Aside0.mk A40
          clear A40
          by_cases c5 : x3_1.size + t171.size ≤ 9223372036854775807
          · rw [if_pos c5] at H
            have c5b0 := eq_true c5
            have c5b1 : decide (x3_1.size + t171.size ≤ 9223372036854775807) = true := decide_eq_true c5
            try have c5b2 : (9223372036854775807 < x3_1.size + t171.size) = False := eq_false (Nat.not_lt.2 c5)
            have c5z1 := c5b1
            have c5z2 := c5b2
            try simp only [ByteArray.size_append] at c5z1
            try simp only [ByteArray.size_append] at c5z2
            by_cases c6 : (rd l0 x4_1) = 0
            · rw [if_pos c6] at H
              have c6b0 : ((rd l0 x4_1) == 0) = true := beq_iff_eq.mpr c6
              have c6b1 : ((rd l0 x4_1) != 0) = false := bne_eq_false_iff_eq.mpr c6
              clear c6
              have H' := Aside0.mk H
              clear H
              have p170 : 0 ≤ (x4_1 : Int) := of_decide_eq_true (by first | (with_reducible assumption) | assumption)
              have q170 : x4_1 < (l0.length : Int) := of_decide_eq_true (by first | (with_reducible assumption) | assumption)
              obtain ⟨ad170, e170, hx170_0⟩ := Kd.at_int HR0.out x4_1 p170 q170
              cases e170
              replace hx170_0 := (HB.out.cell (World.block_lt_of_cell? w _ hx170_0)).trans hx170_0
              replace p170 := eq_true p170
              replace q170 := eq_true q170
              go_wp2_with (first | ((with_reducible refine gate_callee (f := 36) rfl ?_); refine goesL_ (some 16) rfl rfl Try.func36 (by kernel_rfl) rfl #[.int .u64 (IntKind.u64.wrap (rd l0 x4_1))] rfl (by (try simp only [List.map_toArray, List.map_cons, List.map_nil]); first | done | rfl | (simp only [List.length_drop, List.length_take]; rfl)) ?_; (with_reducible refine (wringerref1_PutVint.calls k1 (IntKind.u64.wrap (rd l0 x4_1)) t171 _ A4.out).mono ?_); rintro e w7 ⟨rfl, hb⟩; refine ⟨_, rfl, ?_⟩; have n0_ := Aside0.mk (below_step (by repeat (first | (with_reducible first | exact HB.out | apply below_alloc | apply pw_below_drewN | apply below_drew1) | exact HB.out)) hb); clear HB; have HB := n0_; clear n0_; (try clear hb); (try clear hb2); (try clear hk); (try clear hi); have p172 : 0 ≤ (x4_1 : Int) := of_decide_eq_true (by first | (with_reducible assumption) | assumption); have q172 : x4_1 < (l0.length : Int) := of_decide_eq_true (by first | (with_reducible assumption) | assumption); obtain ⟨ad172, e172, hx172_0⟩ := Kd.at_int HR0.out x4_1 p172 q172; obtain rfl : ad170 = ad172 := (by injection e172); replace hx172_0 := (HB.out.cell (World.block_lt_of_cell? w _ hx172_0)).trans hx172_0; replace p172 := eq_true p172; replace q172 := eq_true q172))
              go_loopg [4, 5] k1 (fun kq v4 v5 w' => ∃ (x4_2 : Int) (x5_2 : Int), v4 = .int .i64 x4_2 ∧ v5 = .int .i64 x5_2 ∧ Aside0 (wringerref7_PutNorm.l1 kq l0 (x3_1 ++ t171) x4_2 x5_2 = some r) ∧ Aside0 (kq ≤ k1) ∧ Aside0 (Below w.heap.size w w'))
              case atStart => exact ⟨(x4_1), (0), (by first | rfl | (simp; done) | (simp [*]; done)), (by first | rfl | (simp; done) | (simp [*]; done)), H', ⟨Nat.le_refl _⟩, ⟨by repeat (first | (with_reducible first | exact HB.out | apply below_alloc | apply pw_below_drewN | apply below_drew1) | exact HB.out)⟩⟩
              case round =>
                clear H'
                try clear p1
                try clear q1
                try clear hx1
                try clear c2
                try clear c2b0
                try clear p2
                try clear c3
                try clear c3b0
                try clear c5
                try clear c5b0
                try clear c5b1
                try clear c5b2
                try clear c6
                try clear c6b0
                try clear c6b1
                try clear p6
                try clear hx170_0
                try clear hx172_0
                try clear p170
                try clear p172
                try clear q170
                try clear q172
                obtain ⟨x4_2, x5_2, rfl, rfl, HA, HK2, HB⟩ := hrel
                cases gk with
                | zero => exact absurd HA.out (by simp [wringerref7_PutNorm.l1])
                | succ k2 =>
                  have H := HA.out
                  clear HA
                  simp only [wringerref7_PutNorm.l1] at H
                  by_cases c8 : x4_2 < (l0.length : Int)
                  · rw [if_pos c8] at H
                    have c8b0 : decide (x4_2 < (l0.length : Int)) = true := decide_eq_true c8
                    clear c8
                    by_cases c9 : 0 ≤ x4_2
                    · rw [if_pos c9] at H
                      have c9b0 : decide (0 ≤ x4_2) = true := decide_eq_true c9
                      clear c9
                      by_cases c10 : (rd l0 x4_2) = 0
                      · rw [if_pos c10] at H
                        have c10b0 : ((rd l0 x4_2) == 0) = true := beq_iff_eq.mpr c10
                        have c10b1 : ((rd l0 x4_2) != 0) = false := bne_eq_false_iff_eq.mpr c10
                        clear c10
                        have H' := Aside0.mk H
                        clear H
                        have p173 : 0 ≤ (x4_2 : Int) := of_decide_eq_true (by first | (with_reducible assumption) | assumption)
                        have q173 : x4_2 < (l0.length : Int) := of_decide_eq_true (by first | (with_reducible assumption) | assumption)
                        obtain ⟨ad173, e173, hx173_0⟩ := Kd.at_int HR0.out x4_2 p173 q173
                        obtain rfl : ad170 = ad173 := (by injection e173)
                        replace hx173_0 := (HB.out.cell (World.block_lt_of_cell? w _ hx173_0)).trans hx173_0
                        replace p173 := eq_true p173
                        replace q173 := eq_true q173
                        go_wp2
                        go_roundg k2
                        case measure => have := HK1.out; have := HK2.out; omega
                        case rel => exact ⟨(wrap64 (x4_2 + 1)), (wrap64 (x5_2 + 1)), (by first | rfl | (simp; done) | (simp [*]; done)), (by first | rfl | (simp; done) | (simp [*]; done)), H', ⟨by have := HK1.out; have := HK2.out; omega⟩, ⟨by repeat (first | (with_reducible first | exact HB.out | apply below_alloc | apply pw_below_drewN | apply below_drew1) | exact HB.out)⟩⟩
                      · rw [if_neg c10] at H
                        have c10b0 : ((rd l0 x4_2) == 0) = false := beq_eq_false_iff_ne.mpr c10
                        have c10b1 : ((rd l0 x4_2) != 0) = true := bne_iff_ne.mpr c10
                        replace H := Option.bind_eq_some_iff.mp H
                        obtain ⟨t174, A110, H⟩ := H
                        replace H : (if (x3_1 ++ t171).size + t174.size ≤ 9223372036854775807 then (wringerref7_PutNorm.l0 k2 l0 ((x3_1 ++ t171) ++ t174) x4_2) else (none)) = some r := H
                        have A11 := Aside0.mk A110
                        clear A110
                        by_cases c12 : (x3_1 ++ t171).size + t174.size ≤ 9223372036854775807
                        · rw [if_pos c12] at H
                          have c12b0 := eq_true c12
                          have c12b1 : decide ((x3_1 ++ t171).size + t174.size ≤ 9223372036854775807) = true := decide_eq_true c12
                          try have c12b2 : (9223372036854775807 < (x3_1 ++ t171).size + t174.size) = False := eq_false (Nat.not_lt.2 c12)
                          have c12z1 := c12b1
                          have c12z2 := c12b2
                          try simp only [ByteArray.size_append] at c12z1
                          try simp only [ByteArray.size_append] at c12z2
                          have H' := Aside0.mk H
                          clear H
                          have p173 : 0 ≤ (x4_2 : Int) := of_decide_eq_true (by first | (with_reducible assumption) | assumption)
                          have q173 : x4_2 < (l0.length : Int) := of_decide_eq_true (by first | (with_reducible assumption) | assumption)
                          obtain ⟨ad173, e173, hx173_0⟩ := Kd.at_int HR0.out x4_2 p173 q173
                          obtain rfl : ad170 = ad173 := (by injection e173)
                          replace hx173_0 := (HB.out.cell (World.block_lt_of_cell? w _ hx173_0)).trans hx173_0
                          replace p173 := eq_true p173
                          replace q173 := eq_true q173
                          go_wp2_with (first | ((with_reducible refine gate_callee (f := 36) rfl ?_); refine goesL_ (some 44) rfl rfl Try.func36 (by kernel_rfl) rfl #[.int .u64 (IntKind.u64.wrap (wrap64 (x5_2 - 1)))] rfl (by (try simp only [List.map_toArray, List.map_cons, List.map_nil]); first | done | rfl | (simp only [List.length_drop, List.length_take]; rfl)) ?_; (with_reducible refine (wringerref1_PutVint.calls k2 (IntKind.u64.wrap (wrap64 (x5_2 - 1))) t174 _ A11.out).mono ?_); rintro e w13 ⟨rfl, hb⟩; refine ⟨_, rfl, ?_⟩; have n0_ := Aside0.mk (below_step (by repeat (first | (with_reducible first | exact HB.out | apply below_alloc | apply pw_below_drewN | apply below_drew1) | exact HB.out)) hb); clear HB; have HB := n0_; clear n0_; (try clear hb); (try clear hb2); (try clear hk); (try clear hi)))
                          go_roundg k2
                          case measure => have := HK1.out; have := HK2.out; omega
                          case rel => exact ⟨((x3_1 ++ t171) ++ t174), (x4_2), (by first | rfl | (simp; done) | (simp [*]; done)), (by first | rfl | (simp; done) | (simp [*]; done)), H', ⟨by have := HK1.out; have := HK2.out; omega⟩, ⟨by repeat (first | (with_reducible first | exact HB.out | apply below_alloc | apply pw_below_drewN | apply below_drew1) | exact HB.out)⟩⟩
                        · rw [if_neg c12] at H
                          exact absurd H (by simp)
                    · rw [if_neg c9] at H
                      exact absurd H (by simp)
                  · rw [if_neg c8] at H
                    have c8b0 : decide (x4_2 < (l0.length : Int)) = false := decide_eq_false c8
                    clear c8
                    replace H := Option.bind_eq_some_iff.mp H
                    obtain ⟨t175, A140, H⟩ := H
                    replace H : (if (x3_1 ++ t171).size + t175.size ≤ 9223372036854775807 then (wringerref7_PutNorm.l0 k2 l0 ((x3_1 ++ t171) ++ t175) x4_2) else (none)) = some r := H
                    have A14 := Aside0.mk A140
                    clear A140
                    by_cases c15 : (x3_1 ++ t171).size + t175.size ≤ 9223372036854775807
                    · rw [if_pos c15] at H
                      have c15b0 := eq_true c15
                      have c15b1 : decide ((x3_1 ++ t171).size + t175.size ≤ 9223372036854775807) = true := decide_eq_true c15
                      try have c15b2 : (9223372036854775807 < (x3_1 ++ t171).size + t175.size) = False := eq_false (Nat.not_lt.2 c15)
                      have c15z1 := c15b1
                      have c15z2 := c15b2
                      try simp only [ByteArray.size_append] at c15z1
                      try simp only [ByteArray.size_append] at c15z2
                      have H' := Aside0.mk H
                      clear H
                      go_wp2_with (first | ((with_reducible refine gate_callee (f := 36) rfl ?_); refine goesL_ (some 44) rfl rfl Try.func36 (by kernel_rfl) rfl #[.int .u64 (IntKind.u64.wrap (wrap64 (x5_2 - 1)))] rfl (by (try simp only [List.map_toArray, List.map_cons, List.map_nil]); first | done | rfl | (simp only [List.length_drop, List.length_take]; rfl)) ?_; (with_reducible refine (wringerref1_PutVint.calls k2 (IntKind.u64.wrap (wrap64 (x5_2 - 1))) t175 _ A14.out).mono ?_); rintro e w16 ⟨rfl, hb⟩; refine ⟨_, rfl, ?_⟩; have n0_ := Aside0.mk (below_step (by repeat (first | (with_reducible first | exact HB.out | apply below_alloc | apply pw_below_drewN | apply below_drew1) | exact HB.out)) hb); clear HB; have HB := n0_; clear n0_; (try clear hb); (try clear hb2); (try clear hk); (try clear hi)))
                      go_roundg k2
                      case measure => have := HK1.out; have := HK2.out; omega
                      case rel => exact ⟨((x3_1 ++ t171) ++ t175), (x4_2), (by first | rfl | (simp; done) | (simp [*]; done)), (by first | rfl | (simp; done) | (simp [*]; done)), H', ⟨by have := HK1.out; have := HK2.out; omega⟩, ⟨by repeat (first | (with_reducible first | exact HB.out | apply below_alloc | apply pw_below_drewN | apply below_drew1) | exact HB.out)⟩⟩
                    · rw [if_neg c15] at H
                      exact absurd H (by simp)
            · rw [if_neg c6] at H
              have c6b0 : ((rd l0 x4_1) == 0) = false := beq_eq_false_iff_ne.mpr c6
              have c6b1 : ((rd l0 x4_1) != 0) = true := bne_iff_ne.mpr c6
              have H' := Aside0.mk H
              clear H
              have p170 : 0 ≤ (x4_1 : Int) := of_decide_eq_true (by first | (with_reducible assumption) | assumption)
              have q170 : x4_1 < (l0.length : Int) := of_decide_eq_true (by first | (with_reducible assumption) | assumption)
              obtain ⟨ad170, e170, hx170_0⟩ := Kd.at_int HR0.out x4_1 p170 q170
              cases e170
              replace hx170_0 := (HB.out.cell (World.block_lt_of_cell? w _ hx170_0)).trans hx170_0
              replace p170 := eq_true p170
              replace q170 := eq_true q170
              go_wp2_with (first | ((with_reducible refine gate_callee (f := 36) rfl ?_); refine goesL_ (some 16) rfl rfl Try.func36 (by kernel_rfl) rfl #[.int .u64 (IntKind.u64.wrap (rd l0 x4_1))] rfl (by (try simp only [List.map_toArray, List.map_cons, List.map_nil]); first | done | rfl | (simp only [List.length_drop, List.length_take]; rfl)) ?_; (with_reducible refine (wringerref1_PutVint.calls k1 (IntKind.u64.wrap (rd l0 x4_1)) t171 _ A4.out).mono ?_); rintro e w17 ⟨rfl, hb⟩; refine ⟨_, rfl, ?_⟩; have n0_ := Aside0.mk (below_step (by repeat (first | (with_reducible first | exact HB.out | apply below_alloc | apply pw_below_drewN | apply below_drew1) | exact HB.out)) hb); clear HB; have HB := n0_; clear n0_; (try clear hb); (try clear hb2); (try clear hk); (try clear hi); have p172 : 0 ≤ (x4_1 : Int) := of_decide_eq_true (by first | (with_reducible assumption) | assumption); have q172 : x4_1 < (l0.length : Int) := of_decide_eq_true (by first | (with_reducible assumption) | assumption); obtain ⟨ad172, e172, hx172_0⟩ := Kd.at_int HR0.out x4_1 p172 q172; obtain rfl : ad170 = ad172 := (by injection e172); replace hx172_0 := (HB.out.cell (World.block_lt_of_cell? w _ hx172_0)).trans hx172_0; replace p172 := eq_true p172; replace q172 := eq_true q172))
              go_roundg k1
              case measure => have := HK1.out; omega
              case rel => exact ⟨(x3_1 ++ t171), (wrap64 (x4_1 + 1)), (by first | rfl | (simp; done) | (simp [*]; done)), (by first | rfl | (simp; done) | (simp [*]; done)), H', ⟨by have := HK1.out; omega⟩, ⟨by repeat (first | (with_reducible first | exact HB.out | apply below_alloc | apply pw_below_drewN | apply below_drew1) | exact HB.out)⟩⟩
          · rw [if_neg c5] at H
            exact absurd H (by simp)
        · rw [if_neg c3] at H
          exact absurd H (by simp)
      · rw [if_neg c2] at H
        have c2b0 : decide (x4_1 < (l0.length : Int)) = false := decide_eq_false c2
        clear c2
        obtain rfl := Option.some.inj H
        go_wp2
        go_ret
        exact ⟨by first | rfl | (simp [errW_none, errW_some] <;> rfl) | (simp [*, errW_none, errW_some] <;> rfl), by repeat (first | (with_reducible first | exact HB.out | apply below_alloc | apply pw_below_drewN | apply below_drew1) | exact HB.out)⟩

end Go.Proofs.Ytbldocbijihpgaa.PA
