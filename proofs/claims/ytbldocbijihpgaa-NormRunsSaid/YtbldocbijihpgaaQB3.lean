/- Part B3 of what the layer's laws stand on: PAx17, Uf, Nn, Nw, PAx13, PAx14, PAx16, PAx20, PAx21, PAx27, PAx28, PAx31, PAx33. Written by a program (merge.py) out of this session's own texts and of what the kit's print wrote over stand-ins (sp.py). Conditions: those that each theorem names. -/
import Derived.Test.YtbldocbijihpgaaQB2
import Derived.Test.YtbldocbijihpgaaQB1
-- ---- PAx17

namespace Go.Proofs.Ytbldocbijihpgaa.PA
open Go.RowKit Go.Proofs.YtbldocbijihpgaaW.PrintWords Go.Proofs.YtbldocbijihpgaaW.PrintLast Go.Proofs.YtbldocbijihpgaaW.PrintMore
attribute [local go_sem] max2_int min2_int max_two min_two max_three min_three max_four min_four   -- for this text's walks alone
set_option linter.unusedVariables false
set_option linter.unusedSimpArgs false

/-! ### wringerref7_freqs: function 27 -/
def wringerref7_freqs.l0 : Nat → List Int → Int → Int → Option (Bool)
  | 0, _, _, _ => none
  | k + 1, x0, x3, x4 => if x4 < (x0.length : Int) then (if 0 ≤ x4 then (if (rd x0 x4) < 0 then (some false) else (if (rd x0 x4) > 16777216 then (some false) else (wringerref7_freqs.l0 k x0 (wrap64 (x3 + (rd x0 x4))) (wrap64 (x4 + 1))))) else (none)) else (if (x0.length : Int) = 65 then (some (decide (x3 > 0))) else (some false))
def wringerref7_freqs.f (k : Nat) (l0 : List Int) : Option (Bool) := wringerref7_freqs.l0 k l0 0 0
theorem wringerref7_freqs.mono_l : ∀ k, (∀ y0 y1 y2, LeO (wringerref7_freqs.l0 k y0 y1 y2) (wringerref7_freqs.l0 (k + 1) y0 y1 y2))
  | 0 => fun _ _ _ r h => by simp [wringerref7_freqs.l0] at h
  | k + 1 => by
    have ih0 := wringerref7_freqs.mono_l k
    · intro y0 y1 y2
      unfold wringerref7_freqs.l0
      repeat' first
      | (with_reducible exact ih0 _ _ _)
      | (with_reducible exact LeO.refl _)
      | (with_reducible exact LeO.none _)
      | (with_reducible refine LeO.ite ?_ ?_)
      | (with_reducible refine LeO.bind ?_ (fun _ => ?_))
      | exact ih0 _ _ _
      | exact LeO.none _
      | refine LeO.ite ?_ ?_
      | refine LeO.bind ?_ (fun _ => ?_)
theorem wringerref7_freqs.mono : ∀ a0 k, LeO (wringerref7_freqs.f k a0) (wringerref7_freqs.f (k + 1) a0) := by
  intro a0 k
  have ih0 := wringerref7_freqs.mono_l k
  unfold wringerref7_freqs.f
  repeat' first
      | (with_reducible exact ih0 _ _ _)
      | (with_reducible exact LeO.refl _)
      | (with_reducible exact LeO.none _)
      | (with_reducible refine LeO.ite ?_ ?_)
      | (with_reducible refine LeO.bind ?_ (fun _ => ?_))
      | exact ih0 _ _ _
      | exact LeO.none _
      | refine LeO.ite ?_ ?_
      | refine LeO.bind ?_ (fun _ => ?_)
set_option maxHeartbeats 8000000 in
set_option maxRecDepth 100000 in
theorem wringerref7_freqs.calls (k : Nat) (A0 : Option Addr) (c0 : Nat) (l0 : List Int) (r : Bool) (w : World) (hr0 : Kd.C (Kd.int .i64) w A0 l0.length l0) (hc0 : l0.length ≤ c0) (h : wringerref7_freqs.f k l0 = some r) :
    Calls Try.prog 27 #[.slice A0 l0.length c0] w fun e w' => e = .returned (.bool r) ∧ Drawn0 w w' := by
  have HR0 := Aside0.mk hr0
  have HC0 := Aside0.mk hc0
  clear hr0 hc0
  have H : (wringerref7_freqs.l0 k l0 0 0) = some r := h
  clear h
  have H' := Aside0.mk H
  clear H
  go_enter Try.func27, Try.ntmps27
  go_wp2
  go_loopg [3, 4] k (fun kq v3 v4 w' => ∃ (x3_1 : Int) (x4_1 : Int), v3 = .int .i64 x3_1 ∧ v4 = .int .i64 x4_1 ∧ Aside0 (wringerref7_freqs.l0 kq l0 x3_1 x4_1 = some r) ∧ Aside0 (kq ≤ k) ∧ Drawn0 w w')
  case atStart => exact ⟨(0), (0), (by first | rfl | (simp; done) | (simp [*]; done)), (by first | rfl | (simp; done) | (simp [*]; done)), H', ⟨Nat.le_refl _⟩, by repeat (first | exact Drawn0.refl _ | apply Drawn0.step)⟩
  case round =>
    clear H'
    obtain ⟨x3_1, x4_1, rfl, rfl, HA, HK1, ⟨m1, rfl⟩⟩ := hrel
    cases gk with
    | zero => exact absurd HA.out (by simp [wringerref7_freqs.l0])
    | succ k1 =>
      have H := HA.out
      clear HA
      simp only [wringerref7_freqs.l0] at H
      by_cases c2 : x4_1 < (l0.length : Int)
      · rw [if_pos c2] at H
        have c2b0 : decide (x4_1 < (l0.length : Int)) = true := decide_eq_true c2
        clear c2
        by_cases c3 : 0 ≤ x4_1
        · rw [if_pos c3] at H
          have c3b0 : decide (0 ≤ x4_1) = true := decide_eq_true c3
          clear c3
          by_cases c4 : (rd l0 x4_1) < 0
          · rw [if_pos c4] at H
            have c4b0 : decide ((rd l0 x4_1) < 0) = true := decide_eq_true c4
            clear c4
            obtain rfl := Option.some.inj H
            have p130 : 0 ≤ (x4_1 : Int) := of_decide_eq_true (by first | (with_reducible assumption) | assumption)
            have q130 : x4_1 < (l0.length : Int) := of_decide_eq_true (by first | (with_reducible assumption) | assumption)
            obtain ⟨ad130, e130, hx130_0⟩ := Kd.at_int HR0.out x4_1 p130 q130
            cases e130
            replace p130 := eq_true p130
            replace q130 := eq_true q130
            go_wp2
            go_ret
            exact ⟨by first | rfl | (simp; done) | (simp [*]; done), by repeat (first | exact Drawn0.refl _ | apply Drawn0.step)⟩
          · rw [if_neg c4] at H
            have c4b0 : decide ((rd l0 x4_1) < 0) = false := decide_eq_false c4
            clear c4
            by_cases c5 : (rd l0 x4_1) > 16777216
            · rw [if_pos c5] at H
              have c5b0 : decide (16777216 < (rd l0 x4_1)) = true := decide_eq_true c5
              clear c5
              obtain rfl := Option.some.inj H
              have p130 : 0 ≤ (x4_1 : Int) := of_decide_eq_true (by first | (with_reducible assumption) | assumption)
              have q130 : x4_1 < (l0.length : Int) := of_decide_eq_true (by first | (with_reducible assumption) | assumption)
              obtain ⟨ad130, e130, hx130_0⟩ := Kd.at_int HR0.out x4_1 p130 q130
              cases e130
              replace p130 := eq_true p130
              replace q130 := eq_true q130
              have p131 : 0 ≤ (x4_1 : Int) := of_decide_eq_true (by first | (with_reducible assumption) | assumption)
              have q131 : x4_1 < (l0.length : Int) := of_decide_eq_true (by first | (with_reducible assumption) | assumption)
              obtain ⟨ad131, e131, hx131_0⟩ := Kd.at_int HR0.out x4_1 p131 q131
              obtain rfl : ad130 = ad131 := (by injection e131)
              replace p131 := eq_true p131
              replace q131 := eq_true q131
              go_wp2
              go_ret
              exact ⟨by first | rfl | (simp; done) | (simp [*]; done), by repeat (first | exact Drawn0.refl _ | apply Drawn0.step)⟩
            · rw [if_neg c5] at H
              have c5b0 : decide (16777216 < (rd l0 x4_1)) = false := decide_eq_false c5
              clear c5
              have H' := Aside0.mk H
              clear H
              have p130 : 0 ≤ (x4_1 : Int) := of_decide_eq_true (by first | (with_reducible assumption) | assumption)
              have q130 : x4_1 < (l0.length : Int) := of_decide_eq_true (by first | (with_reducible assumption) | assumption)
              obtain ⟨ad130, e130, hx130_0⟩ := Kd.at_int HR0.out x4_1 p130 q130
              cases e130
              replace p130 := eq_true p130
              replace q130 := eq_true q130
              have p131 : 0 ≤ (x4_1 : Int) := of_decide_eq_true (by first | (with_reducible assumption) | assumption)
              have q131 : x4_1 < (l0.length : Int) := of_decide_eq_true (by first | (with_reducible assumption) | assumption)
              obtain ⟨ad131, e131, hx131_0⟩ := Kd.at_int HR0.out x4_1 p131 q131
              obtain rfl : ad130 = ad131 := (by injection e131)
              replace p131 := eq_true p131
              replace q131 := eq_true q131
              have p132 : 0 ≤ (x4_1 : Int) := of_decide_eq_true (by first | (with_reducible assumption) | assumption)
              have q132 : x4_1 < (l0.length : Int) := of_decide_eq_true (by first | (with_reducible assumption) | assumption)
              obtain ⟨ad132, e132, hx132_0⟩ := Kd.at_int HR0.out x4_1 p132 q132
              obtain rfl : ad130 = ad132 := (by injection e132)
              replace p132 := eq_true p132
              replace q132 := eq_true q132
              go_wp2
              go_roundg k1
              case measure => have := HK1.out; omega
              case rel => exact ⟨(wrap64 (x3_1 + (rd l0 x4_1))), (wrap64 (x4_1 + 1)), (by first | rfl | (simp; done) | (simp [*]; done)), (by first | rfl | (simp; done) | (simp [*]; done)), H', ⟨by have := HK1.out; omega⟩, by repeat (first | exact Drawn0.refl _ | apply Drawn0.step)⟩
        · rw [if_neg c3] at H
          exact absurd H (by simp)
      · rw [if_neg c2] at H
        have c2b0 : decide (x4_1 < (l0.length : Int)) = false := decide_eq_false c2
        clear c2
        by_cases c6 : (l0.length : Int) = 65
        · rw [if_pos c6] at H
          have c6b0 : ((l0.length : Int) == 65) = true := beq_iff_eq.mpr c6
          have c6b1 : ((l0.length : Int) != 65) = false := bne_eq_false_iff_eq.mpr c6
          clear c6
          obtain rfl := Option.some.inj H
          go_wp2
          go_ret
          exact ⟨by first | rfl | (simp; done) | (simp [*]; done), by repeat (first | exact Drawn0.refl _ | apply Drawn0.step)⟩
        · rw [if_neg c6] at H
          have c6b0 : ((l0.length : Int) == 65) = false := beq_eq_false_iff_ne.mpr c6
          have c6b1 : ((l0.length : Int) != 65) = true := bne_iff_ne.mpr c6
          obtain rfl := Option.some.inj H
          go_wp2
          go_ret
          exact ⟨by first | rfl | (simp; done) | (simp [*]; done), by repeat (first | exact Drawn0.refl _ | apply Drawn0.step)⟩

end Go.Proofs.Ytbldocbijihpgaa.PA

-- ---- Uf
/- The document's test of frequencies: what it comes to. -/
namespace Go.Proofs.Ytbldocbijihpgaa.PA
set_option linter.unusedVariables false
set_option linter.unusedSimpArgs false
open Go.RowKit Go.Proofs.YtbldocbijihpgaaW.PrintWords Go.Proofs.YtbldocbijihpgaaW.PrintLast Go.Proofs.YtbldocbijihpgaaW.PrintMore Nl

theorem isLogF (a : Int) : wringerref7_isLog.f a = some (decide (7 ≤ a ∧ a ≤ 12)) := by
  unfold wringerref7_isLog.f
  by_cases h : a ≥ 7
  · rw [if_pos h]; congr 1; simp; omega
  · rw [if_neg h]; congr 1; simp; omega
theorem getD_drop (l : List Int) (i : Nat) (h : i < l.length) : l.drop i = l.getD i 0 :: l.drop (i + 1) := by
  rw [List.drop_eq_getElem_cons h]; simp [List.getD_eq_getElem?_getD, h]
theorem freqs_l0 (l : List Int) (hl : l.length = 65) : ∀ (d i : Nat) (t : Int), i + d = l.length → 0 ≤ t → t ≤ 16777216 * (i : Int) →
    Ev (fun k => wringerref7_freqs.l0 k l t (i : Int)) (decide ((∀ x ∈ l.drop i, 0 ≤ x ∧ x ≤ 16777216) ∧ 0 < t + (l.drop i).sum)) := by
  intro d
  induction d with
  | zero =>
    intro i t hi h0 h1
    refine Ev.step (f := fun _ => some (decide (0 < t))) (fun k => by simp only [wringerref7_freqs.l0]; rw [if_neg (by omega), if_pos (by omega)]) (Ev.ofSome ?_)
    rw [List.drop_eq_nil_of_le (by omega)]; simp
  | succ d ih =>
    intro i t hi h0 h1
    have hil : i < l.length := by omega
    rw [getD_drop l i hil]
    generalize hy : l.getD i 0 = y
    by_cases hy0 : y < 0
    · refine Ev.step (f := fun _ => some false) (fun k => by simp only [wringerref7_freqs.l0]; rw [if_pos (by omega), if_pos (by omega), rd_nat, hy, if_pos hy0]) (Ev.ofSome ?_)
      symm; rw [decide_eq_false_iff_not]; intro h; have := h.1 y (by simp); omega
    · by_cases hyP : y > 16777216
      · refine Ev.step (f := fun _ => some false) (fun k => by simp only [wringerref7_freqs.l0]; rw [if_pos (by omega), if_pos (by omega), rd_nat, hy, if_neg hy0, if_pos hyP]) (Ev.ofSome ?_)
        symm; rw [decide_eq_false_iff_not]; intro h; have := h.1 y (by simp); omega
      · refine evq ?_ (Ev.step (f := fun k => wringerref7_freqs.l0 k l (t + y) ((i + 1 : Nat) : Int)) (fun k => by simp only [wringerref7_freqs.l0]; rw [if_pos (by omega), if_pos (by omega), rd_nat, hy, if_neg hy0, if_neg hyP, w64 (by omega) (by omega), w64 (by omega) (by omega)]; rfl) (ih (i + 1) (t + y) (by omega) (by omega) (by omega)))
        congr 1
        simp only [List.mem_cons, forall_eq_or_imp, List.sum_cons, eq_iff_iff]
        constructor
        · rintro ⟨a, b⟩; exact ⟨⟨⟨by omega, by omega⟩, a⟩, by omega⟩
        · rintro ⟨⟨_, a⟩, b⟩; exact ⟨a, by omega⟩
theorem freqs_is (l : List Int) (hl : l.length = 65) : Ev (fun k => wringerref7_freqs.f k l) (frB l) := by
  refine evq ?_ (Ev.congr (fun k => ?_) (freqs_l0 l hl l.length 0 0 (by omega) (by omega) (by omega)))
  · unfold frB; rw [List.drop_zero]; congr 1; rw [eq_iff_iff]
    exact ⟨fun ⟨a, b⟩ => ⟨hl, a, by omega⟩, fun ⟨_, a, b⟩ => ⟨a, by omega⟩⟩
  · unfold wringerref7_freqs.f; rfl
end Go.Proofs.Ytbldocbijihpgaa.PA

-- ---- Nn
/- The document's numbers of a sum: what the call answers. -/
namespace Go.Proofs.Ytbldocbijihpgaa.PA
set_option linter.unusedSimpArgs false
set_option linter.unusedVariables false
open Go.RowKit Go.Proofs.YtbldocbijihpgaaW.PrintWords Mix _root_.Go.Proofs.Ytbldocbijihpgaa.Own Ol Nl
attribute [local go_sem] Own.max_int Own.min_int

/-- The block of the result, on the way; all that was there has stayed. -/
structure StN (B : Nat) (w wr : World) : Prop where
  res : Blk wr B #[.slice none 0 0, .int .i64 0] 30
  low : Below B w wr
structure StR (B : Nat) (w wr : World) (g : Nat) (xs : List Int) : Prop where
  st : StN B w wr
  row : Owns wr 3 (.slice (some ⟨g, 0, none⟩) 65 65) (ints .i64 xs)
  new : B ≤ g
theorem StN.sz {B : Nat} {w wr : World} (h : StN B w wr) : B < wr.heap.size := h.res.lt
theorem StN.later {B : Nat} {w wr w' : World} (h : StN B w wr) (hb : Below wr.heap.size wr w') : StN B w w' :=
  ⟨(hb.block B h.sz).trans h.res, h.low.trans (hb.mono (Nat.le_of_lt h.sz))⟩
theorem StR.later {B : Nat} {w wr w' : World} {g : Nat} {xs : List Int} (h : StR B w wr g xs) (hb : Below wr.heap.size wr w') : StR B w w' g xs :=
  ⟨h.st.later hb, h.row.keep fun k _ hk => hb.block k hk, h.new⟩
theorem StR.ne {B : Nat} {w wr : World} {g : Nat} {xs : List Int} (h : StR B w wr g xs) : B ≠ g := fun e => h.row.ne h.st.res (by decide) (by simp [Value.ownBlock, e])
theorem StR.store {B : Nat} {w wr : World} {g : Nat} {xs : List Int} (h : StR B w wr g xs) (j : Nat) (x : Int) : StR B w (wr.setCell ⟨g, j, none⟩ (.int .i64 x)) g (xs.set j x) := by
  refine ⟨⟨h.st.res.setOther h.ne _, h.st.low.setCell h.new _⟩, ?_, h.new⟩
  have := h.row.store j (.int .i64 x)
  have e : ints .i64 (xs.set j x) = (ints .i64 xs).set j (.int .i64 x) := by simp [ints, List.map_set]
  rw [e]; exact this
theorem StR.cell {B : Nat} {w wr : World} {g : Nat} {xs : List Int} (h : StR B w wr g xs) (j : Nat) (hj : j < xs.length) : wr.cell? ⟨g, j, none⟩ = some (.int .i64 (xs.getD j 0)) := h.row.cell (Own.ints_at .i64 xs j hj)

set_option maxRecDepth 20000 in
set_option maxHeartbeats 4000000 in
theorem rnorm_bad (A0 : Option Addr) (c0 : Nat) (l0 : List Int) (a1 : Int) (w : World) (hr0 : Kd.C (Kd.int .i64) w A0 l0.length l0) (hc0 : l0.length ≤ c0) (hn : l0.length < 200000000000000)
    (hb : ¬ (frB l0 = true ∧ 7 ≤ a1 ∧ a1 ≤ 12)) :
    Calls Try.prog 12 #[.slice A0 l0.length c0, .int .i64 a1] w fun e w' => e = .returned (.agg #[.slice none 0 0, .int .i64 1]) ∧ Below w.heap.size w w' := by
  by_cases h65 : l0.length = 65
  · obtain ⟨k, hk⟩ := (freqs_is l0 h65).rounds
    have hfr := fun w1 (h : Below w.heap.size w w1) => wringerref7_freqs.calls k A0 c0 l0 _ w1 (Kd.C_below hr0 h) hc0 hk
    have hlg := fun w1 => wringerref7_isLog.calls a1 _ w1 (isLogF a1)
    have t65 : ((l0.length : Int) != 65) = false := by simp; omega
    have hb0 : Below w.heap.size w (w.alloc (.cells #[.slice none 0 0, .int .i64 0] 30)) := (Below.refl _ _).alloc (Nat.le_refl _) _
    have HFr := kept (hfr _ hb0)
    have HLg := kept hlg
    obtain ⟨n, hnn⟩ : ∃ n, n = l0.length := ⟨_, rfl⟩
    rw [← hnn] at hn t65 ⊢
    rw [← hnn] at HFr
    cases hf : frB l0 with
    | false =>
      rw [hf] at HFr
      clear hr0 hc0 h65 hk hfr hlg hb0 hb hnn hf
      go_enter Try.func12, Try.ntmps12
      go_wp2_with (first | (go_at_call 27; refine HFr.out.mono ?_; rintro e w' ⟨rfl, hd⟩; obtain ⟨⟨nd, rfl⟩⟩ := hd))
      exact bodyPost_ret (results_cell_row rfl _ _ w.heap.size 30 #[.slice none 0 0, .int .i64 1] (0, 0) _ rfl (((Blk.fresh _ _ _).set 0 _).set 1 _) Try.underlying30 rfl (by kernel_rfl)) rfl ⟨rfl, ((pw_below_drewN ((Below.refl _ _).alloc (Nat.le_refl _) _) _).setCell (by simp) _).setCell (by simp) _⟩
    | true =>
      rw [hf] at HFr hb
      have hd : decide (7 ≤ a1 ∧ a1 ≤ 12) = false := by rw [decide_eq_false_iff_not]; exact fun h => hb ⟨rfl, h⟩
      rw [hd] at HLg
      clear hr0 hc0 h65 hk hfr hlg hb0 hb hnn hf hd
      go_enter Try.func12, Try.ntmps12
      go_wp2_with (first | (go_at_call 27; refine HFr.out.mono ?_; rintro e w' ⟨rfl, hd⟩; obtain ⟨⟨nd, rfl⟩⟩ := hd) | (go_at_call 28; refine (HLg.out _).mono ?_; rintro e w' ⟨rfl, hd⟩; obtain ⟨⟨nd2, rfl⟩⟩ := hd))
      exact bodyPost_ret (results_cell_row rfl _ _ w.heap.size 30 #[.slice none 0 0, .int .i64 1] (0, 0) _ rfl (((Blk.fresh _ _ _).set 0 _).set 1 _) Try.underlying30 rfl (by kernel_rfl)) rfl ⟨rfl, ((pw_below_drewN ((Below.refl _ _).alloc (Nat.le_refl _) _) _).setCell (by simp) _).setCell (by simp) _⟩
  · obtain ⟨n, hnn⟩ : ∃ n, n = l0.length := ⟨_, rfl⟩
    rw [← hnn] at hn ⊢
    have t65 : ((n : Int) != 65) = true := by simp; omega
    clear hr0 hc0 h65 hb hnn
    go_enter Try.func12, Try.ntmps12
    go_wp2_with fail
    exact bodyPost_ret (results_cell_row rfl _ _ w.heap.size 30 #[.slice none 0 0, .int .i64 1] (0, 0) _ rfl (Blk.fresh _ _ _) Try.underlying30 rfl (by kernel_rfl)) rfl ⟨rfl, (Below.refl _ _).alloc (Nat.le_refl _) _⟩

theorem share_walk (y t : Int) (m P : Nat) (hy : 0 < y) (hy1 : y ≤ 16777216) (hP : P = 2 ^ m) (hP1 : P ≤ 4096) (ht : 0 < t) : Own.mx 1 (wrap64 ((wrap64 (y * 2 ^ m)).tdiv t)) = share (P : Int) t y := by
  have e : ((2 : Int) ^ m) = (P : Int) := by rw [hP]; simp
  have h1 : y * (P : Int) ≤ 16777216 * 4096 := Int.mul_le_mul hy1 (by omega) (by omega) (by omega)
  have h0 : 0 ≤ y * (P : Int) := Int.mul_nonneg (by omega) (by omega)
  have h2 : y * (P : Int) / t ≤ y * (P : Int) := Int.ediv_le_self _ h0
  have h3 : 0 ≤ y * (P : Int) / t := Int.ediv_nonneg h0 (by omega)
  unfold share
  rw [if_pos hy, e, w64 (x := y * (P : Int)) (by omega) (by omega), Int.tdiv_eq_ediv_of_nonneg h0, w64 (x := y * (P : Int) / t) (by omega) (by omega), Own.mx_eq]

set_option maxRecDepth 20000 in
set_option maxHeartbeats 8000000 in
theorem rnorm_ok (A0 : Option Addr) (c0 : Nat) (l0 : List Int) (m : Nat) (w : World) (hr0 : Kd.C (Kd.int .i64) w A0 l0.length l0) (hc0 : l0.length ≤ c0) (hf : Fr l0) (h7 : 7 ≤ m) (h12 : m ≤ 12) :
    Calls Try.prog 12 #[.slice A0 l0.length c0, .int .i64 (m : Int)] w fun e w' => ∃ v, e = .returned (.agg #[v, .int .i64 0]) ∧ Owns w' 3 v (ints .i64 (normL l0 ((2 ^ m : Nat) : Int))) ∧ (∀ g, v.ownBlock = some g → w.heap.size ≤ g) ∧ Below w.heap.size w w' := by
  have h65 := hf.len
  obtain ⟨i0, hi, hz0, hz1, hz2⟩ := info_partsI infoI64
  obtain ⟨k, hk⟩ := (freqs_is l0 h65).rounds
  rw [(frB_iff l0).2 hf] at hk
  obtain ⟨B, hB⟩ : ∃ B, B = w.heap.size := ⟨_, rfl⟩
  have hst : StN B w (w.alloc (.cells #[.slice none 0 0, .int .i64 0] 30)) := ⟨by rw [hB]; exact Blk.fresh _ _ _, by rw [hB]; exact (Below.refl _ _).alloc (Nat.le_refl _) _⟩
  have hfr := fun w1 (h : Below w.heap.size w w1) => wringerref7_freqs.calls k A0 c0 l0 _ w1 (Kd.C_below hr0 h) hc0 hk
  have hfr2 := hfr _ (by rw [← hB]; exact hst.low)
  have hlg := fun w1 => wringerref7_isLog.calls (m : Int) _ w1 (isLogF (m : Int))
  have hlt : decide (7 ≤ (m : Int) ∧ (m : Int) ≤ 12) = true := by rw [decide_eq_true_eq]; omega
  rw [hlt] at hlg
  have hR := Own.rd_of_C hr0
  have hro := fun w1 (h : Below w.heap.size w w1) => rorder_calls A0 l0.length c0 l0 w1 (hR.later h) (by omega)
  obtain ⟨P, hP⟩ : ∃ P, P = 2 ^ m := ⟨_, rfl⟩
  have hshl := shl_int m (by omega)
  have hp12 := pow12 m h12
  have hp7 : 128 ≤ P := by have h := Nat.pow_le_pow_right (show 0 < 2 by decide) h7; rw [hP]; omega
  rw [← hP] at hshl hp12 ⊢
  rw [h65] at hR hro hfr2 ⊢
  rw [← hB]
  have HB := kept hB
  have HF := kept hf
  have HR := kept hR
  have HRo := kept hro
  have HFr := kept hfr2
  have HLg := kept hlg
  have H65 := kept h65
  have HSt := kept hst
  have HP := kept hP
  have t65 : (65 != (65 : Int)) = false := rfl
  have hm63 : m < 63 := by omega
  clear hB hf hR hro hfr hfr2 hlg h65 hst hk hr0 hc0 hlt hP h7 h12
  go_enter Try.func12, Try.ntmps12
  go_wp2_with (first | (go_at_call 27; refine HFr.out.mono ?_; rintro e w' ⟨rfl, hd⟩; obtain ⟨⟨nd, rfl⟩⟩ := hd) | (go_at_call 28; refine (HLg.out _).mono ?_; rintro e w' ⟨rfl, hd⟩; obtain ⟨⟨nd2, rfl⟩⟩ := hd))
  rw [show w.heap.size = B from HB.out.symm]
  generalize hw1 : World.drewN _ _ = w1
  have HSt1 : Kept (StN B w w1) := kept (by rw [← hw1]; exact HSt.out.later (pw_below_drewN (Below.refl _ _) _))
  clear hw1 HSt HFr HLg
  have HR1 := kept (HR.out.later (by rw [← HB.out]; exact HSt1.out.low))
  go_loopw [5, 7] (fun s5 s7 wr => ∃ i : Nat, i ≤ 65 ∧ s7 = .int .i64 (i : Int) ∧ (∃ t : Int, t = (l0.take i).sum ∧ s5 = .int .i64 t) ∧ wr = w1) (fun s5 s7 _ => 65 - (intOf s7).toNat)
  case atStart => exact ⟨0, by omega, rfl, ⟨0, by simp, rfl⟩, rfl⟩
  case round =>
    obtain ⟨i, hi65, rfl, ⟨t, ht, rfl⟩, rfl⟩ := hrel
    have htb := HF.out.take_sum i
    rw [← ht] at htb
    obtain ⟨tb0, tb1⟩ := htb
    by_cases hlt : i < 65
    · have hil : i < l0.length := by rw [H65.out]; exact hlt
      obtain ⟨x, rfl, hc⟩ := HR1.out.at (Own.ints_at .i64 l0 i hil)
      have hfm := Nl.getD_mem hil
      have hy0 := HF.out.nn _ hfm
      have hy1 := HF.out.le _ hfm
      have hsn := Nl.take_sum l0 i hil
      clear hfm
      obtain ⟨y, hy⟩ : ∃ y, y = l0.getD i 0 := ⟨_, rfl⟩
      rw [← hy] at hc hy0 hy1 hsn
      rw [← ht] at hsn
      have HSn := kept hsn
      clear hsn ht hy hil
      go_wp2_with fail
      go_roundw
      case rel => exact ⟨i + 1, by omega, by go_num, ⟨t + y, HSn.out.symm, by go_num⟩, trivial⟩
      case measure => simp [intOf]; omega
    · have hie : i = 65 := by omega
      subst hie
      have hte : t = l0.sum := by rw [ht, ← H65.out, List.take_length]
      have hpos : 0 < t := by rw [hte]; exact HF.out.pos
      have HT := kept hte
      clear ht hte hlt tb0
      go_wp2_with (first | (refine wpList_mk1 rfl _ _ 24 rfl 3 i0 (.int .i64 0) 8 Try.underlying24 hi hz0 hz1 hz2 rfl .i64 .i64 _ _ 65 rfl rfl rfl rfl (by decide) (by decide) ?_))
      intro w2 hO hb hlt2
      obtain ⟨g, hg⟩ : ∃ g, g = wr.heap.size := ⟨_, rfl⟩
      have HSt2 : Kept (StR B w w2 g (shN l0 (P : Int) t 0)) := kept ⟨HSt1.out.later hb, by rw [hg, shN_zero, H65.out]; simpa [ints] using hO, by have := HSt1.out.sz; omega⟩
      rw [← hg]
      clear hO hb hlt2 hg
      have HR2 := kept (HR.out.later (by rw [← HB.out]; exact HSt2.out.st.low))
      clear HSt1 HR1
      go_wp2_with fail
      go_loopw [6, 9] (fun s6 s9 wq => ∃ i : Nat, i ≤ 65 ∧ s9 = .int .i64 (i : Int) ∧ (∃ q : Int, q = (shN l0 (P : Int) t i).sum ∧ s6 = .int .i64 q) ∧ StR B w wq g (shN l0 (P : Int) t i)) (fun s6 s9 _ => 65 - (intOf s9).toNat)
      case atStart => exact ⟨0, by omega, rfl, ⟨0, by rw [shN_zero]; simp, rfl⟩, HSt2.out⟩
      case round =>
        obtain ⟨i, hi65, rfl, ⟨q, hq, rfl⟩, hst⟩ := hrel
        obtain ⟨wq, rfl⟩ : ∃ wq, wq = wr := ⟨wr, rfl⟩
        have hqb := HF.out.shN_sum (size := (P : Int)) (by omega) i (by rw [H65.out]; exact hi65)
        rw [← HT.out, ← hq] at hqb
        have hqb2 : (P : Int) * (i : Int) ≤ 4096 * 65 := Int.mul_le_mul (by omega) (by omega) (by omega) (by omega)
        have hq0 : 0 ≤ q := hqb.1
        have hq1 : q ≤ 266240 := by omega
        clear hqb hqb2
        have HSt3 := kept hst
        have hrd := HR.out.later (show Below w.heap.size w wq by rw [← HB.out]; exact hst.st.low)
        clear hst
        by_cases hlt : i < 65
        · have hil : i < l0.length := by rw [H65.out]; exact hlt
          obtain ⟨x, rfl, hc⟩ := hrd.at (Own.ints_at .i64 l0 i hil)
          have hfm := Nl.getD_mem hil
          have hy0 := HF.out.nn _ hfm
          have hy1 := HF.out.le _ hfm
          have hsl := HF.out.share_le (size := (P : Int)) (by omega) hfm
          have hsn := sum_shN l0 (P : Int) t i hil
          have hst3 := shN_succ l0 (P : Int) t i hil
          have hsame := shN_same l0 (P : Int) t i hil
          have hat := shN_at l0 (P : Int) t i hil
          rw [← HT.out] at hsl
          clear hfm
          obtain ⟨y, hy⟩ : ∃ y, y = l0.getD i 0 := ⟨_, rfl⟩
          rw [← hy] at hc hy0 hy1 hsn hsl hst3 hsame
          rw [← hq] at hsn
          have HSn := kept hsn
          have HSt4 := kept hst3
          have HSame := kept hsame
          obtain ⟨sl0, sl1⟩ := hsl
          by_cases hpos2 : 0 < y
          · have hxl : (shN l0 (P : Int) t i).length = 65 := by rw [length_shN _ _ _ _ (by omega)]; exact H65.out
            obtain ⟨xs, hxs⟩ : ∃ xs, xs = shN l0 (P : Int) t i := ⟨_, rfl⟩
            rw [← hxs] at HSt3 HSt4 HSame hxl hq hat
            have c1 := HSt3.out.cell i (by omega)
            have f1 : wq.frozen? ⟨g, i, none⟩ = false := HSt3.out.row.free i
            clear hxs hsn hst3 hsame hq hil hy hrd hat
            have hsw := share_walk y t m P hpos2 hy1 HP.out (by omega) hpos
            obtain ⟨z, hz⟩ : ∃ z, z = share (P : Int) t y := ⟨_, rfl⟩
            rw [← hz] at hsw sl0 sl1 HSt4 HSn
            have HSw := kept hsw
            clear hsw hz
            have HSt5 : Kept (StR B w (wq.setCell ⟨g, i, none⟩ (.int .i64 z)) g (shN l0 (P : Int) t (i + 1))) := kept (by rw [HSt4.out]; exact HSt3.out.store i z)
            go_wp2_with fail
            go_roundw
            case rel =>
              refine ⟨i + 1, by omega, by go_num, ⟨q + z, HSn.out.symm, ?_⟩, ?_⟩
              · rw [HSw.out, w64 (by omega) (by omega)]
              · rw [HSw.out]; exact HSt5.out
            case measure => simp [intOf]; omega
          · have hn0 : y ≤ 0 := by omega
            have HSt5 : Kept (StR B w wq g (shN l0 (P : Int) t (i + 1))) := kept (by rw [HSame.out hpos2]; exact HSt3.out)
            have HQ : Kept (q = (shN l0 (P : Int) t (i + 1)).sum) := kept (by rw [HSame.out hpos2]; exact hq)
            clear hsn hst3 hsame hq hil hy hrd hat
            go_wp2_with fail
            go_roundw
            case rel => exact ⟨i + 1, by omega, by go_num, ⟨q, HQ.out, by go_num⟩, HSt5.out⟩
            case measure => simp [intOf]; omega
        · have hie : i = 65 := by omega
          subst hie
          obtain ⟨xs, hxs⟩ : ∃ xs, xs = shares l0 (P : Int) t := ⟨_, rfl⟩
          have hxe : shN l0 (P : Int) t 65 = xs := by rw [hxs, ← H65.out]; exact shN_all l0 (P : Int) t
          rw [hxe] at HSt3 hq
          have hxl : xs.length = 65 := by rw [hxs, length_shares]; exact H65.out
          have HX := kept hxs
          have HQ := kept hq
          have HXl := kept hxl
          have hrd2 := HR.out.later (show Below w.heap.size w wq by rw [← HB.out]; exact HSt3.out.st.low)
          have HRd2 := kept hrd2
          clear hxs hq hxe hrd hrd2 hlt
          by_cases hls : q < (P : Int)
          · obtain ⟨tl, htl, hk65⟩ := HF.out.head
            obtain ⟨k, hk⟩ : ∃ k, k = (ordL l0).headD 0 := ⟨_, rfl⟩
            rw [← hk] at htl hk65
            have hok := HF.out.shares_ok (size := (P : Int)) (by omega)
            rw [← HT.out, ← HX.out] at hok
            have hnn : ∀ x ∈ xs, 0 ≤ x := fun x hx => by
              obtain ⟨i, hi, rfl⟩ := mem_getD hx
              exact hok.nn i (by rw [H65.out, ← hxl]; exact hi)
            have hk2 : k < xs.length := by omega
            have hge := hnn _ (Nl.getD_mem hk2)
            have hle := Nl.le_sum xs hnn _ (Nl.getD_mem hk2)
            rw [← HQ.out] at hle
            obtain ⟨x, hx⟩ : ∃ x, x = xs.getD k 0 := ⟨_, rfl⟩
            have HNorm : Kept (normL l0 (P : Int) = xs.set k (x + (P : Int) - q)) := kept (by
              unfold normL
              rw [← HT.out, ← HX.out, ← HQ.out, if_pos (by omega), ← hk]
              unfold bump; rw [← hx]; congr 1; omega)
            rw [← hx] at hge hle
            have HX6 := kept hx
            have HTl := kept htl
            have HC := kept (HRo.out wq (by rw [← HB.out]; exact HSt3.out.st.low))
            clear hok hnn hk2 hx htl hk
            go_wp2_with fail
            refine HC.out.mono ?_
            rintro e w6 ⟨v6, rfl, hro6⟩
            have HSt7 := kept (HSt3.out.later hro6.low)
            have hrow6 := hro6.own
            rw [HTl.out] at hrow6
            obtain ⟨g6, cap6, rfl, hc6, _⟩ := hrow6.row (by simp [idx])
            have hcell6 : w6.cell? ⟨g6, 0, none⟩ = some (.int .i64 (k : Int)) := hrow6.cell (j := 0) (by simp [idx])
            have hlen6 : (idx (k :: tl)).length = tl.length + 1 := by simp
            rw [hlen6] at hc6
            rw [hlen6]
            have hy6 := HSt7.out.cell k (by omega)
            rw [← HX6.out] at hy6
            clear hro6 hrow6 hlen6
            have l6 := lat_cell hy6
            go_wp2_with fail
            refine wp_region_mixL [] [0,1,2,3,4,5,6,7,8,9,10,11] [12] (by kernel_rfl) (by kernel_rfl) ?_
            intro K hK
            simp only [pick, List.filterMap_cons, List.filterMap_nil, List.getElem?_cons_zero, List.getElem?_cons_succ]
            refine wpQuiet_nil ?_
            repeat (show wpQuiet _ _ _ _ (_ :: _) _; go_big_quiet_step (fail))
            refine wpQuiet_nil ?_
            show wpList _ _ _ [_] _ _
            generalize hwd : World.drew w6 = w7
            have HSt8 : Kept (StR B w w7 g xs) := kept (by rw [← hwd]; exact HSt7.out.later ((Below.refl _ _).drew))
            clear hwd l6 hy6 hcell6
            have c7 := HSt8.out.cell k (by omega)
            have f7 : w7.frozen? ⟨g, k, none⟩ = false := HSt8.out.row.free k
            have HSt9 : Kept (StR B w (w7.setCell ⟨g, k, none⟩ (.int .i64 (x + (P : Int) - q))) g (normL l0 (P : Int))) := kept (by rw [HNorm.out]; exact HSt8.out.store k _)
            go_wp2_with fail
            refine hK _ _ ?_
            have HNl : Kept ((normL l0 (P : Int)).length = 65) := kept (by rw [HNorm.out, List.length_set]; exact HXl.out)
            generalize hwe : World.setCell w7 _ _ = w8
            have HSt10 : Kept (StR B w w8 g (normL l0 (P : Int))) := kept (by rw [← hwe]; exact HSt9.out)
            clear hwe c7 f7
            rw [hshl]
            go_wp2_with fail
            go_loopw [6] (fun s6 wr => ∃ (q2 : Int) (ys : List Int), s6 = .int .i64 q2 ∧ StR B w wr g ys ∧ ys.length = 65 ∧ normL l0 (P : Int) = decTop (q2 - (P : Int)).toNat ys ∧ ((P : Int) < q2 → Ok l0 ys ∧ ys.sum = q2) ∧ 0 ≤ q2 ∧ q2 ≤ 266240) (fun s6 _ => (intOf s6 - (P : Int)).toNat)
            case atStart => exact ⟨q, _, rfl, HSt10.out, HNl.out, by rw [show (q - (P : Int)).toNat = 0 by omega]; rfl, fun h => by omega, hq0, hq1⟩
            case round =>
              obtain ⟨q2, ys, rfl, hst, hyl, hnorm, hok, hq20, hq21⟩ := hrel
              obtain ⟨wl, rfl⟩ : ∃ wl, wl = wr := ⟨wr, rfl⟩
              by_cases hgt : (P : Int) < q2
              · obtain ⟨hok1, hsum⟩ := hok hgt
                obtain ⟨htop, tl, htl⟩ := top_of (l := ys) (by rw [hyl, hsum]; omega)
                obtain ⟨k, hk⟩ : ∃ k, k = (ordL ys).headD 0 := ⟨_, rfl⟩
                rw [← hk] at htop htl
                have hk65 : k < 65 := by rw [← hyl]; exact htop.lt
                have htwo := htop.two
                have hle := Nl.le_sum ys (fun x hx => by
                  obtain ⟨i, hi, rfl⟩ := mem_getD hx
                  exact hok1.nn i (by rw [H65.out, ← hyl]; exact hi)) _ (Nl.getD_mem htop.lt)
                rw [hsum] at hle
                obtain ⟨x, hx⟩ : ∃ x, x = ys.getD k 0 := ⟨_, rfl⟩
                have hcall := rorder_calls (some ⟨g, 0, none⟩) 65 65 ys wl hst.row.rd (by omega)
                have HC := kept hcall
                have HSt6 := kept hst
                have HTl := kept htl
                have HYl := kept hyl
                have HNew : Kept (normL l0 (P : Int) = decTop (q2 - 1 - (P : Int)).toNat (bump ys k (-1)) ∧ Ok l0 (bump ys k (-1)) ∧ (bump ys k (-1)).sum = q2 - 1) := kept ⟨by
                  rw [hnorm, show (q2 - (P : Int)).toNat = (q2 - 1 - (P : Int)).toNat + 1 by omega, hk]; rfl, hok1.step htop, by rw [sum_bump ys k _ htop.lt, hsum]; rfl⟩
                rw [← hx] at htwo hle
                have HX6 := kept hx
                have HBm : Kept (bump ys k (-1) = ys.set k (x - 1)) := kept (by unfold bump; rw [hx]; rfl)
                clear hok1 hsum htop htl hk hcall hst hyl hnorm hok hx
                go_wp2_with fail
                refine HC.out.mono ?_
                rintro e w6 ⟨v6, rfl, hro6⟩
                have HSt7 := kept (HSt6.out.later hro6.low)
                have hrow6 := hro6.own
                rw [HTl.out] at hrow6
                obtain ⟨g6, cap6, rfl, hc6, _⟩ := hrow6.row (by simp [idx])
                have hcell6 : w6.cell? ⟨g6, 0, none⟩ = some (.int .i64 (k : Int)) := hrow6.cell (j := 0) (by simp [idx])
                have hlen6 : (idx (k :: tl)).length = tl.length + 1 := by simp
                rw [hlen6] at hc6
                rw [hlen6]
                have hy6 := HSt7.out.cell k (by rw [HYl.out]; exact hk65)
                rw [← HX6.out] at hy6
                have f6 : w6.frozen? ⟨g, k, none⟩ = false := HSt7.out.row.free k
                have HSt8 : Kept (StR B w (w6.setCell ⟨g, k, none⟩ (.int .i64 (x - 1))) g (bump ys k (-1))) := kept (by rw [HBm.out]; exact HSt7.out.store k (x - 1))
                clear hro6 hrow6 hlen6
                go_wp2_with fail
                go_roundw
                case rel =>
                  refine ⟨q2 - 1, bump ys k (-1), by go_num, HSt8.out, by rw [length_bump]; exact HYl.out, HNew.out.1, fun _ => HNew.out.2, by omega, by omega⟩
                case measure => simp [intOf]; omega
              · have hz : (q2 - (P : Int)).toNat = 0 := by omega
                rw [hz] at hnorm
                have hfin : normL l0 (P : Int) = ys := hnorm
                have HSt6 := kept hst
                have HFin := kept hfin
                have d0 : wl.cell? ⟨B, 0, none⟩ = some (.slice none 0 0) := hst.st.res.cell rfl
                have d1 : wl.cell? ⟨B, 1, none⟩ = some (.int .i64 0) := hst.st.res.cell rfl
                have e0 : wl.frozen? ⟨B, 0, none⟩ = false := hst.st.res.free 0
                have e1 : wl.frozen? ⟨B, 1, none⟩ = false := hst.st.res.free 1
                clear hst hyl hnorm hok hz hfin
                go_wp2_with fail
                refine bodyPost_ret (results_cell_row rfl _ _ B 30 #[.slice (some ⟨g, 0, none⟩) 65 65, .int .i64 0] (0, 0) _ rfl ((HSt6.out.st.res.set 0 _).set 1 _) Try.underlying30 rfl (by kernel_rfl)) rfl ⟨_, rfl, ?_, ?_, ?_⟩
                · rw [HFin.out]
                  exact (HSt6.out.row.setOther (a := ⟨B, 0, none⟩) (HSt6.out.row.ne HSt6.out.st.res (by decide)) _).setOther (a := ⟨B, 1, none⟩) (HSt6.out.row.ne HSt6.out.st.res (by decide)) _
                · intro g' hg'
                  simp [Value.ownBlock] at hg'
                  rw [← hg']; exact HSt6.out.new
                · have h := (HSt6.out.st.low.setCell (p := ⟨B, 0, none⟩) (Nat.le_refl _) (.slice (some ⟨g, 0, none⟩) 65 65)).setCell (p := ⟨B, 1, none⟩) (Nat.le_refl _) (.int .i64 0)
                  exact h
          · have HNorm : Kept (normL l0 (P : Int) = decTop (q - (P : Int)).toNat xs) := kept (by
              unfold normL
              rw [← HT.out, ← HX.out, ← HQ.out]
              by_cases he : q ≤ (P : Int)
              · rw [if_pos he, show q = (P : Int) by omega, Int.sub_self, bump_zero]; rfl
              · rw [if_neg he])
            have HOk : Kept (Ok l0 xs) := kept (by
              have hok := HF.out.shares_ok (size := (P : Int)) (by omega)
              rw [← HT.out, ← HX.out] at hok; exact hok)
            go_wp2_with fail
            go_loopw [6] (fun s6 wr => ∃ (q2 : Int) (ys : List Int), s6 = .int .i64 q2 ∧ StR B w wr g ys ∧ ys.length = 65 ∧ normL l0 (P : Int) = decTop (q2 - (P : Int)).toNat ys ∧ ((P : Int) < q2 → Ok l0 ys ∧ ys.sum = q2) ∧ 0 ≤ q2 ∧ q2 ≤ 266240) (fun s6 _ => (intOf s6 - (P : Int)).toNat)
            case atStart => exact ⟨q, xs, rfl, HSt3.out, HXl.out, HNorm.out, fun _ => ⟨HOk.out, HQ.out.symm⟩, hq0, hq1⟩
            case round =>
              obtain ⟨q2, ys, rfl, hst, hyl, hnorm, hok, hq20, hq21⟩ := hrel
              obtain ⟨wl, rfl⟩ : ∃ wl, wl = wr := ⟨wr, rfl⟩
              by_cases hgt : (P : Int) < q2
              · obtain ⟨hok1, hsum⟩ := hok hgt
                obtain ⟨htop, tl, htl⟩ := top_of (l := ys) (by rw [hyl, hsum]; omega)
                obtain ⟨k, hk⟩ : ∃ k, k = (ordL ys).headD 0 := ⟨_, rfl⟩
                rw [← hk] at htop htl
                have hk65 : k < 65 := by rw [← hyl]; exact htop.lt
                have htwo := htop.two
                have hle := Nl.le_sum ys (fun x hx => by
                  obtain ⟨i, hi, rfl⟩ := mem_getD hx
                  exact hok1.nn i (by rw [H65.out, ← hyl]; exact hi)) _ (Nl.getD_mem htop.lt)
                rw [hsum] at hle
                obtain ⟨x, hx⟩ : ∃ x, x = ys.getD k 0 := ⟨_, rfl⟩
                have hcall := rorder_calls (some ⟨g, 0, none⟩) 65 65 ys wl hst.row.rd (by omega)
                have HC := kept hcall
                have HSt6 := kept hst
                have HTl := kept htl
                have HYl := kept hyl
                have HNew : Kept (normL l0 (P : Int) = decTop (q2 - 1 - (P : Int)).toNat (bump ys k (-1)) ∧ Ok l0 (bump ys k (-1)) ∧ (bump ys k (-1)).sum = q2 - 1) := kept ⟨by
                  rw [hnorm, show (q2 - (P : Int)).toNat = (q2 - 1 - (P : Int)).toNat + 1 by omega, hk]; rfl, hok1.step htop, by rw [sum_bump ys k _ htop.lt, hsum]; rfl⟩
                rw [← hx] at htwo hle
                have HX6 := kept hx
                have HBm : Kept (bump ys k (-1) = ys.set k (x - 1)) := kept (by unfold bump; rw [hx]; rfl)
                clear hok1 hsum htop htl hk hcall hst hyl hnorm hok hx
                go_wp2_with fail
                refine HC.out.mono ?_
                rintro e w6 ⟨v6, rfl, hro6⟩
                have HSt7 := kept (HSt6.out.later hro6.low)
                have hrow6 := hro6.own
                rw [HTl.out] at hrow6
                obtain ⟨g6, cap6, rfl, hc6, _⟩ := hrow6.row (by simp [idx])
                have hcell6 : w6.cell? ⟨g6, 0, none⟩ = some (.int .i64 (k : Int)) := hrow6.cell (j := 0) (by simp [idx])
                have hlen6 : (idx (k :: tl)).length = tl.length + 1 := by simp
                rw [hlen6] at hc6
                rw [hlen6]
                have hy6 := HSt7.out.cell k (by rw [HYl.out]; exact hk65)
                rw [← HX6.out] at hy6
                have f6 : w6.frozen? ⟨g, k, none⟩ = false := HSt7.out.row.free k
                have HSt8 : Kept (StR B w (w6.setCell ⟨g, k, none⟩ (.int .i64 (x - 1))) g (bump ys k (-1))) := kept (by rw [HBm.out]; exact HSt7.out.store k (x - 1))
                clear hro6 hrow6 hlen6
                go_wp2_with fail
                go_roundw
                case rel =>
                  refine ⟨q2 - 1, bump ys k (-1), by go_num, HSt8.out, by rw [length_bump]; exact HYl.out, HNew.out.1, fun _ => HNew.out.2, by omega, by omega⟩
                case measure => simp [intOf]; omega
              · have hz : (q2 - (P : Int)).toNat = 0 := by omega
                rw [hz] at hnorm
                have hfin : normL l0 (P : Int) = ys := hnorm
                have HSt6 := kept hst
                have HFin := kept hfin
                have d0 : wl.cell? ⟨B, 0, none⟩ = some (.slice none 0 0) := hst.st.res.cell rfl
                have d1 : wl.cell? ⟨B, 1, none⟩ = some (.int .i64 0) := hst.st.res.cell rfl
                have e0 : wl.frozen? ⟨B, 0, none⟩ = false := hst.st.res.free 0
                have e1 : wl.frozen? ⟨B, 1, none⟩ = false := hst.st.res.free 1
                clear hst hyl hnorm hok hz hfin
                go_wp2_with fail
                refine bodyPost_ret (results_cell_row rfl _ _ B 30 #[.slice (some ⟨g, 0, none⟩) 65 65, .int .i64 0] (0, 0) _ rfl ((HSt6.out.st.res.set 0 _).set 1 _) Try.underlying30 rfl (by kernel_rfl)) rfl ⟨_, rfl, ?_, ?_, ?_⟩
                · rw [HFin.out]
                  exact (HSt6.out.row.setOther (a := ⟨B, 0, none⟩) (HSt6.out.row.ne HSt6.out.st.res (by decide)) _).setOther (a := ⟨B, 1, none⟩) (HSt6.out.row.ne HSt6.out.st.res (by decide)) _
                · intro g' hg'
                  simp [Value.ownBlock] at hg'
                  rw [← hg']; exact HSt6.out.new
                · have h := (HSt6.out.st.low.setCell (p := ⟨B, 0, none⟩) (Nat.le_refl _) (.slice (some ⟨g, 0, none⟩) 65 65)).setCell (p := ⟨B, 1, none⟩) (Nat.le_refl _) (.int .i64 0)
                  exact h
end Go.Proofs.Ytbldocbijihpgaa.PA

-- ---- Nw
/- norm.Get where numbers may stand: what the call answers. Conditions: the text is not longer than a thousand million bytes. -/
namespace Go.Proofs.Ytbldocbijihpgaa.NormG
open Go.RowKit Go.Proofs.YtbldocbijihpgaaW.PrintWords Go.Proofs.YtbldocbijihpgaaW.PrintLast Go.Proofs.YtbldocbijihpgaaW.PrintMore
open Mix _root_.Go.Proofs.Ytbldocbijihpgaa.Own Vt Np PA
set_option linter.unusedVariables false
set_option linter.unusedSimpArgs false
attribute [local go_sem] Own.max_int Own.min_int

def sLenN : Value → Nat
  | .slice _ n _ => n
  | _ => 0
/-- One round of what stands there. -/
theorem parN_round (bs : List Nat) (f k : Nat) (acc : List Int) (h : acc.length < 65) (r : Nat × Nat × Nat) (hr : r = goV 10 true (bs.drop k)) : parN bs (f + 1) k acc =
    if r.2.2 ≠ 0 then ([], 0, r.2.2) else if 0 < r.1 then parN bs f (k + r.2.1) (acc ++ [(r.1 : Int)])
    else if (goV 10 true (bs.drop (k + r.2.1))).2.2 ≠ 0 then ([], 0, (goV 10 true (bs.drop (k + r.2.1))).2.2)
    else if 65 < acc.length + (goV 10 true (bs.drop (k + r.2.1))).1 + 1 then ([], 0, 3)
    else parN bs f (k + r.2.1 + (goV 10 true (bs.drop (k + r.2.1))).2.1) (acc ++ List.replicate ((goV 10 true (bs.drop (k + r.2.1))).1 + 1) 0) := by
  subst hr
  rw [parN, if_neg (by omega)]
theorem parN_end (bs : List Nat) (f k : Nat) (acc : List Int) (h : 65 ≤ acc.length) : parN bs (f + 1) k acc = (acc, k, 0) := by rw [parN, if_pos h]
theorem fin_err (s : ByteArray) (m : Nat) (a : Int) (e : Nat) (h : e ≠ 0) : finN s m a ([], 0, e) = ([], 0, (e : Int)) := by unfold finN; rw [if_pos h]
theorem getNE_fin (s : ByteArray) (m lg : Nat) (hm : m ≤ s.size) (h7 : 7 ≤ lg) (h12 : lg ≤ 12) : getNE s (m : Int) (lg : Int) = finN s m (lg : Int) (parN (bsOf s) 66 m []) := by
  unfold getNE; rw [if_neg (by omega), Int.toNat_natCast]

set_option maxRecDepth 20000 in
set_option maxHeartbeats 4000000 in
theorem nget_calls (s : ByteArray) (m lg : Nat) (w : World) (hs : s.size ≤ 1000000000) (hm : m ≤ s.size) (h7 : 7 ≤ lg) (h12 : lg ≤ 12) (R : List Int × Int × Int) (hR : R = getNE s (m : Int) (lg : Int)) :
    Calls Try.prog 16 #[.string s, .int .i64 (m : Int), .int .i64 (lg : Int)] w fun e w' => ∃ v, e = .returned (.tuple #[v, .int .i64 R.2.1, .int .i64 R.2.2]) ∧ Owns w' 3 v (ints .i64 R.1) ∧ (∀ g, v.ownBlock = some g → w.heap.size ≤ g) ∧ Below w.heap.size w w' := by
  obtain ⟨i0, hi, hz0, hz1, hz2⟩ := info_partsG infoIntG
  rw [getNE_fin s m lg hm h7 h12] at hR
  obtain ⟨B, hB⟩ : ∃ B, B = w.heap.size := ⟨_, rfl⟩
  have t1 : decide ((m : Int) < 0) = false := decide_eq_false (by omega)
  have t2 : decide (s.size < m) = false := decide_eq_false (by omega)
  have hM := fun w1 => NormF.mayLog_calls (lg : Int) w1
  rw [show (decide (7 ≤ (lg : Int)) && decide ((lg : Int) ≤ 12)) = true by rw [decide_eq_true (show 7 ≤ (lg : Int) by omega), decide_eq_true (show (lg : Int) ≤ 12 by omega)]; rfl] at hM
  have HM := kept hM
  have HB := kept hB
  have HR := kept hR
  have hmn0 : Own.mn 0 4097 = 0 := by rw [Own.mn_eq]; omega
  rw [← hB]
  clear hB hR hM
  go_enter Try.func16, Try.ntmps16
  go_upto_region 3 with (first | (go_at_call 23; refine (HM.out _).mono ?_; rintro e w1 ⟨rfl, rfl⟩))
  generalize hwa : World.alloc (World.alloc w _) _ = wa
  obtain ⟨bs, hbs⟩ : ∃ bs, bs = w.heap.size := ⟨_, rfl⟩
  obtain ⟨bn, hbn⟩ : ∃ bn, bn = w.heap.size + 1 := ⟨_, rfl⟩
  have hba : Below w.heap.size w wa := by rw [← hwa]; exact (two_new s w (.int .i64 0)).2
  have hB1 : Blk wa bs #[.string s] 9 := by
    rw [← hwa, hbs]
    exact (((Below.refl _ _).alloc (Nat.le_refl _) _).block _ (by simp)).trans (Blk.fresh _ _ _)
  have hB2 : Blk wa bn #[.int .i64 0] 3 := by
    rw [← hwa, hbn]
    exact Blk.fresh_at _ _ (by simp) _ _
  rw [← hbn, ← hbs]
  have hSb : B ≤ bs := by rw [HB.out, hbs]; exact Nat.le_refl _
  have hSn : B ≤ bn := by rw [HB.out, hbn]; omega
  have hne : bs ≠ bn := by omega
  have hf0 := hB2.free 0
  have hc0 := hB2.cell (i := 0) rfl
  have HS0 : Kept (StN B w (wa.setCell ⟨bn, 0, none⟩ (.int .i64 (m : Int))) bs bn s m (.slice none 0 0) (capL 4097 [])) := kept (by
    have hc := Chg.setCell wa ⟨bn, 0, none⟩ (.int .i64 (m : Int))
    have hbw := hba.setCell (p := ⟨bn, 0, none⟩) (by show w.heap.size ≤ bn; omega) (.int .i64 (m : Int))
    exact ⟨hc.keep hB1 hne, hB2.set 0 _, Owns.nil _ _, hSb, hSn, hne, fun g hg => by simp [Value.ownBlock] at hg, by rw [HB.out]; exact hbw, by rw [HB.out]; exact hbw.size⟩)
  clear hwa hba hB1 hB2 hbs hbn hSb hSn hne t1 t2
  go_wp2_with fail
  go_loopw [6] (fun s6 wr => ∃ (v : Value) (acc : List Int) (k f : Nat), s6 = v ∧ StN B w wr bs bn s k v (capL 4097 acc) ∧ parN (bsOf s) 66 m [] = parN (bsOf s) f k acc ∧ 66 ≤ f + acc.length ∧ 1 ≤ f ∧ acc.length ≤ 65 ∧ k ≤ s.size ∧ m ≤ k ∧ (∀ x ∈ acc, 0 ≤ x)) (fun s6 _ => 65 - sLenN s6)
  case atStart => exact ⟨_, [], m, 66, rfl, HS0.out, rfl, by simp, by omega, by simp, hm, Nat.le_refl _, fun x hx => by cases hx⟩
  case round =>
    obtain ⟨v, acc, k, f, rfl, hst, hpa, hf, hf1, hal, hks, hmk, hnn⟩ := hrel
    obtain ⟨av, cv, hv⟩ := sliceI hst.own
    subst hv
    rw [capL_length] at hst ⊢
    obtain ⟨wq, rfl⟩ : ∃ wq, wq = wr := ⟨wr, rfl⟩
    obtain ⟨f, rfl⟩ : ∃ f', f = f' + 1 := ⟨f - 1, by omega⟩
    have HNn := kept hnn
    clear hnn HS0
    by_cases h65 : acc.length < 65
    · obtain ⟨r, hr⟩ : ∃ r, r = goV 10 true ((bsOf s).drop k) := ⟨_, rfl⟩
      have hpe := parN_round (bsOf s) f k acc h65 r hr
      have herr := goV_err 10 true ((bsOf s).drop k)
      have hsz := goV_size 10 true ((bsOf s).drop k)
      have hbd := goV_bound 9 true ((bsOf s).drop k)
      rw [← hr] at herr hsz hbd
      rw [List.length_drop, length_bsOf] at hsz
      obtain ⟨k2, hk2⟩ : ∃ k2, k2 = if r.2.2 = 0 then k + r.2.1 else k := ⟨_, rfl⟩
      have HRead := kept (nread_calls bs bn s k wq hs hks (hst.str.cell (i := 0) rfl) hst.nxt r hr k2 hk2)
      have HSt := kept hst
      obtain ⟨q1, q2, q3⟩ := r
      simp only at hpe herr hsz hbd hk2 HRead
      by_cases h3 : q3 = 0
      · subst h3
        obtain ⟨hq21, hq22, hq23⟩ := hsz rfl
        rw [if_neg (by simp)] at hpe
        rw [if_pos rfl] at hk2
        have h128 : 2 * 128 ^ 9 = 18446744073709551616 := by decide
        have hq64 : q1 < 18446744073709551616 := by omega
        clear hr herr hst
        by_cases hq0 : 0 < q1
        · rw [if_pos hq0] at hpe
          obtain ⟨c, hc⟩ : ∃ c : Nat, c = min q1 4097 := ⟨_, rfl⟩
          have hmn : Own.mn (q1 : Int) 4097 = (c : Int) := by rw [Own.mn_eq]; omega
          have hc4 : c ≤ 4097 := by omega
          have hcap : ∀ l : List Int, capL 4097 (l ++ [(q1 : Int)]) = capL 4097 l ++ [(c : Int)] := fun l => by rw [capL_snoc]; congr 2; omega
          have HCap := kept hcap
          have HPa : Kept (parN (bsOf s) 66 m [] = parN (bsOf s) f k2 (acc ++ [(q1 : Int)])) := kept (by rw [hpa, hpe, hk2])
          have hk2s : k2 ≤ s.size := by omega
          have tn : ((q1 : Int) == 0) = false := by rw [beq_eq_false_iff_ne]; omega
          have tq : decide ((65 : Int) - (acc.length : Int) ≤ 0) = false := decide_eq_false (by omega)
          have HK2 := kept hk2
          clear hpe hpa hcap hc hk2 hbd hsz
          go_wp2_with fail
          refine HRead.out.mono ?_
          rintro e w2 ⟨rfl, hR2, hc2⟩
          have HS2 := kept (HSt.out.got hR2 hc2)
          clear hR2 hc2
          go_wp2_with fail
          go_loopw [6, 57] (fun s6 s57 wx => ∃ (vj : Value) (j : Nat), s6 = vj ∧ s57 = .int .u64 (j : Int) ∧ j ≤ 0 + 1 ∧ StN B w wx bs bn s k2 vj (capL 4097 acc ++ List.replicate j (c : Int))) (fun _ s57 _ => 0 + 1 - (intOf s57).toNat)
          case atStart => exact ⟨_, 0, rfl, rfl, by omega, by simpa using HS2.out⟩
          case round =>
            obtain ⟨_, j, rfl, rfl, hj, hst⟩ := hrel
            obtain ⟨aj, cj, hvj⟩ := sliceI hst.own
            subst hvj
            have hlv : (capL 4097 acc ++ List.replicate j (c : Int)).length = acc.length + j := by simp [capL_length]
            rw [hlv] at hst ⊢
            by_cases hjq : j < 0 + 1
            · have HSj := kept hst
              have HLj := kept (show acc.length + j ≤ 200 by omega)
              have HLv := kept hlv
              clear hst hlv
              go_wp2_with (first | (at_builtin; go_loud (refine wpList_app1 rfl _ _ 24 rfl 3 i0 (.int .i64 0) 8 Try.underlying24 hi hz0 hz1 hz2 rfl (.slice aj (acc.length + j) cj) _ (.int .i64 (c : Int)) rfl HSj.out.own rfl rfl ?_ ?_ ?_)))
              · have := HLj.out; rw [length_ints, HLv.out]; simp only [maxLen]; omega
              · have := HLj.out; rw [length_ints, HLv.out]; omega
              intro v5 w5 O5 C5 F5
              have e5 : ints .i64 (capL 4097 acc ++ List.replicate j (c : Int)) ++ [.int .i64 (c : Int)] = ints .i64 (capL 4097 acc ++ List.replicate (j + 1) (c : Int)) := by simp [ints, List.replicate_succ', ← List.append_assoc]
              rw [e5] at O5
              have HS5 := kept (HSj.out.app O5 C5 F5)
              clear O5 C5 F5 e5
              go_wp2_with fail
              go_roundw
              case rel => exact ⟨v5, j + 1, rfl, by go_num, by omega, HS5.out⟩
              case measure => simp [intOf]; omega
            · have hje : j = 0 + 1 := by omega
              subst hje
              have HSj := kept hst
              clear hst hjq hlv
              go_wp2_with fail
              go_roundw
              case rel => exact ⟨_, acc ++ [(q1 : Int)], k2, f, rfl, by rw [HCap.out]; exact HSj.out, HPa.out, by simp; omega, by omega, by simp; omega, hk2s, by have := HK2.out; omega, fun x hx => by
                  rcases List.mem_append.1 hx with hx | hx
                  · exact HNn.out x hx
                  · simp at hx; omega⟩
              case measure => simp [sLenN]; omega
        · have hnz : q1 = 0 := by omega
          subst hnz
          rw [if_neg hq0, ← hk2] at hpe
          have hk2s : k2 ≤ s.size := by omega
          have hmk2 : m ≤ k2 := by omega
          have HPe := kept hpe
          have HPa0 := kept hpa
          clear hpe hpa hk2 hbd hsz hq0
          go_wp2_with fail
          refine HRead.out.mono ?_
          rintro e w2 ⟨rfl, hR2, hc2⟩
          have HS2 := kept (HSt.out.got hR2 hc2)
          clear hR2 hc2
          obtain ⟨r, hr⟩ : ∃ r, r = goV 10 true ((bsOf s).drop k2) := ⟨_, rfl⟩
          have herr := goV_err 10 true ((bsOf s).drop k2)
          have hsz := goV_size 10 true ((bsOf s).drop k2)
          have hbd := goV_bound 9 true ((bsOf s).drop k2)
          rw [← hr] at herr hsz hbd
          rw [List.length_drop, length_bsOf] at hsz
          obtain ⟨k3, hk3⟩ : ∃ k3, k3 = if r.2.2 = 0 then k2 + r.2.1 else k2 := ⟨_, rfl⟩
          have HRead2 := kept (nread_calls bs bn s k2 w2 hs hk2s (HS2.out.str.cell (i := 0) rfl) HS2.out.nxt r hr k3 hk3)
          have hpe := HPe.out
          have hpa := HPa0.out
          rw [← hr] at hpe
          obtain ⟨p1, p2, p3⟩ := r
          simp only at hpe herr hsz hbd hk3 HRead2
          by_cases h3b : p3 = 0
          · subst h3b
            obtain ⟨hp21, hp22, hp23⟩ := hsz rfl
            rw [if_neg (by simp)] at hpe
            rw [if_pos rfl] at hk3
            have hp64 : p1 < 18446744073709551616 := by omega
            rw [← hk3] at hpe
            have hk3s : k3 ≤ s.size := by omega
            have hmk3 : m ≤ k3 := by omega
            clear hr herr hbd hsz hk3
            by_cases hbig : 65 < acc.length + p1 + 1
            · rw [if_pos hbig] at hpe
              have HE : Kept (R = ([], 0, 3)) := kept (by rw [HR.out, hpa, hpe, fin_err _ _ _ _ (by decide)]; rfl)
              have tq : decide ((65 : Int) - (acc.length : Int) ≤ (p1 : Int)) = true := decide_eq_true (by omega)
              clear hpe hpa
              go_wp2_with fail
              refine HRead2.out.mono ?_
              rintro e w3 ⟨rfl, hR3, hc3⟩
              have HS3 := kept (HS2.out.got hR3 hc3)
              have hf3 := HS3.out.nxt.free 0
              have hcc3 := HS3.out.nxt.cell (i := 0) rfl
              clear hR3 hc3
              go_wp2_with fail
              exact bodyPost_ret (results_tct rfl _ _ _ ⟨bn, 0, none⟩ (.int .i64 0) rfl (load_int _ _ _ ((HS3.out.nxt.set 0 _).cell (i := 0) rfl))) rfl ⟨.slice none 0 0, by rw [HE.out]; rfl, by rw [HE.out]; exact Owns.nil _ _, fun g hg => by simp [Value.ownBlock] at hg, HS3.out.low.setCell (p := ⟨bn, 0, none⟩) HS3.out.nB _⟩
            · rw [if_neg hbig] at hpe
              have HPa : Kept (parN (bsOf s) 66 m [] = parN (bsOf s) f k3 (acc ++ List.replicate (p1 + 1) 0)) := kept (by rw [hpa, hpe])
              have HCap : Kept (capL 4097 (acc ++ List.replicate (p1 + 1) 0) = capL 4097 acc ++ List.replicate (p1 + 1) 0) := kept (capL_zeros _ _ _ (by omega))
              have tq : decide ((65 : Int) - (acc.length : Int) ≤ (p1 : Int)) = false := decide_eq_false (by omega)
              have hp65 : p1 < 65 := by omega
              clear hpe hpa
              go_wp2_with fail
              refine HRead2.out.mono ?_
              rintro e w3 ⟨rfl, hR3, hc3⟩
              have HS3 := kept (HS2.out.got hR3 hc3)
              clear hR3 hc3
              go_wp2_with fail
              go_loopw [6, 57] (fun s6 s57 wx => ∃ (vj : Value) (j : Nat), s6 = vj ∧ s57 = .int .u64 (j : Int) ∧ j ≤ p1 + 1 ∧ StN B w wx bs bn s k3 vj (capL 4097 acc ++ List.replicate j 0)) (fun _ s57 _ => p1 + 1 - (intOf s57).toNat)
              case atStart => exact ⟨_, 0, rfl, rfl, by omega, by simpa using HS3.out⟩
              case round =>
                obtain ⟨_, j, rfl, rfl, hj, hst⟩ := hrel
                obtain ⟨aj, cj, hvj⟩ := sliceI hst.own
                subst hvj
                have hlv : (capL 4097 acc ++ List.replicate j (0 : Int)).length = acc.length + j := by simp [capL_length]
                rw [hlv] at hst ⊢
                by_cases hjq : j < p1 + 1
                · have HSj := kept hst
                  have HLj := kept (show acc.length + j ≤ 200 by omega)
                  have HLv := kept hlv
                  clear hst hlv
                  go_wp2_with (first | (at_builtin; go_loud (refine wpList_app1 rfl _ _ 24 rfl 3 i0 (.int .i64 0) 8 Try.underlying24 hi hz0 hz1 hz2 rfl (.slice aj (acc.length + j) cj) _ (.int .i64 0) rfl HSj.out.own rfl rfl ?_ ?_ ?_)))
                  · have := HLj.out; rw [length_ints, HLv.out]; simp only [maxLen]; omega
                  · have := HLj.out; rw [length_ints, HLv.out]; omega
                  intro v5 w5 O5 C5 F5
                  have e5 : ints .i64 (capL 4097 acc ++ List.replicate j 0) ++ [.int .i64 0] = ints .i64 (capL 4097 acc ++ List.replicate (j + 1) 0) := by simp [ints, List.replicate_succ', ← List.append_assoc]
                  rw [e5] at O5
                  have HS5 := kept (HSj.out.app O5 C5 F5)
                  clear O5 C5 F5 e5
                  go_wp2_with fail
                  go_roundw
                  case rel => exact ⟨v5, j + 1, rfl, by go_num, by omega, HS5.out⟩
                  case measure => simp [intOf]; omega
                · have hje : j = p1 + 1 := by omega
                  subst hje
                  have HSj := kept hst
                  clear hst hjq hlv
                  go_wp2_with fail
                  go_roundw
                  case rel => exact ⟨_, acc ++ List.replicate (p1 + 1) 0, k3, f, rfl, by rw [HCap.out]; exact HSj.out, HPa.out, by simp; omega, by omega, by simp; omega, hk3s, hmk3, fun x hx => by
                      rcases List.mem_append.1 hx with hx | hx
                      · exact HNn.out x hx
                      · have := (List.mem_replicate.1 hx).2; omega⟩
                  case measure => simp [sLenN]; omega
          · rw [if_pos (by simpa using h3b)] at hpe
            have HE : Kept (R = ([], 0, (p3 : Int))) := kept (by rw [HR.out, hpa, hpe, fin_err _ _ _ _ h3b])
            have t3 : ((p3 : Int) != 0) = true := by rw [bne_iff_ne]; omega
            clear hr herr hbd hsz hk3 hpe hpa h3b
            go_wp2_with fail
            refine HRead2.out.mono ?_
            rintro e w3 ⟨rfl, hR3, hc3⟩
            have HS3 := kept (HS2.out.got hR3 hc3)
            have hf3 := HS3.out.nxt.free 0
            have hcc3 := HS3.out.nxt.cell (i := 0) rfl
            clear hR3 hc3
            go_wp2_with fail
            exact bodyPost_ret (results_tct rfl _ _ _ ⟨bn, 0, none⟩ (.int .i64 0) rfl (load_int _ _ _ ((HS3.out.nxt.set 0 _).cell (i := 0) rfl))) rfl ⟨.slice none 0 0, by rw [HE.out]; rfl, by rw [HE.out]; exact Owns.nil _ _, fun g hg => by simp [Value.ownBlock] at hg, HS3.out.low.setCell (p := ⟨bn, 0, none⟩) HS3.out.nB _⟩
      · rw [if_pos (by simpa using h3)] at hpe
        have HE : Kept (R = ([], 0, (q3 : Int))) := kept (by rw [HR.out, hpa, hpe, fin_err _ _ _ _ h3])
        have t3 : ((q3 : Int) != 0) = true := by rw [bne_iff_ne]; omega
        clear hr herr hbd hsz hk2 hpe hpa h3 hst
        go_wp2_with fail
        refine HRead.out.mono ?_
        rintro e w3 ⟨rfl, hR3, hc3⟩
        have HS3 := kept (HSt.out.got hR3 hc3)
        have hf3 := HS3.out.nxt.free 0
        have hcc3 := HS3.out.nxt.cell (i := 0) rfl
        clear hR3 hc3
        go_wp2_with fail
        exact bodyPost_ret (results_tct rfl _ _ _ ⟨bn, 0, none⟩ (.int .i64 0) rfl (load_int _ _ _ ((HS3.out.nxt.set 0 _).cell (i := 0) rfl))) rfl ⟨.slice none 0 0, by rw [HE.out]; rfl, by rw [HE.out]; exact Owns.nil _ _, fun g hg => by simp [Value.ownBlock] at hg, HS3.out.low.setCell (p := ⟨bn, 0, none⟩) HS3.out.nB _⟩
    · have hacc65 : acc.length = 65 := by omega
      have hpe := parN_end (bsOf s) f k acc (by omega)
      have HE : Kept (R = finN s m (lg : Int) (acc, k, 0)) := kept (by rw [HR.out, hpa, hpe])
      have hcv : acc.length ≤ cv := by
        obtain ⟨a2, c2, hv2, h1, h2, _⟩ := hst.own.rd
        simp only [Value.slice.injEq, length_ints, capL_length] at hv2 h1
        obtain ⟨_, _, rfl⟩ := hv2; exact h1
      have hcl := capL_length 4097 acc
      have hCn : ∀ n : Lat wq, Kd.C (Kd.int .i64) n.w av acc.length (capL 4097 acc) := fun n => C_of_rd (hst.own.rd.later n.below)
      obtain ⟨km, hkm⟩ := (may_is (capL 4097 acc) (lg : Int)).rounds
      rw [capL_may 4097 acc (lg : Int) (by omega)] at hkm
      have hMay : ∀ n : Lat wq, Calls Try.prog 15 #[.slice av acc.length cv, .int .i64 (lg : Int)] n.w fun e w' => e = .returned (.bool (Sp.mayN acc (lg : Int))) ∧ Below n.w.heap.size n.w w' := fun n => by
        have h := norm_May.calls km av cv (capL 4097 acc) (lg : Int) _ n.w (by rw [hcl]; exact hCn n) (by rw [hcl]; exact hcv) hkm
        rw [hcl] at h
        exact h.mono fun e w' ⟨he, hd⟩ => ⟨he, hd.below⟩
      have HMay := kept hMay
      have HSt := kept hst
      have HCn := kept hCn
      have HCv := kept hcv
      have hs0 := hst.str.cell (i := 0) rfl
      have hn0 := hst.nxt.cell (i := 0) rfl
      have q0 := lat_cell hs0
      have q1 := lat_cell hn0
      have hmk1 : (m : Int) ≤ (k : Int) := by omega
      have hks1 : (k : Int) ≤ (s.size : Int) := by omega
      rw [hacc65] at HMay HSt HCn HCv ⊢
      clear hpe hpa hst hkm hMay hCn hcv hs0 hn0
      go_upto_region 20 with fail
      cases hml : Sp.mayN acc (lg : Int) with
      | false =>
        rw [hml] at HMay
        have HE2 : Kept (R = ([], 0, 3)) := kept (by rw [HE.out]; unfold finN; rw [if_neg (by simp), if_neg (by rw [hml]; simp)])
        clear hml HE
        refine wp_region_quietL (by kernel_rfl) (by kernel_rfl) ?_
        repeat (go_big_quiet_step (first | (go_at_call 15; exact lat_call (HMay.out _))))
        refine wpQuiet_nil ?_
        intro nq
        have hS3 : Blk nq.w bn #[.int .i64 (k : Int)] 3 := (nq.below.block bn HSt.out.nxt.lt).trans HSt.out.nxt
        have HS3 := kept hS3
        have hf3 := hS3.free 0
        have hcc3 := hS3.cell (i := 0) rfl
        have HBq := kept (HSt.out.low.trans (nq.below.mono HSt.out.sz))
        clear hS3
        go_wp2_with fail
        exact bodyPost_ret (results_tct rfl _ _ _ ⟨bn, 0, none⟩ (.int .i64 0) rfl (load_int _ _ _ ((HS3.out.set 0 _).cell (i := 0) rfl))) rfl ⟨.slice none 0 0, by rw [HE2.out]; rfl, by rw [HE2.out]; exact Owns.nil _ _, fun g hg => by simp [Value.ownBlock] at hg, HBq.out.setCell (p := ⟨bn, 0, none⟩) HSt.out.nB _⟩
      | true =>
        rw [hml] at HMay
        have hid := capL_of_may 4097 acc (lg : Int) (by omega) hml
        have hrange : ∀ x ∈ acc, 0 ≤ x ∧ x < 9223372036854775808 := fun x hx => by
          rw [← hid] at hx
          obtain ⟨y, hy, rfl⟩ := List.mem_map.1 hx
          have := HNn.out y hy
          omega
        rw [hid] at HCn HSt
        obtain ⟨T, hT⟩ : ∃ T, T = txt (nputL acc) := ⟨_, rfl⟩
        have hPut : ∀ n : Lat wq, Calls Try.prog 19 #[.slice av 65 cv] n.w fun e w' => e = .returned (.string T) ∧ Below n.w.heap.size n.w w' := fun n => by
          have h := NormP.nput_calls av cv acc n.w (by rw [hacc65]; exact HCn.out n) (by rw [hacc65]; exact HCv.out) hrange (by omega)
          rw [hacc65, ← hT] at h; exact h
        have HPut := kept hPut
        have HML := kept hml
        have HT := kept hT
        clear hml hT hPut hrange hid
        refine wp_region_quietL (by kernel_rfl) (by kernel_rfl) ?_
        repeat (go_big_quiet_step (first | (go_at_call 15; exact lat_call (HMay.out _)) | (go_at_call 19; exact lat_call (HPut.out _))))
        refine wpQuiet_nil ?_
        intro nq
        have hq : T.toList = (s.extract m k).toList ↔ nputL acc = ((bsOf s).take k).drop m := by
          rw [toList_injV, HT.out]
          constructor
          · intro h
            have := congrArg bsOf h
            rwa [bsOf_txt _ (nputL_byte acc), bsOf_extract] at this
          · intro h
            apply bsOf_inj
            rw [bsOf_txt _ (nputL_byte acc), bsOf_extract, h]
        have hS3 : Blk nq.w bn #[.int .i64 (k : Int)] 3 := (nq.below.block bn HSt.out.nxt.lt).trans HSt.out.nxt
        have HS3 := kept hS3
        have HBq := kept (HSt.out.low.trans (nq.below.mono HSt.out.sz))
        by_cases heq : T.toList = (s.extract m k).toList
        · have te : (T.toList == (s.extract m k).toList) = true := by rw [beq_iff_eq]; exact heq
          have HE2 : Kept (R = (acc, (k : Int), 0)) := kept (by rw [HE.out]; unfold finN; rw [if_neg (by simp), if_pos ⟨HML.out, hq.1 heq⟩])
          have HTe := kept te
          have hl := HSt.out.own.keep (w' := nq.w) fun g _ hg => nq.below.block g hg
          have HL := kept hl
          clear heq te hq hS3 hl
          rw [HTe.out]
          go_wp2_with fail
          have g2 : nq.w.cell? ⟨bn, 0, none⟩ = some (.int .i64 (k : Int)) := HS3.out.cell (i := 0) rfl
          have g3 : nq.w.drew.cell? ⟨bn, 0, none⟩ = some (.int .i64 (k : Int)) := g2
          have q2 := lat_cell g2
          have q3 := lat_cell g3
          refine wp_region_mixL [] [0,1,2] [3,4] (by kernel_rfl) (by kernel_rfl) ?_
          intro K2 hK2
          simp only [pick, List.filterMap_cons, List.filterMap_nil, List.getElem?_cons_zero, List.getElem?_cons_succ]
          refine wpQuiet_nil ?_
          repeat (show wpQuiet _ _ _ _ (_ :: _) _; go_big_quiet_step (fail))
          refine wpQuiet_nil ?_
          show wpList _ _ _ [_, _] _ _
          have hS4 : Blk nq.w.drew bn #[.int .i64 (k : Int)] 3 := HS3.out
          have HL4 : Kept (Owns nq.w.drew 3 (.slice av 65 cv) (ints .i64 acc)) := kept HL.out
          have HB4 : Kept (Below B w nq.w.drew) := kept HBq.out.drew
          clear g2 g3 q2 q3
          generalize World.drew nq.w = wd at hS4 HL4 HB4 ⊢
          have HS4 := kept hS4
          have hf4 := hS4.free 0
          have hc4 := hS4.cell (i := 0) rfl
          clear hS4
          go_wp2_with fail
          refine hK2 _ _ ?_
          go_wp2_with fail
          have hcs := Chg.setCell wd ⟨bn, 0, none⟩ (.int .i64 (k : Int))
          exact bodyPost_ret (results_tct rfl _ _ _ ⟨bn, 0, none⟩ (.int .i64 (k : Int)) rfl (load_int _ _ _ ((HS4.out.set 0 _).cell (i := 0) rfl))) rfl ⟨_, by rw [HE2.out]; rfl, by rw [HE2.out]; exact HL4.out.chg hcs (fun g hg e => (HSt.out.new g hg).2.1 e), fun g hg => by exact (HSt.out.new g hg).1, HB4.out.setCell (p := ⟨bn, 0, none⟩) HSt.out.nB _⟩
        · have te : (T.toList == (s.extract m k).toList) = false := by rw [beq_eq_false_iff_ne]; exact heq
          have HE2 : Kept (R = ([], 0, 3)) := kept (by rw [HE.out]; unfold finN; rw [if_neg (by simp), if_neg (fun h => heq (hq.2 h.2))])
          have HTe := kept te
          have hf3 := hS3.free 0
          have hcc3 := hS3.cell (i := 0) rfl
          clear heq te hq hS3
          rw [HTe.out]
          go_wp2_with fail
          exact bodyPost_ret (results_tct rfl _ _ _ ⟨bn, 0, none⟩ (.int .i64 0) rfl (load_int _ _ _ ((HS3.out.set 0 _).cell (i := 0) rfl))) rfl ⟨.slice none 0 0, by rw [HE2.out]; rfl, by rw [HE2.out]; exact Owns.nil _ _, fun g hg => by simp [Value.ownBlock] at hg, HBq.out.setCell (p := ⟨bn, 0, none⟩) HSt.out.nB _⟩
end Go.Proofs.Ytbldocbijihpgaa.NormG

-- ---- PAx13
/- norm.Of: what the call answers, for every list and log. Conditions: the list's length fits a slice. -/
namespace Go.Proofs.Ytbldocbijihpgaa.PA
open Go.RowKit Go.Proofs.YtbldocbijihpgaaW.PrintWords Go.Proofs.YtbldocbijihpgaaW.PrintLast Go.Proofs.YtbldocbijihpgaaW.PrintMore
set_option linter.unusedVariables false
set_option linter.unusedSimpArgs false

def normO (l : List Int) (a : Int) : List Int × Int := if Nl.frB l = true ∧ 7 ≤ a ∧ a ≤ 12 then (Nl.normL l ((2 ^ a.toNat : Nat) : Int), 0) else ([], 1)
def norm_Of.f (l0 : List Int) (a1 : Int) : Option (List Int × Int) := if l0.length < 200000000000000 then some (normO l0 a1) else none
theorem norm_Of.calls (A0 : Option Addr) (c0 : Nat) (l0 : List Int) (a1 : Int) (r1 : List Int) (r2 : Int) (w : World) (hr0 : Kd.C (Kd.int .i64) w A0 l0.length l0) (hc0 : l0.length ≤ c0) (h : norm_Of.f l0 a1 = some (r1, r2)) :
    Calls Try.prog 11 #[.slice A0 l0.length c0, .int .i64 a1] w fun e w' => ∃ v0_ : Value, e = .returned (.tuple #[v0_, .int .i64 r2]) ∧ Kd.R (Kd.int .i64) 3 w' w.heap.size (fun _ => True) v0_ r1 ∧ Below w.heap.size w w' := by
  unfold norm_Of.f at h
  split at h
  · rename_i hn
    have h := Option.some.inj h
    unfold normO at h
    have hR := Own.rd_of_C hr0
    split at h
    · rename_i hg
      obtain ⟨rfl, rfl⟩ := Prod.mk.inj h
      obtain ⟨m, rfl⟩ := Int.eq_ofNat_of_zero_le (show 0 ≤ a1 by omega)
      have hf := (Nl.frB_iff l0).1 hg.1
      have h65 := hf.len
      rw [h65] at hR ⊢
      refine (NormF.norm_ok A0 c0 l0 m w hR hf (by omega) (by omega)).mono ?_
      rintro e w' ⟨v, rfl, ho, hnew, hb⟩
      exact ⟨v, rfl, Own.R_of_owns (by rw [Int.toNat_natCast]; exact ho) hnew, hb⟩
    · rename_i hg
      obtain ⟨rfl, rfl⟩ := Prod.mk.inj h
      refine (NormF.norm_bad A0 l0.length c0 l0 a1 w hR hn hg).mono ?_
      rintro e w' ⟨rfl, rfl⟩
      exact ⟨_, rfl, Kd.R_nil _ _ _ _ _, Below.refl _ _⟩
  · cases h
end Go.Proofs.Ytbldocbijihpgaa.PA

-- ---- PAx14

namespace Go.Proofs.Ytbldocbijihpgaa.PA
open Go.RowKit Go.Proofs.YtbldocbijihpgaaW.PrintWords Go.Proofs.YtbldocbijihpgaaW.PrintLast Go.Proofs.YtbldocbijihpgaaW.PrintMore
attribute [local go_sem] max2_int min2_int max_two min_two max_three min_three max_four min_four   -- for this text's walks alone
set_option linter.unusedVariables false
set_option linter.unusedSimpArgs false

/-! ### wringerlaw1_Err: function 14 -/
def wringerlaw1_Err.f (a0 : Int) : Option (Int) := some a0
set_option maxHeartbeats 8000000 in
set_option maxRecDepth 100000 in
theorem wringerlaw1_Err.calls (a0 : Int) (r : Int) (w : World) (h : wringerlaw1_Err.f a0 = some r) :
    Calls Try.prog 14 #[.int .i64 a0] w fun e w' => e = .returned (.int .i64 r) ∧ Drawn0 w w' := by
  have H : (some a0) = some r := h
  clear h
  obtain rfl := Option.some.inj H
  go_enter Try.func14, Try.ntmps14
  go_wp2
  go_ret
  exact ⟨by first | rfl | (simp; done) | (simp [*]; done), by repeat (first | exact Drawn0.refl _ | apply Drawn0.step)⟩

end Go.Proofs.Ytbldocbijihpgaa.PA

-- ---- PAx16

namespace Go.Proofs.Ytbldocbijihpgaa.PA
open Go.RowKit Go.Proofs.YtbldocbijihpgaaW.PrintWords Go.Proofs.YtbldocbijihpgaaW.PrintLast Go.Proofs.YtbldocbijihpgaaW.PrintMore
attribute [local go_sem] max2_int min2_int max_two min_two max_three min_three max_four min_four   -- for this text's walks alone
set_option linter.unusedVariables false
set_option linter.unusedSimpArgs false

/-! ### wringerlaw12_awake: function 9 -/
def wringerlaw12_awake.f (k : Nat)  : Option (Bool) := if 65 ≤ 35184372088832 then ((some (List.replicate 65 0 : List Int)).bind fun y119 => (if 7 < (y119.length : Int) then ((norm_Of.f (y119.set (7 : Int).toNat 9) 7).bind fun bt123 => ((wringerlaw1_Err.f bt123.2).bind fun t127 => (if t127 = 0 then (if (bt123.1.length : Int) = 65 then (if 7 < (bt123.1.length : Int) then (if (rd bt123.1 7) = 128 then ((norm_May.f k bt123.1 7).bind fun t129 => (some t129)) else (some false)) else (none)) else (some false)) else (some false)))) else (none))) else (none)
theorem wringerlaw12_awake.mono : ∀ k, LeO (wringerlaw12_awake.f k ) (wringerlaw12_awake.f (k + 1) ) := by
  intro  k
  unfold wringerlaw12_awake.f
  repeat' first
      | (with_reducible exact norm_May.mono _ _ _)
      | (with_reducible exact LeO.refl _)
      | (with_reducible exact LeO.none _)
      | (with_reducible refine LeO.ite ?_ ?_)
      | (with_reducible refine LeO.bind ?_ (fun _ => ?_))
      | exact norm_May.mono _ _ _
      | exact LeO.none _
      | refine LeO.ite ?_ ?_
      | refine LeO.bind ?_ (fun _ => ?_)
set_option maxHeartbeats 8000000 in
set_option maxRecDepth 100000 in
theorem wringerlaw12_awake.calls (k : Nat)  (r : Bool) (w : World) (h : wringerlaw12_awake.f k  = some r) :
    Calls Try.prog 9 #[] w fun e w' => e = .returned (.bool r) ∧ Below w.heap.size w w' := by
  have HB := Aside0.mk (Below.refl w.heap.size w)
  have H : (if 65 ≤ 35184372088832 then ((some (List.replicate 65 0 : List Int)).bind fun y119 => (if 7 < (y119.length : Int) then ((norm_Of.f (y119.set (7 : Int).toNat 9) 7).bind fun bt123 => ((wringerlaw1_Err.f bt123.2).bind fun t127 => (if t127 = 0 then (if (bt123.1.length : Int) = 65 then (if 7 < (bt123.1.length : Int) then (if (rd bt123.1 7) = 128 then ((norm_May.f k bt123.1 7).bind fun t129 => (some t129)) else (some false)) else (none)) else (some false)) else (some false)))) else (none))) else (none)) = some r := h
  clear h
  by_cases c1 : 65 ≤ 35184372088832
  · rw [if_pos c1] at H
    have c1b0 := eq_true c1
    have c1b1 : decide (65 ≤ 35184372088832) = true := decide_eq_true c1
    clear c1
    obtain ⟨y119, hy119⟩ : ∃ y_ : List Int, y_ = (List.replicate 65 0) := ⟨_, rfl⟩
    replace H : (if 7 < (y119.length : Int) then ((norm_Of.f (y119.set (7 : Int).toNat 9) 7).bind fun bt123 => ((wringerlaw1_Err.f bt123.2).bind fun t127 => (if t127 = 0 then (if (bt123.1.length : Int) = 65 then (if 7 < (bt123.1.length : Int) then (if (rd bt123.1 7) = 128 then ((norm_May.f k bt123.1 7).bind fun t129 => (some t129)) else (some false)) else (none)) else (some false)) else (some false)))) else (none)) = some r := by first | (rw [hy119]; with_reducible exact H) | (have H2_ := (Option.bind_some _ _).symm.trans H; rw [hy119]; with_reducible exact H2_) | (have H2_ := (Option.bind_some _ _).symm.trans H; with_reducible exact H2_) | with_reducible exact H | (rw [hy119]; exact H) | exact H
    have Ny119 := Aside0.mk hy119
    clear hy119
    by_cases c2 : 7 < (y119.length : Int)
    · rw [if_pos c2] at H
      have c2b0 : decide (7 < (y119.length : Int)) = true := decide_eq_true c2
      have c2b1 : decide (7 < y119.length) = true := decide_eq_true (by omega)
      clear c2
      obtain ⟨y122, hy122⟩ : ∃ y_ : List Int, y_ = (y119.set (7 : Int).toNat 9) := ⟨_, rfl⟩
      replace H : ((norm_Of.f y122 7).bind fun bt123 => ((wringerlaw1_Err.f bt123.2).bind fun t127 => (if t127 = 0 then (if (bt123.1.length : Int) = 65 then (if 7 < (bt123.1.length : Int) then (if (rd bt123.1 7) = 128 then ((norm_May.f k bt123.1 7).bind fun t129 => (some t129)) else (some false)) else (none)) else (some false)) else (some false)))) = some r := by first | (rw [hy122]; with_reducible exact H) | (have H2_ := (Option.bind_some _ _).symm.trans H; rw [hy122]; with_reducible exact H2_) | (have H2_ := (Option.bind_some _ _).symm.trans H; with_reducible exact H2_) | with_reducible exact H | (rw [hy122]; exact H) | exact H
      have Ny122 := Aside0.mk hy122
      clear hy122
      replace H := Option.bind_eq_some_iff.mp H
      obtain ⟨⟨t123, t124⟩, A40, H⟩ := H
      replace H : ((wringerlaw1_Err.f t124).bind fun t127 => (if t127 = 0 then (if (t123.length : Int) = 65 then (if 7 < (t123.length : Int) then (if (rd t123 7) = 128 then ((norm_May.f k t123 7).bind fun t129 => (some t129)) else (some false)) else (none)) else (some false)) else (some false))) = some r := H
      have A4 := Aside0.mk A40
      clear A40
      replace H := Option.bind_eq_some_iff.mp H
      obtain ⟨t127, A50, H⟩ := H
      replace H : (if t127 = 0 then (if (t123.length : Int) = 65 then (if 7 < (t123.length : Int) then (if (rd t123 7) = 128 then ((norm_May.f k t123 7).bind fun t129 => (some t129)) else (some false)) else (none)) else (some false)) else (some false)) = some r := H
      have A5 := Aside0.mk A50
      clear A50
      by_cases c6 : t127 = 0
      · rw [if_pos c6] at H
        have c6b0 : (t127 == 0) = true := beq_iff_eq.mpr c6
        have c6b1 : (t127 != 0) = false := bne_eq_false_iff_eq.mpr c6
        clear c6
        by_cases c7 : (t123.length : Int) = 65
        · rw [if_pos c7] at H
          have c7b0 : ((t123.length : Int) == 65) = true := beq_iff_eq.mpr c7
          have c7b1 : ((t123.length : Int) != 65) = false := bne_eq_false_iff_eq.mpr c7
          clear c7
          by_cases c8 : 7 < (t123.length : Int)
          · rw [if_pos c8] at H
            have c8b0 : decide (7 < (t123.length : Int)) = true := decide_eq_true c8
            have c8b1 : decide (7 < t123.length) = true := decide_eq_true (by omega)
            clear c8
            by_cases c9 : (rd t123 7) = 128
            · rw [if_pos c9] at H
              have c9b0 : ((rd t123 7) == 128) = true := beq_iff_eq.mpr c9
              have c9b1 : ((rd t123 7) != 128) = false := bne_eq_false_iff_eq.mpr c9
              clear c9
              replace H := Option.bind_eq_some_iff.mp H
              obtain ⟨t129, A100, H⟩ := H
              replace H : (some t129) = some r := H
              have A10 := Aside0.mk A100
              clear A100
              obtain rfl := Option.some.inj H
              go_enter Try.func9, Try.ntmps9
              go_wp2_with (first | ((with_reducible refine gate_dst (N := 4) rfl ?_); (try (refine gate_guard (by rfl) ?_; dsimp only)); refine Kd.R_make (Kd.int .i64) _ 3 rfl (N := 4) rfl 24 _ _ rfl 65 rfl rfl Try.underlying24 (.int .i64 0) 8 info3 rfl (by decide) (by omega) 0 (ok := fun _ => True) (okp := fun _ => True) rfl (fun _ hk => hk) trivial (by omega) (by omega) (Below.refl _ _) (Nat.le_refl _) ?_; intro v120 w11 ho12 hb hg_ hnew_; clear hg_ hnew_; (first | rw [← Ny119.out] at ho12 | (simp only [Int.reduceToNat] at ho12; rw [← Ny119.out] at ho12)); have n0_ := Aside0.mk (Kd.R_lower ho12 (below_size (by repeat (first | (with_reducible first | exact HB.out | apply below_alloc | apply pw_below_drewN | apply below_drew1) | exact HB.out)))); have n1_ := Aside0.mk (below_step (by repeat (first | (with_reducible first | exact HB.out | apply below_alloc | apply pw_below_drewN | apply below_drew1) | exact HB.out)) hb); clear HB; have HO121 := n0_; have HB := n1_; clear n0_ n1_; clear hb ho12; have p3 : 0 ≤ (7 : Int) := (by omega); have q3 : (7 : Int) < ((y119.length : Int) : Int) := of_decide_eq_true (by first | (with_reducible assumption) | assumption); have qi3 : (7 < y119.length) = True := eq_true (by omega); obtain ⟨go3, co3, eo3, gb3, gl3, cl3, HG3⟩ := Kd.R_form HO121.out (by omega); (first | cases eo3 | (injection eo3 with ea_ en_ ec_; (first | subst ea_ | (injection ea_ with ea_; subst ea_)); subst ec_; clear en_)); have GB3 := Aside0.mk gb3; have GG3 := Aside0.mk HG3; clear gb3 gl3 HG3; obtain ⟨hx3_0, hf3_0⟩ := Kd.R_celln 0 HO121.out (7 : Int) p3 q3; (try rw [show ((7 : Int)).toNat = 7 from rfl] at hx3_0); (try simp only [Nat.reduceMul, Nat.zero_mul, Nat.zero_add, Nat.reduceAdd] at hx3_0); (try rw [show ((7 : Int)).toNat = 7 from rfl] at hf3_0); (try simp only [Nat.reduceMul, Nat.zero_mul, Nat.zero_add, Nat.reduceAdd] at hf3_0); replace p3 := eq_true p3; replace q3 := eq_true q3; obtain ⟨hy13_, hz13_⟩ := Kd.R_celln 0 HO121.out (7 : Int) (by omega) (of_decide_eq_true (by first | (with_reducible assumption) | assumption)); (try simp only [Int.reduceToNat, Int.toNat_zero, Int.toNat_ofNat, Nat.reduceMul, Nat.zero_mul, Nat.zero_add] at hy13_ hz13_); (try rw [show ((7 : Int)).toNat = 7 from rfl] at hy13_); (try rw [show ((7 : Int)).toNat = 7 from rfl] at hz13_); have HP13 := Kd.R_putg HO121.out (7 : Int) 9) | ((with_reducible refine gate_store (t := 3) (p := 6) rfl ?_); refine store_event (t := 3) (p := 6) (v := ?vo_w14) (w1 := (w11.setCell ⟨go3, (7 : Int).toNat, none⟩ (.int .i64 9))) ?hg ?ho ?hn ?hr ?_; (case ho => rfl); (case hg => rfl); (case hn => rfl); (case hr => first | (go_simp; done) | (go_simp; rfl)); intro w14 hw; have hg : w11.grownBy w14 (some go3) := (by rw [hw]; exact HP13.2); have hp_ : Kd.R (Kd.int .i64) 3 w14 w.heap.size (fun _ => True) (.slice (some ⟨go3, 0, none⟩) y119.length co3) y122 := (by rw [hw, Ny122.out]; exact HP13.1); clear HP13; have n0_ := Aside0.mk (hp_); have n1_ := Aside0.mk ((by rw [hw]; exact below_set (HB.out) GB3.out : Below w.heap.size w w14)); clear HO121; clear HB; have HO121 := n0_; have HB := n1_; clear n0_ n1_; clear hg hw hp_) | ((with_reducible refine gate_callee (f := 11) rfl ?_); refine goesL_ (some 9) rfl rfl Try.func11 (by kernel_rfl) rfl #[.slice (some ⟨go3, 0, none⟩) y122.length co3, .int .i64 7] rfl (by (try simp only [List.map_toArray, List.map_cons, List.map_nil]); first | done | (rw [show y122.length = y119.length from (Kd.R_reads' HO121.out).1.symm] <;> rfl) | rfl | (simp only [List.length_drop, List.length_take]; rfl)) ?_; (with_reducible refine (norm_Of.calls _ _ y122 7 t123 t124 _ ?side1 ?side2 A4.out).mono ?_); (case side1 => repeat (first | exact (Kd.R_reads' HO121.out).2.2 | (with_reducible refine Kd.C_alloc ?_ _) | (with_reducible refine Kd.C_drewN ?_ _) | (with_reducible refine Kd.C_drew ?_))); (case side2 => rw [show y122.length = y119.length from (Kd.R_reads' HO121.out).1.symm]; exact (Kd.R_reads' HO121.out).2.1); rintro e w15 ⟨v125, rfl, ho0, hb⟩; refine ⟨_, rfl, ?_⟩; have n0_ := Aside0.mk (Kd.R_elder' (by (with_reducible repeat (first | apply Kd.R_alloc | apply Kd.R_drewN | apply Kd.R_drew)); exact HO121.out) (Kd.R_base ho0) hb); have n1_ := Aside0.mk (Kd.R_lower (Kd.R_new' ho0 (Kd.R_lt (by (with_reducible repeat (first | apply Kd.R_alloc | apply Kd.R_drewN | apply Kd.R_drew)); exact HO121.out))) (below_size (by repeat (first | (with_reducible first | exact HB.out | apply below_alloc | apply pw_below_drewN | apply below_drew1) | exact HB.out)))); have n2_ := Aside0.mk (below_step (by repeat (first | (with_reducible first | exact HB.out | apply below_alloc | apply pw_below_drewN | apply below_drew1) | exact HB.out)) hb); clear HO121; clear HB; have HO121 := n0_; have HO126 := n1_; have HB := n2_; clear n0_ n1_ n2_; (try clear hb); (try clear hb2); (try clear hk); (try clear hi); (try clear ho0)) | ((with_reducible refine gate_callee (f := 14) rfl ?_); refine goesL_ (some 13) rfl rfl Try.func14 (by kernel_rfl) rfl #[.int .i64 t124] rfl (by (try simp only [List.map_toArray, List.map_cons, List.map_nil]); first | done | rfl | (simp only [List.length_drop, List.length_take]; rfl)) ?_; (with_reducible refine (wringerlaw1_Err.calls t124 t127 _ A5.out).mono ?_); rintro e w' ⟨rfl, ⟨nd, rfl⟩⟩; refine ⟨_, rfl, ?_⟩; obtain ⟨Ao16, co16, eo16⟩ := Kd.R_slice HO126.out; subst eo16; have p128 : 0 ≤ (7 : Int) := (by omega); have q128 : 7 < (t123.length : Int) := of_decide_eq_true (by first | (with_reducible assumption) | assumption); obtain ⟨ad128, e128, hx128_0⟩ := Kd.at_int (Kd.R_reads' HO126.out).2.2 7 p128 q128; cases e128; (try simp only [show (7 : Int).toNat = 7 from rfl, Nat.reduceMul, Nat.reduceEqDiff, Go.Addr.add, ↓reduceIte] at hx128_0); have qi128 : (7 < t123.length) = True := eq_true (by omega); (try rw [show ((7 : Int)).toNat = 7 from rfl] at hx128_0); replace p128 := eq_true p128; replace q128 := eq_true q128) | (go_at_call 15; (with_reducible refine (norm_May.calls k _ _ t123 7 t129 _ ?side1 ?side2 A10.out).mono ?_); (case side1 => repeat (first | exact (Kd.R_reads' HO126.out).2.2 | (with_reducible refine Kd.C_alloc ?_ _) | (with_reducible refine Kd.C_drewN ?_ _) | (with_reducible refine Kd.C_drew ?_))); (case side2 => exact (Kd.R_reads' HO126.out).2.1); rintro e w' ⟨rfl, ⟨nd, rfl⟩⟩))
              go_ret
              exact ⟨by first | rfl | (simp [errW_none, errW_some] <;> rfl) | (simp [*, errW_none, errW_some] <;> rfl), by repeat (first | (with_reducible first | exact HB.out | apply below_alloc | apply pw_below_drewN | apply below_drew1) | exact HB.out)⟩
            · rw [if_neg c9] at H
              have c9b0 : ((rd t123 7) == 128) = false := beq_eq_false_iff_ne.mpr c9
              have c9b1 : ((rd t123 7) != 128) = true := bne_iff_ne.mpr c9
              obtain rfl := Option.some.inj H
              go_enter Try.func9, Try.ntmps9
              go_wp2_with (first | ((with_reducible refine gate_dst (N := 4) rfl ?_); (try (refine gate_guard (by rfl) ?_; dsimp only)); refine Kd.R_make (Kd.int .i64) _ 3 rfl (N := 4) rfl 24 _ _ rfl 65 rfl rfl Try.underlying24 (.int .i64 0) 8 info3 rfl (by decide) (by omega) 0 (ok := fun _ => True) (okp := fun _ => True) rfl (fun _ hk => hk) trivial (by omega) (by omega) (Below.refl _ _) (Nat.le_refl _) ?_; intro v120 w17 ho18 hb hg_ hnew_; clear hg_ hnew_; (first | rw [← Ny119.out] at ho18 | (simp only [Int.reduceToNat] at ho18; rw [← Ny119.out] at ho18)); have n0_ := Aside0.mk (Kd.R_lower ho18 (below_size (by repeat (first | (with_reducible first | exact HB.out | apply below_alloc | apply pw_below_drewN | apply below_drew1) | exact HB.out)))); have n1_ := Aside0.mk (below_step (by repeat (first | (with_reducible first | exact HB.out | apply below_alloc | apply pw_below_drewN | apply below_drew1) | exact HB.out)) hb); clear HB; have HO121 := n0_; have HB := n1_; clear n0_ n1_; clear hb ho18; have p3 : 0 ≤ (7 : Int) := (by omega); have q3 : (7 : Int) < ((y119.length : Int) : Int) := of_decide_eq_true (by first | (with_reducible assumption) | assumption); have qi3 : (7 < y119.length) = True := eq_true (by omega); obtain ⟨go3, co3, eo3, gb3, gl3, cl3, HG3⟩ := Kd.R_form HO121.out (by omega); (first | cases eo3 | (injection eo3 with ea_ en_ ec_; (first | subst ea_ | (injection ea_ with ea_; subst ea_)); subst ec_; clear en_)); have GB3 := Aside0.mk gb3; have GG3 := Aside0.mk HG3; clear gb3 gl3 HG3; obtain ⟨hx3_0, hf3_0⟩ := Kd.R_celln 0 HO121.out (7 : Int) p3 q3; (try rw [show ((7 : Int)).toNat = 7 from rfl] at hx3_0); (try simp only [Nat.reduceMul, Nat.zero_mul, Nat.zero_add, Nat.reduceAdd] at hx3_0); (try rw [show ((7 : Int)).toNat = 7 from rfl] at hf3_0); (try simp only [Nat.reduceMul, Nat.zero_mul, Nat.zero_add, Nat.reduceAdd] at hf3_0); replace p3 := eq_true p3; replace q3 := eq_true q3; obtain ⟨hy19_, hz19_⟩ := Kd.R_celln 0 HO121.out (7 : Int) (by omega) (of_decide_eq_true (by first | (with_reducible assumption) | assumption)); (try simp only [Int.reduceToNat, Int.toNat_zero, Int.toNat_ofNat, Nat.reduceMul, Nat.zero_mul, Nat.zero_add] at hy19_ hz19_); (try rw [show ((7 : Int)).toNat = 7 from rfl] at hy19_); (try rw [show ((7 : Int)).toNat = 7 from rfl] at hz19_); have HP19 := Kd.R_putg HO121.out (7 : Int) 9) | ((with_reducible refine gate_store (t := 3) (p := 6) rfl ?_); refine store_event (t := 3) (p := 6) (v := ?vo_w20) (w1 := (w17.setCell ⟨go3, (7 : Int).toNat, none⟩ (.int .i64 9))) ?hg ?ho ?hn ?hr ?_; (case ho => rfl); (case hg => rfl); (case hn => rfl); (case hr => first | (go_simp; done) | (go_simp; rfl)); intro w20 hw; have hg : w17.grownBy w20 (some go3) := (by rw [hw]; exact HP19.2); have hp_ : Kd.R (Kd.int .i64) 3 w20 w.heap.size (fun _ => True) (.slice (some ⟨go3, 0, none⟩) y119.length co3) y122 := (by rw [hw, Ny122.out]; exact HP19.1); clear HP19; have n0_ := Aside0.mk (hp_); have n1_ := Aside0.mk ((by rw [hw]; exact below_set (HB.out) GB3.out : Below w.heap.size w w20)); clear HO121; clear HB; have HO121 := n0_; have HB := n1_; clear n0_ n1_; clear hg hw hp_) | ((with_reducible refine gate_callee (f := 11) rfl ?_); refine goesL_ (some 9) rfl rfl Try.func11 (by kernel_rfl) rfl #[.slice (some ⟨go3, 0, none⟩) y122.length co3, .int .i64 7] rfl (by (try simp only [List.map_toArray, List.map_cons, List.map_nil]); first | done | (rw [show y122.length = y119.length from (Kd.R_reads' HO121.out).1.symm] <;> rfl) | rfl | (simp only [List.length_drop, List.length_take]; rfl)) ?_; (with_reducible refine (norm_Of.calls _ _ y122 7 t123 t124 _ ?side1 ?side2 A4.out).mono ?_); (case side1 => repeat (first | exact (Kd.R_reads' HO121.out).2.2 | (with_reducible refine Kd.C_alloc ?_ _) | (with_reducible refine Kd.C_drewN ?_ _) | (with_reducible refine Kd.C_drew ?_))); (case side2 => rw [show y122.length = y119.length from (Kd.R_reads' HO121.out).1.symm]; exact (Kd.R_reads' HO121.out).2.1); rintro e w21 ⟨v125, rfl, ho0, hb⟩; refine ⟨_, rfl, ?_⟩; have n0_ := Aside0.mk (Kd.R_elder' (by (with_reducible repeat (first | apply Kd.R_alloc | apply Kd.R_drewN | apply Kd.R_drew)); exact HO121.out) (Kd.R_base ho0) hb); have n1_ := Aside0.mk (Kd.R_lower (Kd.R_new' ho0 (Kd.R_lt (by (with_reducible repeat (first | apply Kd.R_alloc | apply Kd.R_drewN | apply Kd.R_drew)); exact HO121.out))) (below_size (by repeat (first | (with_reducible first | exact HB.out | apply below_alloc | apply pw_below_drewN | apply below_drew1) | exact HB.out)))); have n2_ := Aside0.mk (below_step (by repeat (first | (with_reducible first | exact HB.out | apply below_alloc | apply pw_below_drewN | apply below_drew1) | exact HB.out)) hb); clear HO121; clear HB; have HO121 := n0_; have HO126 := n1_; have HB := n2_; clear n0_ n1_ n2_; (try clear hb); (try clear hb2); (try clear hk); (try clear hi); (try clear ho0)) | ((with_reducible refine gate_callee (f := 14) rfl ?_); refine goesL_ (some 13) rfl rfl Try.func14 (by kernel_rfl) rfl #[.int .i64 t124] rfl (by (try simp only [List.map_toArray, List.map_cons, List.map_nil]); first | done | rfl | (simp only [List.length_drop, List.length_take]; rfl)) ?_; (with_reducible refine (wringerlaw1_Err.calls t124 t127 _ A5.out).mono ?_); rintro e w' ⟨rfl, ⟨nd, rfl⟩⟩; refine ⟨_, rfl, ?_⟩; obtain ⟨Ao22, co22, eo22⟩ := Kd.R_slice HO126.out; subst eo22; have p128 : 0 ≤ (7 : Int) := (by omega); have q128 : 7 < (t123.length : Int) := of_decide_eq_true (by first | (with_reducible assumption) | assumption); obtain ⟨ad128, e128, hx128_0⟩ := Kd.at_int (Kd.R_reads' HO126.out).2.2 7 p128 q128; cases e128; (try simp only [show (7 : Int).toNat = 7 from rfl, Nat.reduceMul, Nat.reduceEqDiff, Go.Addr.add, ↓reduceIte] at hx128_0); have qi128 : (7 < t123.length) = True := eq_true (by omega); (try rw [show ((7 : Int)).toNat = 7 from rfl] at hx128_0); replace p128 := eq_true p128; replace q128 := eq_true q128))
              go_ret
              exact ⟨by first | rfl | (simp [errW_none, errW_some] <;> rfl) | (simp [*, errW_none, errW_some] <;> rfl), by repeat (first | (with_reducible first | exact HB.out | apply below_alloc | apply pw_below_drewN | apply below_drew1) | exact HB.out)⟩
          · rw [if_neg c8] at H
            exact absurd H (by simp)
        · rw [if_neg c7] at H
          have c7b0 : ((t123.length : Int) == 65) = false := beq_eq_false_iff_ne.mpr c7
          have c7b1 : ((t123.length : Int) != 65) = true := bne_iff_ne.mpr c7
          obtain rfl := Option.some.inj H
          go_enter Try.func9, Try.ntmps9
          go_wp2_with (first | ((with_reducible refine gate_dst (N := 4) rfl ?_); (try (refine gate_guard (by rfl) ?_; dsimp only)); refine Kd.R_make (Kd.int .i64) _ 3 rfl (N := 4) rfl 24 _ _ rfl 65 rfl rfl Try.underlying24 (.int .i64 0) 8 info3 rfl (by decide) (by omega) 0 (ok := fun _ => True) (okp := fun _ => True) rfl (fun _ hk => hk) trivial (by omega) (by omega) (Below.refl _ _) (Nat.le_refl _) ?_; intro v120 w23 ho24 hb hg_ hnew_; clear hg_ hnew_; (first | rw [← Ny119.out] at ho24 | (simp only [Int.reduceToNat] at ho24; rw [← Ny119.out] at ho24)); have n0_ := Aside0.mk (Kd.R_lower ho24 (below_size (by repeat (first | (with_reducible first | exact HB.out | apply below_alloc | apply pw_below_drewN | apply below_drew1) | exact HB.out)))); have n1_ := Aside0.mk (below_step (by repeat (first | (with_reducible first | exact HB.out | apply below_alloc | apply pw_below_drewN | apply below_drew1) | exact HB.out)) hb); clear HB; have HO121 := n0_; have HB := n1_; clear n0_ n1_; clear hb ho24; have p3 : 0 ≤ (7 : Int) := (by omega); have q3 : (7 : Int) < ((y119.length : Int) : Int) := of_decide_eq_true (by first | (with_reducible assumption) | assumption); have qi3 : (7 < y119.length) = True := eq_true (by omega); obtain ⟨go3, co3, eo3, gb3, gl3, cl3, HG3⟩ := Kd.R_form HO121.out (by omega); (first | cases eo3 | (injection eo3 with ea_ en_ ec_; (first | subst ea_ | (injection ea_ with ea_; subst ea_)); subst ec_; clear en_)); have GB3 := Aside0.mk gb3; have GG3 := Aside0.mk HG3; clear gb3 gl3 HG3; obtain ⟨hx3_0, hf3_0⟩ := Kd.R_celln 0 HO121.out (7 : Int) p3 q3; (try rw [show ((7 : Int)).toNat = 7 from rfl] at hx3_0); (try simp only [Nat.reduceMul, Nat.zero_mul, Nat.zero_add, Nat.reduceAdd] at hx3_0); (try rw [show ((7 : Int)).toNat = 7 from rfl] at hf3_0); (try simp only [Nat.reduceMul, Nat.zero_mul, Nat.zero_add, Nat.reduceAdd] at hf3_0); replace p3 := eq_true p3; replace q3 := eq_true q3; obtain ⟨hy25_, hz25_⟩ := Kd.R_celln 0 HO121.out (7 : Int) (by omega) (of_decide_eq_true (by first | (with_reducible assumption) | assumption)); (try simp only [Int.reduceToNat, Int.toNat_zero, Int.toNat_ofNat, Nat.reduceMul, Nat.zero_mul, Nat.zero_add] at hy25_ hz25_); (try rw [show ((7 : Int)).toNat = 7 from rfl] at hy25_); (try rw [show ((7 : Int)).toNat = 7 from rfl] at hz25_); have HP25 := Kd.R_putg HO121.out (7 : Int) 9) | ((with_reducible refine gate_store (t := 3) (p := 6) rfl ?_); refine store_event (t := 3) (p := 6) (v := ?vo_w26) (w1 := (w23.setCell ⟨go3, (7 : Int).toNat, none⟩ (.int .i64 9))) ?hg ?ho ?hn ?hr ?_; (case ho => rfl); (case hg => rfl); (case hn => rfl); (case hr => first | (go_simp; done) | (go_simp; rfl)); intro w26 hw; have hg : w23.grownBy w26 (some go3) := (by rw [hw]; exact HP25.2); have hp_ : Kd.R (Kd.int .i64) 3 w26 w.heap.size (fun _ => True) (.slice (some ⟨go3, 0, none⟩) y119.length co3) y122 := (by rw [hw, Ny122.out]; exact HP25.1); clear HP25; have n0_ := Aside0.mk (hp_); have n1_ := Aside0.mk ((by rw [hw]; exact below_set (HB.out) GB3.out : Below w.heap.size w w26)); clear HO121; clear HB; have HO121 := n0_; have HB := n1_; clear n0_ n1_; clear hg hw hp_) | ((with_reducible refine gate_callee (f := 11) rfl ?_); refine goesL_ (some 9) rfl rfl Try.func11 (by kernel_rfl) rfl #[.slice (some ⟨go3, 0, none⟩) y122.length co3, .int .i64 7] rfl (by (try simp only [List.map_toArray, List.map_cons, List.map_nil]); first | done | (rw [show y122.length = y119.length from (Kd.R_reads' HO121.out).1.symm] <;> rfl) | rfl | (simp only [List.length_drop, List.length_take]; rfl)) ?_; (with_reducible refine (norm_Of.calls _ _ y122 7 t123 t124 _ ?side1 ?side2 A4.out).mono ?_); (case side1 => repeat (first | exact (Kd.R_reads' HO121.out).2.2 | (with_reducible refine Kd.C_alloc ?_ _) | (with_reducible refine Kd.C_drewN ?_ _) | (with_reducible refine Kd.C_drew ?_))); (case side2 => rw [show y122.length = y119.length from (Kd.R_reads' HO121.out).1.symm]; exact (Kd.R_reads' HO121.out).2.1); rintro e w27 ⟨v125, rfl, ho0, hb⟩; refine ⟨_, rfl, ?_⟩; have n0_ := Aside0.mk (Kd.R_elder' (by (with_reducible repeat (first | apply Kd.R_alloc | apply Kd.R_drewN | apply Kd.R_drew)); exact HO121.out) (Kd.R_base ho0) hb); have n1_ := Aside0.mk (Kd.R_lower (Kd.R_new' ho0 (Kd.R_lt (by (with_reducible repeat (first | apply Kd.R_alloc | apply Kd.R_drewN | apply Kd.R_drew)); exact HO121.out))) (below_size (by repeat (first | (with_reducible first | exact HB.out | apply below_alloc | apply pw_below_drewN | apply below_drew1) | exact HB.out)))); have n2_ := Aside0.mk (below_step (by repeat (first | (with_reducible first | exact HB.out | apply below_alloc | apply pw_below_drewN | apply below_drew1) | exact HB.out)) hb); clear HO121; clear HB; have HO121 := n0_; have HO126 := n1_; have HB := n2_; clear n0_ n1_ n2_; (try clear hb); (try clear hb2); (try clear hk); (try clear hi); (try clear ho0)) | ((with_reducible refine gate_callee (f := 14) rfl ?_); refine goesL_ (some 13) rfl rfl Try.func14 (by kernel_rfl) rfl #[.int .i64 t124] rfl (by (try simp only [List.map_toArray, List.map_cons, List.map_nil]); first | done | rfl | (simp only [List.length_drop, List.length_take]; rfl)) ?_; (with_reducible refine (wringerlaw1_Err.calls t124 t127 _ A5.out).mono ?_); rintro e w' ⟨rfl, ⟨nd, rfl⟩⟩; refine ⟨_, rfl, ?_⟩; obtain ⟨Ao28, co28, eo28⟩ := Kd.R_slice HO126.out; subst eo28))
          go_ret
          exact ⟨by first | rfl | (simp [errW_none, errW_some] <;> rfl) | (simp [*, errW_none, errW_some] <;> rfl), by repeat (first | (with_reducible first | exact HB.out | apply below_alloc | apply pw_below_drewN | apply below_drew1) | exact HB.out)⟩
      · rw [if_neg c6] at H
        have c6b0 : (t127 == 0) = false := beq_eq_false_iff_ne.mpr c6
        have c6b1 : (t127 != 0) = true := bne_iff_ne.mpr c6
        obtain rfl := Option.some.inj H
        go_enter Try.func9, Try.ntmps9
        go_wp2_with (first | ((with_reducible refine gate_dst (N := 4) rfl ?_); (try (refine gate_guard (by rfl) ?_; dsimp only)); refine Kd.R_make (Kd.int .i64) _ 3 rfl (N := 4) rfl 24 _ _ rfl 65 rfl rfl Try.underlying24 (.int .i64 0) 8 info3 rfl (by decide) (by omega) 0 (ok := fun _ => True) (okp := fun _ => True) rfl (fun _ hk => hk) trivial (by omega) (by omega) (Below.refl _ _) (Nat.le_refl _) ?_; intro v120 w29 ho30 hb hg_ hnew_; clear hg_ hnew_; (first | rw [← Ny119.out] at ho30 | (simp only [Int.reduceToNat] at ho30; rw [← Ny119.out] at ho30)); have n0_ := Aside0.mk (Kd.R_lower ho30 (below_size (by repeat (first | (with_reducible first | exact HB.out | apply below_alloc | apply pw_below_drewN | apply below_drew1) | exact HB.out)))); have n1_ := Aside0.mk (below_step (by repeat (first | (with_reducible first | exact HB.out | apply below_alloc | apply pw_below_drewN | apply below_drew1) | exact HB.out)) hb); clear HB; have HO121 := n0_; have HB := n1_; clear n0_ n1_; clear hb ho30; have p3 : 0 ≤ (7 : Int) := (by omega); have q3 : (7 : Int) < ((y119.length : Int) : Int) := of_decide_eq_true (by first | (with_reducible assumption) | assumption); have qi3 : (7 < y119.length) = True := eq_true (by omega); obtain ⟨go3, co3, eo3, gb3, gl3, cl3, HG3⟩ := Kd.R_form HO121.out (by omega); (first | cases eo3 | (injection eo3 with ea_ en_ ec_; (first | subst ea_ | (injection ea_ with ea_; subst ea_)); subst ec_; clear en_)); have GB3 := Aside0.mk gb3; have GG3 := Aside0.mk HG3; clear gb3 gl3 HG3; obtain ⟨hx3_0, hf3_0⟩ := Kd.R_celln 0 HO121.out (7 : Int) p3 q3; (try rw [show ((7 : Int)).toNat = 7 from rfl] at hx3_0); (try simp only [Nat.reduceMul, Nat.zero_mul, Nat.zero_add, Nat.reduceAdd] at hx3_0); (try rw [show ((7 : Int)).toNat = 7 from rfl] at hf3_0); (try simp only [Nat.reduceMul, Nat.zero_mul, Nat.zero_add, Nat.reduceAdd] at hf3_0); replace p3 := eq_true p3; replace q3 := eq_true q3; obtain ⟨hy31_, hz31_⟩ := Kd.R_celln 0 HO121.out (7 : Int) (by omega) (of_decide_eq_true (by first | (with_reducible assumption) | assumption)); (try simp only [Int.reduceToNat, Int.toNat_zero, Int.toNat_ofNat, Nat.reduceMul, Nat.zero_mul, Nat.zero_add] at hy31_ hz31_); (try rw [show ((7 : Int)).toNat = 7 from rfl] at hy31_); (try rw [show ((7 : Int)).toNat = 7 from rfl] at hz31_); have HP31 := Kd.R_putg HO121.out (7 : Int) 9) | ((with_reducible refine gate_store (t := 3) (p := 6) rfl ?_); refine store_event (t := 3) (p := 6) (v := ?vo_w32) (w1 := (w29.setCell ⟨go3, (7 : Int).toNat, none⟩ (.int .i64 9))) ?hg ?ho ?hn ?hr ?_; (case ho => rfl); (case hg => rfl); (case hn => rfl); (case hr => first | (go_simp; done) | (go_simp; rfl)); intro w32 hw; have hg : w29.grownBy w32 (some go3) := (by rw [hw]; exact HP31.2); have hp_ : Kd.R (Kd.int .i64) 3 w32 w.heap.size (fun _ => True) (.slice (some ⟨go3, 0, none⟩) y119.length co3) y122 := (by rw [hw, Ny122.out]; exact HP31.1); clear HP31; have n0_ := Aside0.mk (hp_); have n1_ := Aside0.mk ((by rw [hw]; exact below_set (HB.out) GB3.out : Below w.heap.size w w32)); clear HO121; clear HB; have HO121 := n0_; have HB := n1_; clear n0_ n1_; clear hg hw hp_) | ((with_reducible refine gate_callee (f := 11) rfl ?_); refine goesL_ (some 9) rfl rfl Try.func11 (by kernel_rfl) rfl #[.slice (some ⟨go3, 0, none⟩) y122.length co3, .int .i64 7] rfl (by (try simp only [List.map_toArray, List.map_cons, List.map_nil]); first | done | (rw [show y122.length = y119.length from (Kd.R_reads' HO121.out).1.symm] <;> rfl) | rfl | (simp only [List.length_drop, List.length_take]; rfl)) ?_; (with_reducible refine (norm_Of.calls _ _ y122 7 t123 t124 _ ?side1 ?side2 A4.out).mono ?_); (case side1 => repeat (first | exact (Kd.R_reads' HO121.out).2.2 | (with_reducible refine Kd.C_alloc ?_ _) | (with_reducible refine Kd.C_drewN ?_ _) | (with_reducible refine Kd.C_drew ?_))); (case side2 => rw [show y122.length = y119.length from (Kd.R_reads' HO121.out).1.symm]; exact (Kd.R_reads' HO121.out).2.1); rintro e w33 ⟨v125, rfl, ho0, hb⟩; refine ⟨_, rfl, ?_⟩; have n0_ := Aside0.mk (Kd.R_elder' (by (with_reducible repeat (first | apply Kd.R_alloc | apply Kd.R_drewN | apply Kd.R_drew)); exact HO121.out) (Kd.R_base ho0) hb); have n1_ := Aside0.mk (Kd.R_lower (Kd.R_new' ho0 (Kd.R_lt (by (with_reducible repeat (first | apply Kd.R_alloc | apply Kd.R_drewN | apply Kd.R_drew)); exact HO121.out))) (below_size (by repeat (first | (with_reducible first | exact HB.out | apply below_alloc | apply pw_below_drewN | apply below_drew1) | exact HB.out)))); have n2_ := Aside0.mk (below_step (by repeat (first | (with_reducible first | exact HB.out | apply below_alloc | apply pw_below_drewN | apply below_drew1) | exact HB.out)) hb); clear HO121; clear HB; have HO121 := n0_; have HO126 := n1_; have HB := n2_; clear n0_ n1_ n2_; (try clear hb); (try clear hb2); (try clear hk); (try clear hi); (try clear ho0)) | ((with_reducible refine gate_callee (f := 14) rfl ?_); refine goesL_ (some 13) rfl rfl Try.func14 (by kernel_rfl) rfl #[.int .i64 t124] rfl (by (try simp only [List.map_toArray, List.map_cons, List.map_nil]); first | done | rfl | (simp only [List.length_drop, List.length_take]; rfl)) ?_; (with_reducible refine (wringerlaw1_Err.calls t124 t127 _ A5.out).mono ?_); rintro e w' ⟨rfl, ⟨nd, rfl⟩⟩; refine ⟨_, rfl, ?_⟩))
        go_ret
        exact ⟨by first | rfl | (simp [errW_none, errW_some] <;> rfl) | (simp [*, errW_none, errW_some] <;> rfl), by repeat (first | (with_reducible first | exact HB.out | apply below_alloc | apply pw_below_drewN | apply below_drew1) | exact HB.out)⟩
    · rw [if_neg c2] at H
      exact absurd H (by simp)
  · rw [if_neg c1] at H
    exact absurd H (by simp)

end Go.Proofs.Ytbldocbijihpgaa.PA

-- ---- PAx20
/- The document's numbers of a sum: what the call answers, for every list and log. Conditions: the list's length fits a slice. -/
namespace Go.Proofs.Ytbldocbijihpgaa.PA
open Go.RowKit Go.Proofs.YtbldocbijihpgaaW.PrintWords Go.Proofs.YtbldocbijihpgaaW.PrintLast Go.Proofs.YtbldocbijihpgaaW.PrintMore
set_option linter.unusedVariables false
set_option linter.unusedSimpArgs false

def normE (l : List Int) (a : Int) : List Int × Int := if Nl.frB l = true ∧ 7 ≤ a ∧ a ≤ 12 then (Nl.normL l ((2 ^ a.toNat : Nat) : Int), 0) else ([], 1)
def wringerref7_Norm.f (l0 : List Int) (a1 : Int) : Option (List Int × Int) := if l0.length < 200000000000000 then some (normE l0 a1) else none
theorem wringerref7_Norm.calls (A0 : Option Addr) (c0 : Nat) (l0 : List Int) (a1 : Int) (r1 : List Int) (r2 : Int) (w : World) (hr0 : Kd.C (Kd.int .i64) w A0 l0.length l0) (hc0 : l0.length ≤ c0) (h : wringerref7_Norm.f l0 a1 = some (r1, r2)) :
    Calls Try.prog 12 #[.slice A0 l0.length c0, .int .i64 a1] w fun e w' => ∃ v0_ : Value, e = .returned (.agg #[v0_, .int .i64 r2]) ∧ Kd.R (Kd.int .i64) 3 w' w.heap.size (fun _ => True) v0_ r1 ∧ Below w.heap.size w w' := by
  unfold wringerref7_Norm.f at h
  split at h
  · rename_i hn
    have h := Option.some.inj h
    unfold normE at h
    split at h
    · rename_i hg
      obtain ⟨rfl, rfl⟩ := Prod.mk.inj h
      obtain ⟨m, rfl⟩ := Int.eq_ofNat_of_zero_le (show 0 ≤ a1 by omega)
      refine (rnorm_ok A0 c0 l0 m w hr0 hc0 ((Nl.frB_iff l0).1 hg.1) (by omega) (by omega)).mono ?_
      rintro e w' ⟨v, rfl, ho, hnew, hb⟩
      exact ⟨v, rfl, Own.R_of_owns (by rw [Int.toNat_natCast]; exact ho) hnew, hb⟩
    · rename_i hg
      obtain ⟨rfl, rfl⟩ := Prod.mk.inj h
      refine (rnorm_bad A0 c0 l0 a1 w hr0 hc0 hn hg).mono ?_
      rintro e w' ⟨rfl, hb⟩
      exact ⟨_, rfl, Kd.R_nil _ _ _ _ _, hb⟩
  · cases h
end Go.Proofs.Ytbldocbijihpgaa.PA

-- ---- PAx21

namespace Go.Proofs.Ytbldocbijihpgaa.PA
open Go.RowKit Go.Proofs.YtbldocbijihpgaaW.PrintWords Go.Proofs.YtbldocbijihpgaaW.PrintLast Go.Proofs.YtbldocbijihpgaaW.PrintMore
attribute [local go_sem] max2_int min2_int max_two min_two max_three min_three max_four min_four   -- for this text's walks alone
set_option linter.unusedVariables false
set_option linter.unusedSimpArgs false

/-! ### wringerref7_SameInts: function 13 -/
def wringerref7_SameInts.l0 : Nat → List Int → List Int → Int → Option (Bool)
  | 0, _, _, _ => none
  | k + 1, x0, x1, x5 => if x5 < (x0.length : Int) then (if 0 ≤ x5 then (if x5 < (x1.length : Int) then (if (rd x0 x5) = (rd x1 x5) then (wringerref7_SameInts.l0 k x0 x1 (wrap64 (x5 + 1))) else (some false)) else (none)) else (none)) else (some true)
def wringerref7_SameInts.f (k : Nat) (l0 : List Int) (l1 : List Int) : Option (Bool) := if (l0.length : Int) = (l1.length : Int) then (wringerref7_SameInts.l0 k l0 l1 0) else (some false)
theorem wringerref7_SameInts.mono_l : ∀ k, (∀ y0 y1 y2, LeO (wringerref7_SameInts.l0 k y0 y1 y2) (wringerref7_SameInts.l0 (k + 1) y0 y1 y2))
  | 0 => fun _ _ _ r h => by simp [wringerref7_SameInts.l0] at h
  | k + 1 => by
    have ih0 := wringerref7_SameInts.mono_l k
    · intro y0 y1 y2
      unfold wringerref7_SameInts.l0
      repeat' first
      | (with_reducible exact ih0 _ _ _)
      | (with_reducible exact LeO.refl _)
      | (with_reducible exact LeO.none _)
      | (with_reducible refine LeO.ite ?_ ?_)
      | (with_reducible refine LeO.bind ?_ (fun _ => ?_))
      | exact ih0 _ _ _
      | exact LeO.none _
      | refine LeO.ite ?_ ?_
      | refine LeO.bind ?_ (fun _ => ?_)
theorem wringerref7_SameInts.mono : ∀ a0 a1 k, LeO (wringerref7_SameInts.f k a0 a1) (wringerref7_SameInts.f (k + 1) a0 a1) := by
  intro a0 a1 k
  have ih0 := wringerref7_SameInts.mono_l k
  unfold wringerref7_SameInts.f
  repeat' first
      | (with_reducible exact ih0 _ _ _)
      | (with_reducible exact LeO.refl _)
      | (with_reducible exact LeO.none _)
      | (with_reducible refine LeO.ite ?_ ?_)
      | (with_reducible refine LeO.bind ?_ (fun _ => ?_))
      | exact ih0 _ _ _
      | exact LeO.none _
      | refine LeO.ite ?_ ?_
      | refine LeO.bind ?_ (fun _ => ?_)
set_option maxHeartbeats 8000000 in
set_option maxRecDepth 100000 in
theorem wringerref7_SameInts.calls (k : Nat) (A0 : Option Addr) (c0 : Nat) (l0 : List Int) (A1 : Option Addr) (c1 : Nat) (l1 : List Int) (r : Bool) (w : World) (hr0 : Kd.C (Kd.int .i64) w A0 l0.length l0) (hc0 : l0.length ≤ c0) (hr1 : Kd.C (Kd.int .i64) w A1 l1.length l1) (hc1 : l1.length ≤ c1) (h : wringerref7_SameInts.f k l0 l1 = some r) :
    Calls Try.prog 13 #[.slice A0 l0.length c0, .slice A1 l1.length c1] w fun e w' => e = .returned (.bool r) ∧ Drawn0 w w' := by
  have HR0 := Aside0.mk hr0
  have HC0 := Aside0.mk hc0
  clear hr0 hc0
  have HR1 := Aside0.mk hr1
  have HC1 := Aside0.mk hc1
  clear hr1 hc1
  have H : (if (l0.length : Int) = (l1.length : Int) then (wringerref7_SameInts.l0 k l0 l1 0) else (some false)) = some r := h
  clear h
  by_cases c3 : (l0.length : Int) = (l1.length : Int)
  · rw [if_pos c3] at H
    have c3b0 : ((l0.length : Int) == (l1.length : Int)) = true := beq_iff_eq.mpr c3
    have c3b1 : ((l0.length : Int) != (l1.length : Int)) = false := bne_eq_false_iff_eq.mpr c3
    have c3b2 : (l0.length == l1.length) = true := by first | simpa using c3 | (simp at c3 ⊢; omega)
    clear c3
    have H' := Aside0.mk H
    clear H
    go_enter Try.func13, Try.ntmps13
    go_wp2
    repeat (go_quiet (fail); try go_wp2)
    go_loopg [5] k (fun kq v5 w' => ∃ (x5_1 : Int), v5 = .int .i64 x5_1 ∧ Aside0 (wringerref7_SameInts.l0 kq l0 l1 x5_1 = some r) ∧ Aside0 (kq ≤ k) ∧ Drawn0 w w')
    case atStart => exact ⟨(0), (by first | rfl | (simp; done) | (simp [*]; done)), H', ⟨Nat.le_refl _⟩, by repeat (first | exact Drawn0.refl _ | apply Drawn0.step)⟩
    case round =>
      clear H'
      try clear c1
      try clear p2
      try clear c3
      try clear c3b0
      try clear c3b1
      try clear c3b2
      obtain ⟨x5_1, rfl, HA, HK1, ⟨m1, rfl⟩⟩ := hrel
      cases gk with
      | zero => exact absurd HA.out (by simp [wringerref7_SameInts.l0])
      | succ k1 =>
        have H := HA.out
        clear HA
        simp only [wringerref7_SameInts.l0] at H
        by_cases c4 : x5_1 < (l0.length : Int)
        · rw [if_pos c4] at H
          have c4b0 : decide (x5_1 < (l0.length : Int)) = true := decide_eq_true c4
          clear c4
          by_cases c5 : 0 ≤ x5_1
          · rw [if_pos c5] at H
            have c5b0 : decide (0 ≤ x5_1) = true := decide_eq_true c5
            clear c5
            by_cases c6 : x5_1 < (l1.length : Int)
            · rw [if_pos c6] at H
              have c6b0 : decide (x5_1 < (l1.length : Int)) = true := decide_eq_true c6
              clear c6
              by_cases c7 : (rd l0 x5_1) = (rd l1 x5_1)
              · rw [if_pos c7] at H
                have c7b0 : ((rd l0 x5_1) == (rd l1 x5_1)) = true := beq_iff_eq.mpr c7
                have c7b1 : ((rd l0 x5_1) != (rd l1 x5_1)) = false := bne_eq_false_iff_eq.mpr c7
                clear c7
                have H' := Aside0.mk H
                clear H
                have p143 : 0 ≤ (x5_1 : Int) := of_decide_eq_true (by first | (with_reducible assumption) | assumption)
                have q143 : x5_1 < (l0.length : Int) := of_decide_eq_true (by first | (with_reducible assumption) | assumption)
                obtain ⟨ad143, e143, hx143_0⟩ := Kd.at_int HR0.out x5_1 p143 q143
                cases e143
                replace p143 := eq_true p143
                replace q143 := eq_true q143
                have p144 : 0 ≤ (x5_1 : Int) := of_decide_eq_true (by first | (with_reducible assumption) | assumption)
                have q144 : x5_1 < (l1.length : Int) := of_decide_eq_true (by first | (with_reducible assumption) | assumption)
                obtain ⟨ad144, e144, hx144_0⟩ := Kd.at_int HR1.out x5_1 p144 q144
                cases e144
                replace p144 := eq_true p144
                replace q144 := eq_true q144
                go_wp2
                repeat (go_quiet (fail); try go_wp2)
                go_roundg k1
                case measure => have := HK1.out; omega
                case rel => exact ⟨(wrap64 (x5_1 + 1)), (by first | rfl | (simp; done) | (simp [*]; done)), H', ⟨by have := HK1.out; omega⟩, by repeat (first | exact Drawn0.refl _ | apply Drawn0.step)⟩
              · rw [if_neg c7] at H
                have c7b0 : ((rd l0 x5_1) == (rd l1 x5_1)) = false := beq_eq_false_iff_ne.mpr c7
                have c7b1 : ((rd l0 x5_1) != (rd l1 x5_1)) = true := bne_iff_ne.mpr c7
                obtain rfl := Option.some.inj H
                have p143 : 0 ≤ (x5_1 : Int) := of_decide_eq_true (by first | (with_reducible assumption) | assumption)
                have q143 : x5_1 < (l0.length : Int) := of_decide_eq_true (by first | (with_reducible assumption) | assumption)
                obtain ⟨ad143, e143, hx143_0⟩ := Kd.at_int HR0.out x5_1 p143 q143
                cases e143
                replace p143 := eq_true p143
                replace q143 := eq_true q143
                have p144 : 0 ≤ (x5_1 : Int) := of_decide_eq_true (by first | (with_reducible assumption) | assumption)
                have q144 : x5_1 < (l1.length : Int) := of_decide_eq_true (by first | (with_reducible assumption) | assumption)
                obtain ⟨ad144, e144, hx144_0⟩ := Kd.at_int HR1.out x5_1 p144 q144
                cases e144
                replace p144 := eq_true p144
                replace q144 := eq_true q144
                go_wp2
                repeat (go_quiet (fail); try go_wp2)
                go_ret
                exact ⟨by first | rfl | (simp; done) | (simp [*]; done), by repeat (first | exact Drawn0.refl _ | apply Drawn0.step)⟩
            · rw [if_neg c6] at H
              exact absurd H (by simp)
          · rw [if_neg c5] at H
            exact absurd H (by simp)
        · rw [if_neg c4] at H
          have c4b0 : decide (x5_1 < (l0.length : Int)) = false := decide_eq_false c4
          clear c4
          obtain rfl := Option.some.inj H
          go_wp2
          repeat (go_quiet (fail); try go_wp2)
          go_ret
          exact ⟨by first | rfl | (simp; done) | (simp [*]; done), by repeat (first | exact Drawn0.refl _ | apply Drawn0.step)⟩
  · rw [if_neg c3] at H
    have c3b0 : ((l0.length : Int) == (l1.length : Int)) = false := beq_eq_false_iff_ne.mpr c3
    have c3b1 : ((l0.length : Int) != (l1.length : Int)) = true := bne_iff_ne.mpr c3
    have c3b2 : (l0.length == l1.length) = false := by first | simpa using c3 | (simp at c3 ⊢; omega)
    obtain rfl := Option.some.inj H
    go_enter Try.func13, Try.ntmps13
    go_wp2
    repeat (go_quiet (fail); try go_wp2)
    go_ret
    exact ⟨by first | rfl | (simp; done) | (simp [*]; done), by repeat (first | exact Drawn0.refl _ | apply Drawn0.step)⟩

end Go.Proofs.Ytbldocbijihpgaa.PA

-- ---- PAx27
/- norm.Put: what the call answers, for numbers from nought on. Conditions: those, and a bound on how many. -/
namespace Go.Proofs.Ytbldocbijihpgaa.PA
open Go.RowKit Go.Proofs.YtbldocbijihpgaaW.PrintWords Go.Proofs.YtbldocbijihpgaaW.PrintLast Go.Proofs.YtbldocbijihpgaaW.PrintMore
set_option linter.unusedVariables false
set_option linter.unusedSimpArgs false

def norm_Put.f (l0 : List Int) : Option (ByteArray) := if (∀ x ∈ l0, 0 ≤ x ∧ x < 9223372036854775808) ∧ l0.length ≤ 100000 then some (Np.txt (Np.nputL l0)) else none
theorem norm_Put.calls (A0 : Option Addr) (c0 : Nat) (l0 : List Int) (r : ByteArray) (w : World) (hr0 : Kd.C (Kd.int .i64) w A0 l0.length l0) (hc0 : l0.length ≤ c0) (h : norm_Put.f l0 = some r) :
    Calls Try.prog 19 #[.slice A0 l0.length c0] w fun e w' => e = .returned (.string r) ∧ Below w.heap.size w w' := by
  unfold norm_Put.f at h
  split at h
  · rename_i hg
    cases h
    exact NormP.nput_calls A0 c0 l0 w hr0 hc0 hg.1 hg.2
  · cases h
end Go.Proofs.Ytbldocbijihpgaa.PA

-- ---- PAx28
/- norm.Get: what the call answers, for every text, place and log. Conditions: the text is not longer than a thousand million bytes. -/
namespace Go.Proofs.Ytbldocbijihpgaa.PA
open Go.RowKit Go.Proofs.YtbldocbijihpgaaW.PrintWords Go.Proofs.YtbldocbijihpgaaW.PrintLast Go.Proofs.YtbldocbijihpgaaW.PrintMore
set_option linter.unusedVariables false
set_option linter.unusedSimpArgs false

def norm_Get.f (a0 : ByteArray) (a1 : Int) (a2 : Int) : Option (List Int × Int × Int) := if a0.size ≤ 1000000000 then some (Np.getNE a0 a1 a2) else none
theorem norm_Get.calls (a0 : ByteArray) (a1 : Int) (a2 : Int) (r1 : List Int) (r2 : Int) (r3 : Int) (w : World) (h : norm_Get.f a0 a1 a2 = some (r1, r2, r3)) :
    Calls Try.prog 16 #[.string a0, .int .i64 a1, .int .i64 a2] w fun e w' => ∃ v0_ : Value, e = .returned (.tuple #[v0_, .int .i64 r2, .int .i64 r3]) ∧ Kd.R (Kd.int .i64) 3 w' w.heap.size (fun _ => True) v0_ r1 ∧ Below w.heap.size w w' := by
  unfold norm_Get.f at h
  split at h
  · rename_i hs
    have h := Option.some.inj h
    by_cases ha : a1 < 0 ∨ (a0.size : Int) < a1 ∨ ¬ (7 ≤ a2 ∧ a2 ≤ 12)
    · have e : Np.getNE a0 a1 a2 = ([], 0, 1) := by unfold Np.getNE; rw [if_pos ha]
      rw [e] at h
      cases h
      refine (NormG.nget_arg a0 a1 a2 w hs ha).mono ?_
      rintro e w' ⟨rfl, hb⟩
      exact ⟨_, rfl, Kd.R_nil _ _ _ _ _, hb⟩
    · obtain ⟨m, rfl⟩ := Int.eq_ofNat_of_zero_le (show 0 ≤ a1 by omega)
      obtain ⟨lg, rfl⟩ := Int.eq_ofNat_of_zero_le (show 0 ≤ a2 by omega)
      refine (NormG.nget_calls a0 m lg w hs (by omega) (by omega) (by omega) (r1, r2, r3) h.symm).mono ?_
      rintro e w' ⟨v, rfl, ho, hnew, hb⟩
      exact ⟨v, rfl, Own.R_of_owns ho hnew, hb⟩
  · cases h
end Go.Proofs.Ytbldocbijihpgaa.PA

-- ---- PAx31

namespace Go.Proofs.Ytbldocbijihpgaa.PA
open Go.RowKit Go.Proofs.YtbldocbijihpgaaW.PrintWords Go.Proofs.YtbldocbijihpgaaW.PrintLast Go.Proofs.YtbldocbijihpgaaW.PrintMore
attribute [local go_sem] max2_int min2_int max_two min_two max_three min_three max_four min_four   -- for this text's walks alone
set_option linter.unusedVariables false
set_option linter.unusedSimpArgs false

/-! ### wringerref7_PutNorm: function 20 -/
mutual
def wringerref7_PutNorm.l0 : Nat → List Int → ByteArray → Int → Option (ByteArray)
  | 0, _, _, _ => none
  | k + 1, x0, x3, x4 => if x4 < (x0.length : Int) then (if 0 ≤ x4 then ((wringerref1_PutVint.f k (IntKind.u64.wrap (rd x0 x4))).bind fun t171 => (if x3.size + t171.size ≤ 9223372036854775807 then (if (rd x0 x4) = 0 then (wringerref7_PutNorm.l1 k x0 (x3 ++ t171) x4 0) else (wringerref7_PutNorm.l0 k x0 (x3 ++ t171) (wrap64 (x4 + 1)))) else (none))) else (none)) else (some x3)
def wringerref7_PutNorm.l1 : Nat → List Int → ByteArray → Int → Int → Option (ByteArray)
  | 0, _, _, _, _ => none
  | k + 1, x0, x3, x4, x5 => if x4 < (x0.length : Int) then (if 0 ≤ x4 then (if (rd x0 x4) = 0 then (wringerref7_PutNorm.l1 k x0 x3 (wrap64 (x4 + 1)) (wrap64 (x5 + 1))) else ((wringerref1_PutVint.f k (IntKind.u64.wrap (wrap64 (x5 - 1)))).bind fun t174 => (if x3.size + t174.size ≤ 9223372036854775807 then (wringerref7_PutNorm.l0 k x0 (x3 ++ t174) x4) else (none)))) else (none)) else ((wringerref1_PutVint.f k (IntKind.u64.wrap (wrap64 (x5 - 1)))).bind fun t175 => (if x3.size + t175.size ≤ 9223372036854775807 then (wringerref7_PutNorm.l0 k x0 (x3 ++ t175) x4) else (none)))
end
def wringerref7_PutNorm.f (k : Nat) (l0 : List Int) : Option (ByteArray) := wringerref7_PutNorm.l0 k l0 (⟨#[]⟩ : ByteArray) 0
theorem wringerref7_PutNorm.mono_l : ∀ k, (∀ y0 y1 y2, LeO (wringerref7_PutNorm.l0 k y0 y1 y2) (wringerref7_PutNorm.l0 (k + 1) y0 y1 y2)) ∧ (∀ y0 y1 y2 y3, LeO (wringerref7_PutNorm.l1 k y0 y1 y2 y3) (wringerref7_PutNorm.l1 (k + 1) y0 y1 y2 y3))
  | 0 => ⟨fun _ _ _ r h => by simp [wringerref7_PutNorm.l0] at h, fun _ _ _ _ r h => by simp [wringerref7_PutNorm.l1] at h⟩
  | k + 1 => by
    obtain ⟨ih0, ih1⟩ := wringerref7_PutNorm.mono_l k
    refine ⟨?_, ?_⟩
    · intro y0 y1 y2
      unfold wringerref7_PutNorm.l0
      repeat' first
      | (with_reducible exact ih0 _ _ _)
      | (with_reducible exact ih1 _ _ _ _)
      | (with_reducible exact wringerref1_PutVint.mono _ _)
      | (with_reducible exact LeO.refl _)
      | (with_reducible exact LeO.none _)
      | (with_reducible refine LeO.ite ?_ ?_)
      | (with_reducible refine LeO.bind ?_ (fun _ => ?_))
      | exact ih0 _ _ _
      | exact ih1 _ _ _ _
      | exact wringerref1_PutVint.mono _ _
      | exact LeO.none _
      | refine LeO.ite ?_ ?_
      | refine LeO.bind ?_ (fun _ => ?_)
    · intro y0 y1 y2 y3
      unfold wringerref7_PutNorm.l1
      repeat' first
      | (with_reducible exact ih0 _ _ _)
      | (with_reducible exact ih1 _ _ _ _)
      | (with_reducible exact wringerref1_PutVint.mono _ _)
      | (with_reducible exact LeO.refl _)
      | (with_reducible exact LeO.none _)
      | (with_reducible refine LeO.ite ?_ ?_)
      | (with_reducible refine LeO.bind ?_ (fun _ => ?_))
      | exact ih0 _ _ _
      | exact ih1 _ _ _ _
      | exact wringerref1_PutVint.mono _ _
      | exact LeO.none _
      | refine LeO.ite ?_ ?_
      | refine LeO.bind ?_ (fun _ => ?_)
theorem wringerref7_PutNorm.mono : ∀ a0 k, LeO (wringerref7_PutNorm.f k a0) (wringerref7_PutNorm.f (k + 1) a0) := by
  intro a0 k
  obtain ⟨ih0, ih1⟩ := wringerref7_PutNorm.mono_l k
  unfold wringerref7_PutNorm.f
  repeat' first
      | (with_reducible exact ih0 _ _ _)
      | (with_reducible exact ih1 _ _ _ _)
      | (with_reducible exact wringerref1_PutVint.mono _ _)
      | (with_reducible exact LeO.refl _)
      | (with_reducible exact LeO.none _)
      | (with_reducible refine LeO.ite ?_ ?_)
      | (with_reducible refine LeO.bind ?_ (fun _ => ?_))
      | exact ih0 _ _ _
      | exact ih1 _ _ _ _
      | exact wringerref1_PutVint.mono _ _
      | exact LeO.none _
      | refine LeO.ite ?_ ?_
      | refine LeO.bind ?_ (fun _ => ?_)
set_option maxHeartbeats 8000000 in
set_option maxRecDepth 100000 in
theorem wringerref7_PutNorm.calls (k : Nat) (A0 : Option Addr) (c0 : Nat) (l0 : List Int) (r : ByteArray) (w : World) (hr0 : Kd.C (Kd.int .i64) w A0 l0.length l0) (hc0 : l0.length ≤ c0) (h : wringerref7_PutNorm.f k l0 = some r) :
    Calls Try.prog 20 #[.slice A0 l0.length c0] w fun e w' => e = .returned (.string r) ∧ Below w.heap.size w w' := by
  have HR0 := Aside0.mk hr0
  have HC0 := Aside0.mk hc0
  clear hr0 hc0
  have HB := Aside0.mk (Below.refl w.heap.size w)
  have H : (wringerref7_PutNorm.l0 k l0 (⟨#[]⟩ : ByteArray) 0) = some r := h
  clear h
  have H' := Aside0.mk H
  clear H
  go_enter Try.func20, Try.ntmps20
  go_wp2
  go_loopg [3, 4] k (fun kq v3 v4 w' => ∃ (x3_1 : ByteArray) (x4_1 : Int), v3 = .string x3_1 ∧ v4 = .int .i64 x4_1 ∧ Aside0 (wringerref7_PutNorm.l0 kq l0 x3_1 x4_1 = some r) ∧ Aside0 (kq ≤ k) ∧ Aside0 (Below w.heap.size w w'))
  case atStart => exact ⟨((⟨#[]⟩ : ByteArray)), (0), (by first | rfl | (simp; done) | (simp [*]; done)), (by first | rfl | (simp; done) | (simp [*]; done)), H', ⟨Nat.le_refl _⟩, ⟨by repeat (first | (with_reducible first | exact HB.out | apply below_alloc | apply pw_below_drewN | apply below_drew1) | exact HB.out)⟩⟩
  case round =>
    clear H'
    obtain ⟨x3_1, x4_1, rfl, rfl, HA, HK1, HB⟩ := hrel
    cases gk with
    | zero => exact absurd HA.out (by simp [wringerref7_PutNorm.l0])
    | succ k1 =>
      have H := HA.out
      clear HA
      simp only [wringerref7_PutNorm.l0] at H
      by_cases c2 : x4_1 < (l0.length : Int)
      · rw [if_pos c2] at H
        have c2b0 : decide (x4_1 < (l0.length : Int)) = true := decide_eq_true c2
        clear c2
        by_cases c3 : 0 ≤ x4_1
        · rw [if_pos c3] at H
          have c3b0 : decide (0 ≤ x4_1) = true := decide_eq_true c3
          clear c3
          replace H := Option.bind_eq_some_iff.mp H
          obtain ⟨t171, A40, H⟩ := H
          replace H : (if x3_1.size + t171.size ≤ 9223372036854775807 then (if (rd l0 x4_1) = 0 then (wringerref7_PutNorm.l1 k1 l0 (x3_1 ++ t171) x4_1 0) else (wringerref7_PutNorm.l0 k1 l0 (x3_1 ++ t171) (wrap64 (x4_1 + 1)))) else (none)) = some r := H
          have A4 := Aside0.mk A40
          clear A40
          by_cases c5 : x3_1.size + t171.size ≤ 9223372036854775807
          · rw [if_pos c5] at H
            have c5b0 := eq_true c5
            have c5b1 : decide (x3_1.size + t171.size ≤ 9223372036854775807) = true := decide_eq_true c5
            try have c5b2 : (9223372036854775807 < x3_1.size + t171.size) = False := eq_false (Nat.not_lt.2 c5)
            have c5z1 := c5b1
            have c5z2 := c5b2
            try simp only [ByteArray.size_append] at c5z1
            try simp only [ByteArray.size_append] at c5z2
            by_cases c6 : (rd l0 x4_1) = 0
            · rw [if_pos c6] at H
              have c6b0 : ((rd l0 x4_1) == 0) = true := beq_iff_eq.mpr c6
              have c6b1 : ((rd l0 x4_1) != 0) = false := bne_eq_false_iff_eq.mpr c6
              clear c6
              have H' := Aside0.mk H
              clear H
              have p170 : 0 ≤ (x4_1 : Int) := of_decide_eq_true (by first | (with_reducible assumption) | assumption)
              have q170 : x4_1 < (l0.length : Int) := of_decide_eq_true (by first | (with_reducible assumption) | assumption)
              obtain ⟨ad170, e170, hx170_0⟩ := Kd.at_int HR0.out x4_1 p170 q170
              cases e170
              replace hx170_0 := (HB.out.cell (World.block_lt_of_cell? w _ hx170_0)).trans hx170_0
              replace p170 := eq_true p170
              replace q170 := eq_true q170
              go_wp2_with (first | ((with_reducible refine gate_callee (f := 36) rfl ?_); refine goesL_ (some 16) rfl rfl Try.func36 (by kernel_rfl) rfl #[.int .u64 (IntKind.u64.wrap (rd l0 x4_1))] rfl (by (try simp only [List.map_toArray, List.map_cons, List.map_nil]); first | done | rfl | (simp only [List.length_drop, List.length_take]; rfl)) ?_; (with_reducible refine (wringerref1_PutVint.calls k1 (IntKind.u64.wrap (rd l0 x4_1)) t171 _ A4.out).mono ?_); rintro e w7 ⟨rfl, hb⟩; refine ⟨_, rfl, ?_⟩; have n0_ := Aside0.mk (below_step (by repeat (first | (with_reducible first | exact HB.out | apply below_alloc | apply pw_below_drewN | apply below_drew1) | exact HB.out)) hb); clear HB; have HB := n0_; clear n0_; (try clear hb); (try clear hb2); (try clear hk); (try clear hi); have p172 : 0 ≤ (x4_1 : Int) := of_decide_eq_true (by first | (with_reducible assumption) | assumption); have q172 : x4_1 < (l0.length : Int) := of_decide_eq_true (by first | (with_reducible assumption) | assumption); obtain ⟨ad172, e172, hx172_0⟩ := Kd.at_int HR0.out x4_1 p172 q172; obtain rfl : ad170 = ad172 := (by injection e172); replace hx172_0 := (HB.out.cell (World.block_lt_of_cell? w _ hx172_0)).trans hx172_0; replace p172 := eq_true p172; replace q172 := eq_true q172))
              go_loopg [4, 5] k1 (fun kq v4 v5 w' => ∃ (x4_2 : Int) (x5_2 : Int), v4 = .int .i64 x4_2 ∧ v5 = .int .i64 x5_2 ∧ Aside0 (wringerref7_PutNorm.l1 kq l0 (x3_1 ++ t171) x4_2 x5_2 = some r) ∧ Aside0 (kq ≤ k1) ∧ Aside0 (Below w.heap.size w w'))
              case atStart => exact ⟨(x4_1), (0), (by first | rfl | (simp; done) | (simp [*]; done)), (by first | rfl | (simp; done) | (simp [*]; done)), H', ⟨Nat.le_refl _⟩, ⟨by repeat (first | (with_reducible first | exact HB.out | apply below_alloc | apply pw_below_drewN | apply below_drew1) | exact HB.out)⟩⟩
              case round =>
                clear H'
                try clear p1
                try clear q1
                try clear hx1
                try clear c2
                try clear c2b0
                try clear p2
                try clear c3
                try clear c3b0
                try clear c5
                try clear c5b0
                try clear c5b1
                try clear c5b2
                try clear c6
                try clear c6b0
                try clear c6b1
                try clear p6
                try clear hx170_0
                try clear hx172_0
                try clear p170
                try clear p172
                try clear q170
                try clear q172
                obtain ⟨x4_2, x5_2, rfl, rfl, HA, HK2, HB⟩ := hrel
                cases gk with
                | zero => exact absurd HA.out (by simp [wringerref7_PutNorm.l1])
                | succ k2 =>
                  have H := HA.out
                  clear HA
                  simp only [wringerref7_PutNorm.l1] at H
                  by_cases c8 : x4_2 < (l0.length : Int)
                  · rw [if_pos c8] at H
                    have c8b0 : decide (x4_2 < (l0.length : Int)) = true := decide_eq_true c8
                    clear c8
                    by_cases c9 : 0 ≤ x4_2
                    · rw [if_pos c9] at H
                      have c9b0 : decide (0 ≤ x4_2) = true := decide_eq_true c9
                      clear c9
                      by_cases c10 : (rd l0 x4_2) = 0
                      · rw [if_pos c10] at H
                        have c10b0 : ((rd l0 x4_2) == 0) = true := beq_iff_eq.mpr c10
                        have c10b1 : ((rd l0 x4_2) != 0) = false := bne_eq_false_iff_eq.mpr c10
                        clear c10
                        have H' := Aside0.mk H
                        clear H
                        have p173 : 0 ≤ (x4_2 : Int) := of_decide_eq_true (by first | (with_reducible assumption) | assumption)
                        have q173 : x4_2 < (l0.length : Int) := of_decide_eq_true (by first | (with_reducible assumption) | assumption)
                        obtain ⟨ad173, e173, hx173_0⟩ := Kd.at_int HR0.out x4_2 p173 q173
                        obtain rfl : ad170 = ad173 := (by injection e173)
                        replace hx173_0 := (HB.out.cell (World.block_lt_of_cell? w _ hx173_0)).trans hx173_0
                        replace p173 := eq_true p173
                        replace q173 := eq_true q173
                        go_wp2
                        go_roundg k2
                        case measure => have := HK1.out; have := HK2.out; omega
                        case rel => exact ⟨(wrap64 (x4_2 + 1)), (wrap64 (x5_2 + 1)), (by first | rfl | (simp; done) | (simp [*]; done)), (by first | rfl | (simp; done) | (simp [*]; done)), H', ⟨by have := HK1.out; have := HK2.out; omega⟩, ⟨by repeat (first | (with_reducible first | exact HB.out | apply below_alloc | apply pw_below_drewN | apply below_drew1) | exact HB.out)⟩⟩
                      · rw [if_neg c10] at H
                        have c10b0 : ((rd l0 x4_2) == 0) = false := beq_eq_false_iff_ne.mpr c10
                        have c10b1 : ((rd l0 x4_2) != 0) = true := bne_iff_ne.mpr c10
                        replace H := Option.bind_eq_some_iff.mp H
                        obtain ⟨t174, A110, H⟩ := H
                        replace H : (if (x3_1 ++ t171).size + t174.size ≤ 9223372036854775807 then (wringerref7_PutNorm.l0 k2 l0 ((x3_1 ++ t171) ++ t174) x4_2) else (none)) = some r := H
                        have A11 := Aside0.mk A110
                        clear A110
                        by_cases c12 : (x3_1 ++ t171).size + t174.size ≤ 9223372036854775807
                        · rw [if_pos c12] at H
                          have c12b0 := eq_true c12
                          have c12b1 : decide ((x3_1 ++ t171).size + t174.size ≤ 9223372036854775807) = true := decide_eq_true c12
                          try have c12b2 : (9223372036854775807 < (x3_1 ++ t171).size + t174.size) = False := eq_false (Nat.not_lt.2 c12)
                          have c12z1 := c12b1
                          have c12z2 := c12b2
                          try simp only [ByteArray.size_append] at c12z1
                          try simp only [ByteArray.size_append] at c12z2
                          have H' := Aside0.mk H
                          clear H
                          have p173 : 0 ≤ (x4_2 : Int) := of_decide_eq_true (by first | (with_reducible assumption) | assumption)
                          have q173 : x4_2 < (l0.length : Int) := of_decide_eq_true (by first | (with_reducible assumption) | assumption)
                          obtain ⟨ad173, e173, hx173_0⟩ := Kd.at_int HR0.out x4_2 p173 q173
                          obtain rfl : ad170 = ad173 := (by injection e173)
                          replace hx173_0 := (HB.out.cell (World.block_lt_of_cell? w _ hx173_0)).trans hx173_0
                          replace p173 := eq_true p173
                          replace q173 := eq_true q173
                          go_wp2_with (first | ((with_reducible refine gate_callee (f := 36) rfl ?_); refine goesL_ (some 44) rfl rfl Try.func36 (by kernel_rfl) rfl #[.int .u64 (IntKind.u64.wrap (wrap64 (x5_2 - 1)))] rfl (by (try simp only [List.map_toArray, List.map_cons, List.map_nil]); first | done | rfl | (simp only [List.length_drop, List.length_take]; rfl)) ?_; (with_reducible refine (wringerref1_PutVint.calls k2 (IntKind.u64.wrap (wrap64 (x5_2 - 1))) t174 _ A11.out).mono ?_); rintro e w13 ⟨rfl, hb⟩; refine ⟨_, rfl, ?_⟩; have n0_ := Aside0.mk (below_step (by repeat (first | (with_reducible first | exact HB.out | apply below_alloc | apply pw_below_drewN | apply below_drew1) | exact HB.out)) hb); clear HB; have HB := n0_; clear n0_; (try clear hb); (try clear hb2); (try clear hk); (try clear hi)))
                          go_roundg k2
                          case measure => have := HK1.out; have := HK2.out; omega
                          case rel => exact ⟨((x3_1 ++ t171) ++ t174), (x4_2), (by first | rfl | (simp; done) | (simp [*]; done)), (by first | rfl | (simp; done) | (simp [*]; done)), H', ⟨by have := HK1.out; have := HK2.out; omega⟩, ⟨by repeat (first | (with_reducible first | exact HB.out | apply below_alloc | apply pw_below_drewN | apply below_drew1) | exact HB.out)⟩⟩
                        · rw [if_neg c12] at H
                          exact absurd H (by simp)
                    · rw [if_neg c9] at H
                      exact absurd H (by simp)
                  · rw [if_neg c8] at H
                    have c8b0 : decide (x4_2 < (l0.length : Int)) = false := decide_eq_false c8
                    clear c8
                    replace H := Option.bind_eq_some_iff.mp H
                    obtain ⟨t175, A140, H⟩ := H
                    replace H : (if (x3_1 ++ t171).size + t175.size ≤ 9223372036854775807 then (wringerref7_PutNorm.l0 k2 l0 ((x3_1 ++ t171) ++ t175) x4_2) else (none)) = some r := H
                    have A14 := Aside0.mk A140
                    clear A140
                    by_cases c15 : (x3_1 ++ t171).size + t175.size ≤ 9223372036854775807
                    · rw [if_pos c15] at H
                      have c15b0 := eq_true c15
                      have c15b1 : decide ((x3_1 ++ t171).size + t175.size ≤ 9223372036854775807) = true := decide_eq_true c15
                      try have c15b2 : (9223372036854775807 < (x3_1 ++ t171).size + t175.size) = False := eq_false (Nat.not_lt.2 c15)
                      have c15z1 := c15b1
                      have c15z2 := c15b2
                      try simp only [ByteArray.size_append] at c15z1
                      try simp only [ByteArray.size_append] at c15z2
                      have H' := Aside0.mk H
                      clear H
                      go_wp2_with (first | ((with_reducible refine gate_callee (f := 36) rfl ?_); refine goesL_ (some 44) rfl rfl Try.func36 (by kernel_rfl) rfl #[.int .u64 (IntKind.u64.wrap (wrap64 (x5_2 - 1)))] rfl (by (try simp only [List.map_toArray, List.map_cons, List.map_nil]); first | done | rfl | (simp only [List.length_drop, List.length_take]; rfl)) ?_; (with_reducible refine (wringerref1_PutVint.calls k2 (IntKind.u64.wrap (wrap64 (x5_2 - 1))) t175 _ A14.out).mono ?_); rintro e w16 ⟨rfl, hb⟩; refine ⟨_, rfl, ?_⟩; have n0_ := Aside0.mk (below_step (by repeat (first | (with_reducible first | exact HB.out | apply below_alloc | apply pw_below_drewN | apply below_drew1) | exact HB.out)) hb); clear HB; have HB := n0_; clear n0_; (try clear hb); (try clear hb2); (try clear hk); (try clear hi)))
                      go_roundg k2
                      case measure => have := HK1.out; have := HK2.out; omega
                      case rel => exact ⟨((x3_1 ++ t171) ++ t175), (x4_2), (by first | rfl | (simp; done) | (simp [*]; done)), (by first | rfl | (simp; done) | (simp [*]; done)), H', ⟨by have := HK1.out; have := HK2.out; omega⟩, ⟨by repeat (first | (with_reducible first | exact HB.out | apply below_alloc | apply pw_below_drewN | apply below_drew1) | exact HB.out)⟩⟩
                    · rw [if_neg c15] at H
                      exact absurd H (by simp)
            · rw [if_neg c6] at H
              have c6b0 : ((rd l0 x4_1) == 0) = false := beq_eq_false_iff_ne.mpr c6
              have c6b1 : ((rd l0 x4_1) != 0) = true := bne_iff_ne.mpr c6
              have H' := Aside0.mk H
              clear H
              have p170 : 0 ≤ (x4_1 : Int) := of_decide_eq_true (by first | (with_reducible assumption) | assumption)
              have q170 : x4_1 < (l0.length : Int) := of_decide_eq_true (by first | (with_reducible assumption) | assumption)
              obtain ⟨ad170, e170, hx170_0⟩ := Kd.at_int HR0.out x4_1 p170 q170
              cases e170
              replace hx170_0 := (HB.out.cell (World.block_lt_of_cell? w _ hx170_0)).trans hx170_0
              replace p170 := eq_true p170
              replace q170 := eq_true q170
              go_wp2_with (first | ((with_reducible refine gate_callee (f := 36) rfl ?_); refine goesL_ (some 16) rfl rfl Try.func36 (by kernel_rfl) rfl #[.int .u64 (IntKind.u64.wrap (rd l0 x4_1))] rfl (by (try simp only [List.map_toArray, List.map_cons, List.map_nil]); first | done | rfl | (simp only [List.length_drop, List.length_take]; rfl)) ?_; (with_reducible refine (wringerref1_PutVint.calls k1 (IntKind.u64.wrap (rd l0 x4_1)) t171 _ A4.out).mono ?_); rintro e w17 ⟨rfl, hb⟩; refine ⟨_, rfl, ?_⟩; have n0_ := Aside0.mk (below_step (by repeat (first | (with_reducible first | exact HB.out | apply below_alloc | apply pw_below_drewN | apply below_drew1) | exact HB.out)) hb); clear HB; have HB := n0_; clear n0_; (try clear hb); (try clear hb2); (try clear hk); (try clear hi); have p172 : 0 ≤ (x4_1 : Int) := of_decide_eq_true (by first | (with_reducible assumption) | assumption); have q172 : x4_1 < (l0.length : Int) := of_decide_eq_true (by first | (with_reducible assumption) | assumption); obtain ⟨ad172, e172, hx172_0⟩ := Kd.at_int HR0.out x4_1 p172 q172; obtain rfl : ad170 = ad172 := (by injection e172); replace hx172_0 := (HB.out.cell (World.block_lt_of_cell? w _ hx172_0)).trans hx172_0; replace p172 := eq_true p172; replace q172 := eq_true q172))
              go_roundg k1
              case measure => have := HK1.out; omega
              case rel => exact ⟨(x3_1 ++ t171), (wrap64 (x4_1 + 1)), (by first | rfl | (simp; done) | (simp [*]; done)), (by first | rfl | (simp; done) | (simp [*]; done)), H', ⟨by have := HK1.out; omega⟩, ⟨by repeat (first | (with_reducible first | exact HB.out | apply below_alloc | apply pw_below_drewN | apply below_drew1) | exact HB.out)⟩⟩
          · rw [if_neg c5] at H
            exact absurd H (by simp)
        · rw [if_neg c3] at H
          exact absurd H (by simp)
      · rw [if_neg c2] at H
        have c2b0 : decide (x4_1 < (l0.length : Int)) = false := decide_eq_false c2
        clear c2
        obtain rfl := Option.some.inj H
        go_wp2
        go_ret
        exact ⟨by first | rfl | (simp [errW_none, errW_some] <;> rfl) | (simp [*, errW_none, errW_some] <;> rfl), by repeat (first | (with_reducible first | exact HB.out | apply below_alloc | apply pw_below_drewN | apply below_drew1) | exact HB.out)⟩

end Go.Proofs.Ytbldocbijihpgaa.PA

-- ---- PAx33

namespace Go.Proofs.Ytbldocbijihpgaa.PA
open Go.RowKit Go.Proofs.YtbldocbijihpgaaW.PrintWords Go.Proofs.YtbldocbijihpgaaW.PrintLast Go.Proofs.YtbldocbijihpgaaW.PrintMore
attribute [local go_sem] max2_int min2_int max_two min_two max_three min_three max_four min_four   -- for this text's walks alone
set_option linter.unusedVariables false
set_option linter.unusedSimpArgs false

/-! ### wringerref7_GetNorm: function 17 -/
mutual
def wringerref7_GetNorm.j0 : Nat → ByteArray → Int → Int → Bool → Option (List Int × Int × Int)
  | 0, _, _, _, _ => none
  | k + 1, x0, x1, x2, x23 => if x23 = true then (some (([] : List Int), 0, 1)) else (wringerref7_GetNorm.l0 k x0 x1 x2 ([] : List Int) x1)
def wringerref7_GetNorm.l0 : Nat → ByteArray → Int → Int → List Int → Int → Option (List Int × Int × Int)
  | 0, _, _, _, _, _ => none
  | k + 1, x0, x1, x2, x7, x8 => if (x7.length : Int) < 65 then ((wringerref1_GetVint.f k x0 x8).bind fun bt180 => (if bt180.2.2 = 0 then (if bt180.1 > 0 then (if x7.length < 17592186044416 then (wringerref7_GetNorm.l0 k x0 x1 x2 (x7 ++ [wrap64 (mn bt180.1 1048576)]) bt180.2.1) else (none)) else ((wringerref1_GetVint.f k x0 bt180.2.1).bind fun bt187 => (if bt187.2.2 = 0 then (if bt187.1 ≥ 65 then (some (([] : List Int), 0, 3)) else (if 0 ≤ (IntKind.u64.wrap (bt187.1 + 1)) then (if x7.length + (IntKind.u64.wrap (bt187.1 + 1) : Int).toNat < 17592186044416 then (wringerref7_GetNorm.l0 k x0 x1 x2 (x7 ++ List.replicate (IntKind.u64.wrap (bt187.1 + 1) : Int).toNat 0) bt187.2.1) else (none)) else (none))) else (some (([] : List Int), 0, bt187.2.2))))) else (some (([] : List Int), 0, bt180.2.2)))) else ((wringerref7_MayNorm.f k x7 x2).bind fun t194 => (if t194 = true then ((wringerref7_PutNorm.f k x7).bind fun t195 => (if 0 ≤ x1 then (if x1 ≤ x8 then (if x8 ≤ (x0.size : Int) then (if t195.toList = (x0.extract (x1 : Int).toNat (x8 : Int).toNat).toList then (some (x7, x8, 0)) else (some (([] : List Int), 0, 3))) else (none)) else (none)) else (none))) else (some (([] : List Int), 0, 3))))
end
def wringerref7_GetNorm.f (k : Nat) (a0 : ByteArray) (a1 : Int) (a2 : Int) : Option (List Int × Int × Int) := if a1 < 0 then (wringerref7_GetNorm.j0 k a0 a1 a2 true) else (if a1 > (a0.size : Int) then (wringerref7_GetNorm.j0 k a0 a1 a2 true) else ((wringerref7_isLog.f a2).bind fun t179 => (wringerref7_GetNorm.j0 k a0 a1 a2 (!t179))))
theorem wringerref7_GetNorm.mono_l : ∀ k, (∀ y0 y1 y2 y3, LeO (wringerref7_GetNorm.j0 k y0 y1 y2 y3) (wringerref7_GetNorm.j0 (k + 1) y0 y1 y2 y3)) ∧ (∀ y0 y1 y2 y3 y4, LeO (wringerref7_GetNorm.l0 k y0 y1 y2 y3 y4) (wringerref7_GetNorm.l0 (k + 1) y0 y1 y2 y3 y4))
  | 0 => ⟨fun _ _ _ _ r h => by simp [wringerref7_GetNorm.j0] at h, fun _ _ _ _ _ r h => by simp [wringerref7_GetNorm.l0] at h⟩
  | k + 1 => by
    obtain ⟨ih0, ih1⟩ := wringerref7_GetNorm.mono_l k
    refine ⟨?_, ?_⟩
    · intro y0 y1 y2 y3
      unfold wringerref7_GetNorm.j0
      repeat' first
      | (with_reducible exact ih0 _ _ _ _)
      | (with_reducible exact ih1 _ _ _ _ _)
      | (with_reducible exact wringerref1_GetVint.mono _ _ _)
      | (with_reducible exact wringerref7_MayNorm.mono _ _ _)
      | (with_reducible exact wringerref7_PutNorm.mono _ _)
      | (with_reducible exact LeO.refl _)
      | (with_reducible exact LeO.none _)
      | (with_reducible refine LeO.ite ?_ ?_)
      | (with_reducible refine LeO.bind ?_ (fun _ => ?_))
      | exact ih0 _ _ _ _
      | exact ih1 _ _ _ _ _
      | exact wringerref1_GetVint.mono _ _ _
      | exact wringerref7_MayNorm.mono _ _ _
      | exact wringerref7_PutNorm.mono _ _
      | exact LeO.none _
      | refine LeO.ite ?_ ?_
      | refine LeO.bind ?_ (fun _ => ?_)
    · intro y0 y1 y2 y3 y4
      unfold wringerref7_GetNorm.l0
      repeat' first
      | (with_reducible exact ih0 _ _ _ _)
      | (with_reducible exact ih1 _ _ _ _ _)
      | (with_reducible exact wringerref1_GetVint.mono _ _ _)
      | (with_reducible exact wringerref7_MayNorm.mono _ _ _)
      | (with_reducible exact wringerref7_PutNorm.mono _ _)
      | (with_reducible exact LeO.refl _)
      | (with_reducible exact LeO.none _)
      | (with_reducible refine LeO.ite ?_ ?_)
      | (with_reducible refine LeO.bind ?_ (fun _ => ?_))
      | exact ih0 _ _ _ _
      | exact ih1 _ _ _ _ _
      | exact wringerref1_GetVint.mono _ _ _
      | exact wringerref7_MayNorm.mono _ _ _
      | exact wringerref7_PutNorm.mono _ _
      | exact LeO.none _
      | refine LeO.ite ?_ ?_
      | refine LeO.bind ?_ (fun _ => ?_)
theorem wringerref7_GetNorm.mono : ∀ a0 a1 a2 k, LeO (wringerref7_GetNorm.f k a0 a1 a2) (wringerref7_GetNorm.f (k + 1) a0 a1 a2) := by
  intro a0 a1 a2 k
  obtain ⟨ih0, ih1⟩ := wringerref7_GetNorm.mono_l k
  unfold wringerref7_GetNorm.f
  repeat' first
      | (with_reducible exact ih0 _ _ _ _)
      | (with_reducible exact ih1 _ _ _ _ _)
      | (with_reducible exact wringerref1_GetVint.mono _ _ _)
      | (with_reducible exact wringerref7_MayNorm.mono _ _ _)
      | (with_reducible exact wringerref7_PutNorm.mono _ _)
      | (with_reducible exact LeO.refl _)
      | (with_reducible exact LeO.none _)
      | (with_reducible refine LeO.ite ?_ ?_)
      | (with_reducible refine LeO.bind ?_ (fun _ => ?_))
      | exact ih0 _ _ _ _
      | exact ih1 _ _ _ _ _
      | exact wringerref1_GetVint.mono _ _ _
      | exact wringerref7_MayNorm.mono _ _ _
      | exact wringerref7_PutNorm.mono _ _
      | exact LeO.none _
      | refine LeO.ite ?_ ?_
      | refine LeO.bind ?_ (fun _ => ?_)
def wringerref7_GetNorm.T19 : Bool × List (List Nat × List Nat) := (true, [([], []), ([], []), ([0, 1], [0, 1]), ([2], [2]), ([3, 2], [3]), ([4], [4]), ([5, 4, 4], [4, 5]), ([4], [4]), ([4], [4]), ([4], [4]), ([7, 8, 9, 4], [4, 7, 8, 9]), ([6, 10, 4], [4, 6, 10]), ([4, 11], [4, 11])])
def wringerref7_GetNorm.B19 : List Nat := [0, 0, 3, 7, 15, 31, 63, 31, 31, 31, 927, 2047, 4095]
theorem wringerref7_GetNorm.tab19 : rtab .any (opsOf Try.f17 19) = wringerref7_GetNorm.T19 := by kernel_rfl
theorem wringerref7_GetNorm.bits19 : waitsOk wringerref7_GetNorm.T19.2 wringerref7_GetNorm.B19 = true := by kernel_rfl
set_option maxHeartbeats 8000000 in
set_option maxRecDepth 100000 in
theorem wringerref7_GetNorm.calls (k : Nat) (a0 : ByteArray) (a1 : Int) (a2 : Int) (r1 : List Int) (r2 : Int) (r3 : Int) (w : World) (h : wringerref7_GetNorm.f k a0 a1 a2 = some (r1, r2, r3)) :
    Calls Try.prog 17 #[.string a0, .int .i64 a1, .int .i64 a2] w fun e w' => ∃ v0_ : Value, e = .returned (.agg #[v0_, .int .i64 r2, .int .i64 r3]) ∧ Kd.R (Kd.int .i64) 3 w' w.heap.size (fun _ => True) v0_ r1 ∧ Below w.heap.size w w' := by
  have hu41 := Try.underlying41
  have hu61 := Try.underlying61
  have HB := Aside0.mk (Below.refl w.heap.size w)
  have H : (if a1 < 0 then (wringerref7_GetNorm.j0 k a0 a1 a2 true) else (if a1 > (a0.size : Int) then (wringerref7_GetNorm.j0 k a0 a1 a2 true) else ((wringerref7_isLog.f a2).bind fun t179 => (wringerref7_GetNorm.j0 k a0 a1 a2 (!t179))))) = some (r1, r2, r3) := h
  clear h
  have HC4 := Aside0.mk H
  clear H
  go_enter Try.func17, Try.ntmps17
  go_upto_region 1 with (first | ((with_reducible refine gate_dst (N := 6) rfl ?_); (try (refine gate_guard (by rfl) ?_; dsimp only)); refine box_event ?hg (N := 6) ?hd (cs := #[.slice none 0 0, .int .i64 0, .int .i64 0]) (t := 41) ?hr ?_; (case hd => rfl); (case hg => rfl); (case hr => first | (go_simp; done) | (go_simp; rfl)); intro gb178 hg w5 hbox hb; have n0_ := Aside0.mk (below_step (by repeat (first | (with_reducible first | exact HB.out | apply below_alloc | apply pw_below_drewN | apply below_drew1) | exact HB.out)) hb); have n1_ := Aside0.mk (hbox); have n2_ := Aside0.mk ((by rw [hg]; exact (below_size (by repeat (first | (with_reducible first | exact HB.out | apply below_alloc | apply pw_below_drewN | apply below_drew1) | exact HB.out))) : w.heap.size ≤ gb178)); have n3_ := Aside0.mk ((by rw [hg]; exact (below_size (by repeat (first | (with_reducible first | exact HB.out | apply below_alloc | apply pw_below_drewN | apply below_drew1) | exact HB.out))) : w.heap.size ≤ gb178)); clear HB; have HB := n0_; have BK178 := n1_; have GW178 := n2_; have GE178 := n3_; clear n0_ n1_ n2_ n3_; clear hb hbox hg))
  (try simp only [Act.put, List.setIfInBounds_toArray, List.set_cons_zero, List.set_cons_succ])
  go_cut [23] (fun v23 wc => ∃ (kq : Nat) (x23_3 : Bool), v23 = .bool x23_3 ∧ Aside0 (wringerref7_GetNorm.j0 kq a0 a1 a2 x23_3 = some (r1, r2, r3)) ∧ Aside0 (kq ≤ k) ∧ Aside0 (wc.heap[gb178]? = some (.cells #[(.slice none 0 0), .int .i64 0, .int .i64 0] 41 (0, 0))) ∧ Aside0 (Below w.heap.size w wc))
  case first =>
    have H := HC4.out
    clear HC4
    by_cases c6 : a1 < 0
    · rw [if_pos c6] at H
      have c6b0 : decide (a1 < 0) = true := decide_eq_true c6
      clear c6
      (first | rw [c6b0] | (simp only [i64_w, i32_w]; rw [c6b0]) | skip)
      have H' := Aside0.mk H
      clear H
      go_wp2
      go_meet
      case rel => exact ⟨_, (true), (by first | rfl | (simp; done) | (simp [*]; done)), H', ⟨by first | omega | exact Nat.le_refl _⟩, ⟨by (with_reducible repeat (first | refine blk_drewN ?_ _ | refine blk_drew ?_ | refine blk_alloc ?_ _)); exact BK178.out⟩, ⟨by repeat (first | (with_reducible first | exact HB.out | apply below_alloc | apply pw_below_drewN | apply below_drew1 | refine below_set ?_ GE178.out) | exact HB.out)⟩⟩
    · rw [if_neg c6] at H
      have c6b0 : decide (a1 < 0) = false := decide_eq_false c6
      clear c6
      (first | rw [c6b0] | (simp only [i64_w, i32_w]; rw [c6b0]) | skip)
      by_cases c7 : a1 > (a0.size : Int)
      · rw [if_pos c7] at H
        have c7b0 : decide ((a0.size : Int) < a1) = true := decide_eq_true c7
        clear c7
        have H' := Aside0.mk H
        clear H
        go_wp2
        go_meet
        case rel => exact ⟨_, (true), (by first | rfl | (simp; done) | (simp [*]; done)), H', ⟨by first | omega | exact Nat.le_refl _⟩, ⟨by (with_reducible repeat (first | refine blk_drewN ?_ _ | refine blk_drew ?_ | refine blk_alloc ?_ _)); exact BK178.out⟩, ⟨by repeat (first | (with_reducible first | exact HB.out | apply below_alloc | apply pw_below_drewN | apply below_drew1 | refine below_set ?_ GE178.out) | exact HB.out)⟩⟩
      · rw [if_neg c7] at H
        have c7b0 : decide ((a0.size : Int) < a1) = false := decide_eq_false c7
        clear c7
        replace H := Option.bind_eq_some_iff.mp H
        obtain ⟨t179, A80, H⟩ := H
        replace H : (wringerref7_GetNorm.j0 k a0 a1 a2 (!t179)) = some (r1, r2, r3) := H
        have A8 := Aside0.mk A80
        clear A80
        have H' := Aside0.mk H
        clear H
        go_wp2_with (first | (go_at_call 28; (with_reducible refine (wringerref7_isLog.calls a2 t179 _ A8.out).mono ?_); rintro e w' ⟨rfl, ⟨nd, rfl⟩⟩))
        go_meet
        case rel => exact ⟨_, (!t179), (by first | rfl | (simp; done) | (simp [*]; done)), H', ⟨by first | omega | exact Nat.le_refl _⟩, ⟨by (with_reducible repeat (first | refine blk_drewN ?_ _ | refine blk_drew ?_ | refine blk_alloc ?_ _)); exact BK178.out⟩, ⟨by repeat (first | (with_reducible first | exact HB.out | apply below_alloc | apply pw_below_drewN | apply below_drew1 | refine below_set ?_ GE178.out) | exact HB.out)⟩⟩
  case rest =>
    clear HC4
    try clear c1
    try clear p2
    try clear c6
    try clear c6b0
    try clear c7
    try clear c7b0
    obtain ⟨kq, x23_3, rfl, HA, HJ3, BK178, HB⟩ := hcut
    cases kq with
    | zero => exact absurd HA.out (by simp [wringerref7_GetNorm.j0])
    | succ kj3 =>
      have H := HA.out
      clear HA
      simp only [wringerref7_GetNorm.j0] at H
      by_cases c9 : x23_3 = true
      · subst c9
        have H1 : (some (([] : List Int), 0, 1)) = some (r1, r2, r3) := by rw [if_pos rfl] at H; exact H
        clear H
        have H := H1
        clear H1
        simp only [Option.some.injEq, Prod.mk.injEq] at H
        obtain ⟨rfl, rfl, rfl⟩ := H
        have hcz10_0 : wc.cell? ⟨gb178, 0, none⟩ = some (.slice none 0 0) := (blk_cell BK178.out 0).trans rfl
        have hcz10_1 : wc.cell? ⟨gb178, 1, none⟩ = some (.int .i64 0) := (blk_cell BK178.out 1).trans rfl
        have hcz10_2 : wc.cell? ⟨gb178, 2, none⟩ = some (.int .i64 0) := (blk_cell BK178.out 2).trans rfl
        have hfz10_0 := blk_frozen BK178.out 0
        have hfz10_1 := blk_frozen BK178.out 1
        have hfz10_2 := blk_frozen BK178.out 2
        go_wp2
        refine bodyPost_ret (results_cell_row rfl _ _ gb178 41 #[.slice none 0 0, .int .i64 0, .int .i64 1] (0, 0) _ rfl (by (with_reducible repeat (first | refine blk_drewN ?_ _ | refine blk_drew ?_ | refine blk_alloc ?_ _)); refine blk_put (cs := #[.slice none 0 0, .int .i64 0, .int .i64 0]) ?_ 2 _ rfl; (with_reducible repeat (first | refine blk_drewN ?_ _ | refine blk_drew ?_ | refine blk_alloc ?_ _)); refine blk_put (cs := #[.slice none 0 0, .int .i64 0, .int .i64 0]) ?_ 1 _ rfl; (with_reducible repeat (first | refine blk_drewN ?_ _ | refine blk_drew ?_ | refine blk_alloc ?_ _)); refine blk_put (cs := #[.slice none 0 0, .int .i64 0, .int .i64 0]) ?_ 0 _ rfl; (with_reducible repeat (first | refine blk_drewN ?_ _ | refine blk_drew ?_ | refine blk_alloc ?_ _)); exact BK178.out) Try.underlying41 rfl (by kernel_rfl)) rfl ?_
        exact ⟨_, by first | rfl | (simp [errW_none, errW_some] <;> rfl) | (simp [*, errW_none, errW_some] <;> rfl), by first | exact Kd.R_nil _ _ _ _ _ | exact Kd.N_nil _ _ _ _ _ | exact Kd.V_nil _ _ _ _ _ | exact Kd.Q_nil _ _ _ _ _ | exact Kd.S_nil _ _ _ _ _, by repeat (first | (with_reducible first | exact HB.out | apply below_alloc | apply pw_below_drewN | apply below_drew1 | refine below_set ?_ GE178.out) | exact HB.out)⟩
      · replace c9 := Bool.eq_false_iff.mpr c9
        subst c9
        have H1 : (wringerref7_GetNorm.l0 kj3 a0 a1 a2 ([] : List Int) a1) = some (r1, r2, r3) := by rw [if_neg (show ¬ (false = true) by decide)] at H; exact H
        clear H
        have H := H1
        clear H1
        have H' := Aside0.mk H
        clear H
        go_wp2
        go_loopg [7, 8] kj3 (fun kq v7 v8 w' => ∃ (x7_2 : List Int) (x8_2 : Int) (x179001_2 : Int) (x179002_2 : Int), v8 = .int .i64 x8_2 ∧ Aside0 (wringerref7_GetNorm.l0 kq a0 a1 a2 x7_2 x8_2 = some (r1, r2, r3)) ∧ Aside0 (kq ≤ kj3) ∧ Aside0 (Kd.R (Kd.int .i64) 3 w' w.heap.size (fun _ => True) v7 x7_2) ∧ Aside0 (w'.heap[gb178]? = some (.cells #[(.slice none 0 0), .int .i64 x179001_2, .int .i64 x179002_2] 41 (0, 0))) ∧ Aside0 (Below w.heap.size w w'))
        case atStart => exact ⟨(([] : List Int)), (a1), (0), (0), (by first | rfl | (simp; done) | (simp [*]; done)), H', ⟨Nat.le_refl _⟩, ⟨by first | exact Kd.R_nil _ _ _ _ _ | exact Kd.N_nil _ _ _ _ _ | exact Kd.V_nil _ _ _ _ _ | exact Kd.Q_nil _ _ _ _ _ | exact Kd.S_nil _ _ _ _ _⟩, ⟨by (with_reducible repeat (first | refine blk_drewN ?_ _ | refine blk_drew ?_ | refine blk_alloc ?_ _)); exact BK178.out⟩, ⟨by repeat (first | (with_reducible first | exact HB.out | apply below_alloc | apply pw_below_drewN | apply below_drew1 | refine below_set ?_ GE178.out) | exact HB.out)⟩⟩
        case round =>
          clear H'
          try clear c1
          try clear p2
          try clear c6
          try clear c6b0
          try clear c7
          try clear c7b0
          try clear c9
          try clear hcz10_0
          try clear hcz10_1
          try clear hcz10_2
          try clear hfz10_0
          try clear hfz10_1
          try clear hfz10_2
          try clear p2
          obtain ⟨x7_2, x8_2, x179001_2, x179002_2, rfl, HA, HK2, HO_7, BK178, HB⟩ := hrel
          cases gk with
          | zero => exact absurd HA.out (by simp [wringerref7_GetNorm.l0])
          | succ k2 =>
            have H := HA.out
            clear HA
            simp only [wringerref7_GetNorm.l0] at H
            by_cases c11 : (x7_2.length : Int) < 65
            · rw [if_pos c11] at H
              have c11b0 : decide ((x7_2.length : Int) < 65) = true := decide_eq_true c11
              have c11b1 : decide (x7_2.length < 65) = true := decide_eq_true (by omega)
              clear c11
              replace H := Option.bind_eq_some_iff.mp H
              obtain ⟨⟨t180, t181, t182⟩, A120, H⟩ := H
              replace H : (if t182 = 0 then (if t180 > 0 then (if x7_2.length < 17592186044416 then (wringerref7_GetNorm.l0 k2 a0 a1 a2 (x7_2 ++ [wrap64 (mn t180 1048576)]) t181) else (none)) else ((wringerref1_GetVint.f k2 a0 t181).bind fun bt187 => (if bt187.2.2 = 0 then (if bt187.1 ≥ 65 then (some (([] : List Int), 0, 3)) else (if 0 ≤ (IntKind.u64.wrap (bt187.1 + 1)) then (if x7_2.length + (IntKind.u64.wrap (bt187.1 + 1) : Int).toNat < 17592186044416 then (wringerref7_GetNorm.l0 k2 a0 a1 a2 (x7_2 ++ List.replicate (IntKind.u64.wrap (bt187.1 + 1) : Int).toNat 0) bt187.2.1) else (none)) else (none))) else (some (([] : List Int), 0, bt187.2.2))))) else (some (([] : List Int), 0, t182))) = some (r1, r2, r3) := H
              have A12 := Aside0.mk A120
              clear A120
              by_cases c13 : t182 = 0
              · rw [if_pos c13] at H
                have c13b0 : (t182 == 0) = true := beq_iff_eq.mpr c13
                have c13b1 : (t182 != 0) = false := bne_eq_false_iff_eq.mpr c13
                clear c13
                by_cases c14 : t180 > 0
                · rw [if_pos c14] at H
                  have c14b0 : decide (0 < t180) = true := decide_eq_true c14
                  clear c14
                  obtain ⟨ji15, hji15⟩ : ∃ j_ : Int, (mn t180 1048576) = j_ := ⟨_, rfl⟩
                  replace H : (if x7_2.length < 17592186044416 then (wringerref7_GetNorm.l0 k2 a0 a1 a2 (x7_2 ++ [wrap64 (ji15)]) t181) else (none)) = some (r1, r2, r3) := by first | (rw [hji15] at H; exact H) | (simp only [hji15] at H ⊢; exact H)
                  (try rw [hji15] at A12)
                  (try (have hji15h : ji15 ≤ 1048576 := by (rw [← hji15]; unfold mn; (repeat' split) <;> omega)))
                  (try (have hji15g : ji15 ≤ 64 := by omega))
                  have hji15_ : (if 1048576 < t180 then 1048576 else t180) = ji15 := hji15
                  by_cases c16 : x7_2.length < 17592186044416
                  · rw [if_pos c16] at H
                    have LMc16 := Aside0.mk c16
                    clear c16
                    obtain ⟨y184, hy184⟩ : ∃ y_ : List Int, y_ = (x7_2 ++ [wrap64 (ji15)]) := ⟨_, rfl⟩
                    replace H : (wringerref7_GetNorm.l0 k2 a0 a1 a2 y184 t181) = some (r1, r2, r3) := by first | (rw [hy184]; with_reducible exact H) | (have H2_ := (Option.bind_some _ _).symm.trans H; rw [hy184]; with_reducible exact H2_) | (have H2_ := (Option.bind_some _ _).symm.trans H; with_reducible exact H2_) | with_reducible exact H | (rw [hy184]; exact H) | exact H
                    have Ny184 := Aside0.mk hy184
                    clear hy184
                    have H' := Aside0.mk H
                    clear H
                    obtain ⟨Ao17, co17, eo17⟩ := Kd.R_slice HO_7.out
                    subst eo17
                    go_wp2_with (first | ((with_reducible refine gate_callee (f := 32) rfl ?_); refine goesL_ (some 31) rfl rfl Try.func32 (by kernel_rfl) rfl #[.string a0, .int .i64 x8_2] rfl (by (try simp only [List.map_toArray, List.map_cons, List.map_nil]); first | done | rfl | (simp only [List.length_drop, List.length_take]; rfl)) ?_; (with_reducible refine (wringerref1_GetVint.calls k2 a0 x8_2 t180 t181 t182 _ A12.out).mono ?_); rintro e w18 ⟨rfl, hb⟩; refine ⟨_, rfl, ?_⟩; have n0_ := Aside0.mk (Kd.R_below (by (with_reducible repeat (first | apply Kd.R_alloc | apply Kd.R_drewN | apply Kd.R_drew)); exact HO_7.out) hb); have n1_ := Aside0.mk (blk_below (g := gb178) (o := .cells #[.slice none 0 0, .int .i64 x179001_2, .int .i64 x179002_2] 41 (0, 0)) (by (with_reducible repeat (first | refine blk_drewN ?_ _ | refine blk_drew ?_ | refine blk_alloc ?_ _)); exact BK178.out) hb); have n2_ := Aside0.mk (below_step (by repeat (first | (with_reducible first | exact HB.out | apply below_alloc | apply pw_below_drewN | apply below_drew1 | refine below_set ?_ GE178.out) | exact HB.out)) hb); clear HO_7; clear BK178; clear HB; have HO_7 := n0_; have BK178 := n1_; have HB := n2_; clear n0_ n1_ n2_; (try clear hb); (try clear hb2); (try clear hk); (try clear hi)) | ((with_reducible refine gate_dst (N := 9) rfl ?_); (try (refine gate_guard (by rfl) ?_; dsimp only)); refine box_event ?hg (N := 9) ?hd (cs := #[.int .u64 0, .int .i64 0, .int .i64 0]) (t := 61) ?hr ?_; (case hd => rfl); (case hg => rfl); (case hr => first | (go_simp; done) | (go_simp; rfl)); intro gb183 hg w19 hbox hb; have n0_ := Aside0.mk (Kd.R_below (by (with_reducible repeat (first | apply Kd.R_alloc | apply Kd.R_drewN | apply Kd.R_drew)); exact HO_7.out) hb); have n1_ := Aside0.mk (blk_below (g := gb178) (o := .cells #[.slice none 0 0, .int .i64 x179001_2, .int .i64 x179002_2] 41 (0, 0)) (by (with_reducible repeat (first | refine blk_drewN ?_ _ | refine blk_drew ?_ | refine blk_alloc ?_ _)); exact BK178.out) hb); have n2_ := Aside0.mk (below_step (by repeat (first | (with_reducible first | exact HB.out | apply below_alloc | apply pw_below_drewN | apply below_drew1 | refine below_set ?_ GE178.out) | exact HB.out)) hb); have n3_ := Aside0.mk (hbox); have n4_ := Aside0.mk ((by rw [hg]; exact (below_size (by repeat (first | (with_reducible first | exact HB.out | apply below_alloc | apply pw_below_drewN | apply below_drew1 | refine below_set ?_ GE178.out) | exact HB.out))) : w.heap.size ≤ gb183)); have n5_ := Aside0.mk ((by rw [hg]; exact (below_size (by repeat (first | (with_reducible first | exact HB.out | apply below_alloc | apply pw_below_drewN | apply below_drew1 | refine below_set ?_ GE178.out) | exact HB.out))) : w.heap.size ≤ gb183)); have n6_ := Aside0.mk ((by rw [hg]; exact Nat.ne_of_lt (blk_lt (g := gb178) (o := .cells #[.slice none 0 0, .int .i64 x179001_2, .int .i64 x179002_2] 41 (0, 0)) (by (with_reducible repeat (first | refine blk_drewN ?_ _ | refine blk_drew ?_ | refine blk_alloc ?_ _)); exact BK178.out)) : gb178 ≠ gb183)); have n7_ := Aside0.mk ((by rw [hg]; exact Nat.ne_of_gt (blk_lt (g := gb178) (o := .cells #[.slice none 0 0, .int .i64 x179001_2, .int .i64 x179002_2] 41 (0, 0)) (by (with_reducible repeat (first | refine blk_drewN ?_ _ | refine blk_drew ?_ | refine blk_alloc ?_ _)); exact BK178.out)) : gb183 ≠ gb178)); clear HO_7; clear BK178; clear HB; have HO_7 := n0_; have BK178 := n1_; have HB := n2_; have BK183 := n3_; have GW183 := n4_; have GE183 := n5_; have NB178_183 := n6_; have NB183_178 := n7_; clear n0_ n1_ n2_ n3_ n4_ n5_ n6_ n7_; clear hb hbox hg; have hnb20 := NB183_178.out; have hnc20 := NB178_183.out; have hcz21_0 : w19.cell? ⟨gb183, 0, none⟩ = some (.int .u64 0) := (blk_cell BK183.out 0).trans rfl; have hcz21_1 : w19.cell? ⟨gb183, 1, none⟩ = some (.int .i64 0) := (blk_cell BK183.out 1).trans rfl; have hcz21_2 : w19.cell? ⟨gb183, 2, none⟩ = some (.int .i64 0) := (blk_cell BK183.out 2).trans rfl; have hfz21_0 := blk_frozen BK183.out 0; have hfz21_1 := blk_frozen BK183.out 1; have hfz21_2 := blk_frozen BK183.out 2) | ((with_reducible refine gate_builtin (b := .append) (xs := #[.tmp 43, .tmp 48]) rfl ?_); (try (refine gate_guard (by rfl) ?_; dsimp only)); at_builtin; refine Kd.R_append (Kd.int .i64) (w0 := w) w.heap.size rfl (.tmp 43) (.tmp 48) 24 3 (.int .i64 0) 8 rfl Try.underlying24 info3 rfl (by decide) (by omega) (.slice Ao17 x7_2.length co17) x7_2 (wrap64 (ji15)) [.int .i64 (wrap64 (ji15))] (fun _ => True) (fun _ => False) rfl (by first | (go_simp; done) | (go_simp; rfl)) ?aP (fun _ hk => hk.elim) ?aF ?aO ?aB ?aS ?aL ?_; (case aP => exact rfl); (case aB => exact (by repeat (first | (with_reducible first | exact HB.out | apply below_alloc | apply pw_below_drewN | apply below_drew1 | refine below_set ?_ GE178.out | refine below_set ?_ GE183.out) | exact HB.out))); (case aF => exact (fun _ _ => trivial)); (case aO => exact (by (with_reducible repeat (first | apply Kd.R_alloc | apply Kd.R_drewN | apply Kd.R_drew)); exact Kd.R_mono (Kd.R_far (p := ⟨gb183, 2, none⟩) (Kd.R_far (p := ⟨gb183, 1, none⟩) (Kd.R_far (p := ⟨gb183, 0, none⟩) (Kd.R_types HO_7.out BK183.out (by decide)) (fun _ hk => hk.2) (.int .u64 t180)) (fun _ hk => hk.2) (.int .i64 t181)) (fun _ hk => hk.2) (.int .i64 t182)) (fun _ hk => trivial))); (case aS => exact (below_size (by repeat (first | (with_reducible first | exact HB.out | apply below_alloc | apply pw_below_drewN | apply below_drew1 | refine below_set ?_ GE178.out | refine below_set ?_ GE183.out) | exact HB.out)))); (case aL => have := LMc16.out; omega); intro v185 w22 ho hb hg hat; rw [← Ny184.out] at ho; have n0_ := Aside0.mk (blk_grown (g := gb178) (o := .cells #[.slice none 0 0, .int .i64 x179001_2, .int .i64 x179002_2] 41 (0, 0)) (by (with_reducible repeat (first | refine blk_drewN ?_ _ | refine blk_drew ?_ | refine blk_alloc ?_ _)); refine blk_far ?_ NB178_183.out _; (with_reducible repeat (first | refine blk_drewN ?_ _ | refine blk_drew ?_ | refine blk_alloc ?_ _)); refine blk_far ?_ NB178_183.out _; (with_reducible repeat (first | refine blk_drewN ?_ _ | refine blk_drew ?_ | refine blk_alloc ?_ _)); refine blk_far ?_ NB178_183.out _; (with_reducible repeat (first | refine blk_drewN ?_ _ | refine blk_drew ?_ | refine blk_alloc ?_ _)); exact BK178.out) hg (Kd.R_ne HO_7.out BK178.out (by decide))); have n1_ := Aside0.mk (blk_grown (g := gb183) (o := .cells #[.int .u64 t180, .int .i64 t181, .int .i64 t182] 61 (0, 0)) (by (with_reducible repeat (first | refine blk_drewN ?_ _ | refine blk_drew ?_ | refine blk_alloc ?_ _)); refine blk_put (cs := #[.int .u64 t180, .int .i64 t181, .int .i64 0]) ?_ 2 _ rfl; (with_reducible repeat (first | refine blk_drewN ?_ _ | refine blk_drew ?_ | refine blk_alloc ?_ _)); refine blk_put (cs := #[.int .u64 t180, .int .i64 0, .int .i64 0]) ?_ 1 _ rfl; (with_reducible repeat (first | refine blk_drewN ?_ _ | refine blk_drew ?_ | refine blk_alloc ?_ _)); refine blk_put (cs := #[.int .u64 0, .int .i64 0, .int .i64 0]) ?_ 0 _ rfl; (with_reducible repeat (first | refine blk_drewN ?_ _ | refine blk_drew ?_ | refine blk_alloc ?_ _)); exact BK183.out) hg (Kd.R_ne HO_7.out BK183.out (by decide))); have n2_ := Aside0.mk (hb); have n3_ := Aside0.mk (ho); clear BK178; clear BK183; clear HB; clear HO_7; have BK178 := n0_; have BK183 := n1_; have HB := n2_; have HO186 := n3_; clear n0_ n1_ n2_ n3_; clear ho hb hg hat))
                    go_roundg k2
                    case measure => have := HJ3.out; have := HK2.out; omega
                    case rel => exact ⟨(y184), (t181), (x179001_2), (x179002_2), (by first | rfl | (simp; done) | (simp [*]; done)), H', ⟨by have := HJ3.out; have := HK2.out; omega⟩, ⟨by (with_reducible repeat (first | apply Kd.R_alloc | apply Kd.R_drewN | apply Kd.R_drew)); exact HO186.out⟩, ⟨by (with_reducible repeat (first | refine blk_drewN ?_ _ | refine blk_drew ?_ | refine blk_alloc ?_ _)); exact BK178.out⟩, ⟨by repeat (first | (with_reducible first | exact HB.out | apply below_alloc | apply pw_below_drewN | apply below_drew1 | refine below_set ?_ GE178.out | refine below_set ?_ GE183.out) | exact HB.out)⟩⟩
                  · rw [if_neg c16] at H
                    exact absurd H (by simp)
                · rw [if_neg c14] at H
                  have c14b0 : decide (0 < t180) = false := decide_eq_false c14
                  clear c14
                  replace H := Option.bind_eq_some_iff.mp H
                  obtain ⟨⟨t187, t188, t189⟩, A230, H⟩ := H
                  replace H : (if t189 = 0 then (if t187 ≥ 65 then (some (([] : List Int), 0, 3)) else (if 0 ≤ (IntKind.u64.wrap (t187 + 1)) then (if x7_2.length + (IntKind.u64.wrap (t187 + 1) : Int).toNat < 17592186044416 then (wringerref7_GetNorm.l0 k2 a0 a1 a2 (x7_2 ++ List.replicate (IntKind.u64.wrap (t187 + 1) : Int).toNat 0) t188) else (none)) else (none))) else (some (([] : List Int), 0, t189))) = some (r1, r2, r3) := H
                  have A23 := Aside0.mk A230
                  clear A230
                  by_cases c24 : t189 = 0
                  · rw [if_pos c24] at H
                    have c24b0 : (t189 == 0) = true := beq_iff_eq.mpr c24
                    have c24b1 : (t189 != 0) = false := bne_eq_false_iff_eq.mpr c24
                    clear c24
                    by_cases c25 : t187 ≥ 65
                    · rw [if_pos c25] at H
                      have c25b0 : decide (65 ≤ t187) = true := decide_eq_true c25
                      clear c25
                      simp only [Option.some.injEq, Prod.mk.injEq] at H
                      obtain ⟨rfl, rfl, rfl⟩ := H
                      obtain ⟨Ao26, co26, eo26⟩ := Kd.R_slice HO_7.out
                      subst eo26
                      go_wp2_with (first | ((with_reducible refine gate_callee (f := 32) rfl ?_); refine goesL_ (some 31) rfl rfl Try.func32 (by kernel_rfl) rfl #[.string a0, .int .i64 x8_2] rfl (by (try simp only [List.map_toArray, List.map_cons, List.map_nil]); first | done | rfl | (simp only [List.length_drop, List.length_take]; rfl)) ?_; (with_reducible refine (wringerref1_GetVint.calls k2 a0 x8_2 t180 t181 t182 _ A12.out).mono ?_); rintro e w27 ⟨rfl, hb⟩; refine ⟨_, rfl, ?_⟩; have n0_ := Aside0.mk (Kd.R_below (by (with_reducible repeat (first | apply Kd.R_alloc | apply Kd.R_drewN | apply Kd.R_drew)); exact HO_7.out) hb); have n1_ := Aside0.mk (blk_below (g := gb178) (o := .cells #[.slice none 0 0, .int .i64 x179001_2, .int .i64 x179002_2] 41 (0, 0)) (by (with_reducible repeat (first | refine blk_drewN ?_ _ | refine blk_drew ?_ | refine blk_alloc ?_ _)); exact BK178.out) hb); have n2_ := Aside0.mk (below_step (by repeat (first | (with_reducible first | exact HB.out | apply below_alloc | apply pw_below_drewN | apply below_drew1 | refine below_set ?_ GE178.out) | exact HB.out)) hb); clear HO_7; clear BK178; clear HB; have HO_7 := n0_; have BK178 := n1_; have HB := n2_; clear n0_ n1_ n2_; (try clear hb); (try clear hb2); (try clear hk); (try clear hi)) | ((with_reducible refine gate_dst (N := 9) rfl ?_); (try (refine gate_guard (by rfl) ?_; dsimp only)); refine box_event ?hg (N := 9) ?hd (cs := #[.int .u64 0, .int .i64 0, .int .i64 0]) (t := 61) ?hr ?_; (case hd => rfl); (case hg => rfl); (case hr => first | (go_simp; done) | (go_simp; rfl)); intro gb183 hg w28 hbox hb; have n0_ := Aside0.mk (Kd.R_below (by (with_reducible repeat (first | apply Kd.R_alloc | apply Kd.R_drewN | apply Kd.R_drew)); exact HO_7.out) hb); have n1_ := Aside0.mk (blk_below (g := gb178) (o := .cells #[.slice none 0 0, .int .i64 x179001_2, .int .i64 x179002_2] 41 (0, 0)) (by (with_reducible repeat (first | refine blk_drewN ?_ _ | refine blk_drew ?_ | refine blk_alloc ?_ _)); exact BK178.out) hb); have n2_ := Aside0.mk (below_step (by repeat (first | (with_reducible first | exact HB.out | apply below_alloc | apply pw_below_drewN | apply below_drew1 | refine below_set ?_ GE178.out) | exact HB.out)) hb); have n3_ := Aside0.mk (hbox); have n4_ := Aside0.mk ((by rw [hg]; exact (below_size (by repeat (first | (with_reducible first | exact HB.out | apply below_alloc | apply pw_below_drewN | apply below_drew1 | refine below_set ?_ GE178.out) | exact HB.out))) : w.heap.size ≤ gb183)); have n5_ := Aside0.mk ((by rw [hg]; exact (below_size (by repeat (first | (with_reducible first | exact HB.out | apply below_alloc | apply pw_below_drewN | apply below_drew1 | refine below_set ?_ GE178.out) | exact HB.out))) : w.heap.size ≤ gb183)); have n6_ := Aside0.mk ((by rw [hg]; exact Nat.ne_of_lt (blk_lt (g := gb178) (o := .cells #[.slice none 0 0, .int .i64 x179001_2, .int .i64 x179002_2] 41 (0, 0)) (by (with_reducible repeat (first | refine blk_drewN ?_ _ | refine blk_drew ?_ | refine blk_alloc ?_ _)); exact BK178.out)) : gb178 ≠ gb183)); have n7_ := Aside0.mk ((by rw [hg]; exact Nat.ne_of_gt (blk_lt (g := gb178) (o := .cells #[.slice none 0 0, .int .i64 x179001_2, .int .i64 x179002_2] 41 (0, 0)) (by (with_reducible repeat (first | refine blk_drewN ?_ _ | refine blk_drew ?_ | refine blk_alloc ?_ _)); exact BK178.out)) : gb183 ≠ gb178)); clear HO_7; clear BK178; clear HB; have HO_7 := n0_; have BK178 := n1_; have HB := n2_; have BK183 := n3_; have GW183 := n4_; have GE183 := n5_; have NB178_183 := n6_; have NB183_178 := n7_; clear n0_ n1_ n2_ n3_ n4_ n5_ n6_ n7_; clear hb hbox hg; have hnb29 := NB183_178.out; have hnc29 := NB178_183.out; have hcz30_0 : w28.cell? ⟨gb183, 0, none⟩ = some (.int .u64 0) := (blk_cell BK183.out 0).trans rfl; have hcz30_1 : w28.cell? ⟨gb183, 1, none⟩ = some (.int .i64 0) := (blk_cell BK183.out 1).trans rfl; have hcz30_2 : w28.cell? ⟨gb183, 2, none⟩ = some (.int .i64 0) := (blk_cell BK183.out 2).trans rfl; have hfz30_0 := blk_frozen BK183.out 0; have hfz30_1 := blk_frozen BK183.out 1; have hfz30_2 := blk_frozen BK183.out 2) | ((with_reducible refine gate_callee (f := 32) rfl ?_); refine goesL_ (some 52) rfl rfl Try.func32 (by kernel_rfl) rfl #[.string a0, .int .i64 t181] rfl (by (try simp only [List.map_toArray, List.map_cons, List.map_nil]); first | done | rfl | (simp only [List.length_drop, List.length_take]; rfl)) ?_; (with_reducible refine (wringerref1_GetVint.calls k2 a0 t181 t187 t188 t189 _ A23.out).mono ?_); rintro e w31 ⟨rfl, hb⟩; refine ⟨_, rfl, ?_⟩; have n0_ := Aside0.mk (Kd.R_below (by (with_reducible repeat (first | apply Kd.R_alloc | apply Kd.R_drewN | apply Kd.R_drew)); exact (Kd.R_mono (Kd.R_far (p := ⟨gb183, 2, none⟩) (Kd.R_far (p := ⟨gb183, 1, none⟩) (Kd.R_far (p := ⟨gb183, 0, none⟩) (Kd.R_types HO_7.out BK183.out (by decide)) (fun _ hk => hk.2) (.int .u64 t180)) (fun _ hk => hk.2) (.int .i64 t181)) (fun _ hk => hk.2) (.int .i64 t182)) (fun _ h_ => h_.1))) hb); have n1_ := Aside0.mk (blk_below (g := gb178) (o := .cells #[.slice none 0 0, .int .i64 x179001_2, .int .i64 x179002_2] 41 (0, 0)) (by (with_reducible repeat (first | refine blk_drewN ?_ _ | refine blk_drew ?_ | refine blk_alloc ?_ _)); refine blk_far ?_ NB178_183.out _; (with_reducible repeat (first | refine blk_drewN ?_ _ | refine blk_drew ?_ | refine blk_alloc ?_ _)); refine blk_far ?_ NB178_183.out _; (with_reducible repeat (first | refine blk_drewN ?_ _ | refine blk_drew ?_ | refine blk_alloc ?_ _)); refine blk_far ?_ NB178_183.out _; (with_reducible repeat (first | refine blk_drewN ?_ _ | refine blk_drew ?_ | refine blk_alloc ?_ _)); exact BK178.out) hb); have n2_ := Aside0.mk (blk_below (g := gb183) (o := .cells #[.int .u64 t180, .int .i64 t181, .int .i64 t182] 61 (0, 0)) (by (with_reducible repeat (first | refine blk_drewN ?_ _ | refine blk_drew ?_ | refine blk_alloc ?_ _)); refine blk_put (cs := #[.int .u64 t180, .int .i64 t181, .int .i64 0]) ?_ 2 _ rfl; (with_reducible repeat (first | refine blk_drewN ?_ _ | refine blk_drew ?_ | refine blk_alloc ?_ _)); refine blk_put (cs := #[.int .u64 t180, .int .i64 0, .int .i64 0]) ?_ 1 _ rfl; (with_reducible repeat (first | refine blk_drewN ?_ _ | refine blk_drew ?_ | refine blk_alloc ?_ _)); refine blk_put (cs := #[.int .u64 0, .int .i64 0, .int .i64 0]) ?_ 0 _ rfl; (with_reducible repeat (first | refine blk_drewN ?_ _ | refine blk_drew ?_ | refine blk_alloc ?_ _)); exact BK183.out) hb); have n3_ := Aside0.mk (below_step (by repeat (first | (with_reducible first | exact HB.out | apply below_alloc | apply pw_below_drewN | apply below_drew1 | refine below_set ?_ GE178.out | refine below_set ?_ GE183.out) | exact HB.out)) hb); clear HO_7; clear BK178; clear BK183; clear HB; have HO_7 := n0_; have BK178 := n1_; have BK183 := n2_; have HB := n3_; clear n0_ n1_ n2_ n3_; (try clear hb); (try clear hb2); (try clear hk); (try clear hi)) | ((with_reducible refine gate_dst (N := 10) rfl ?_); (try (refine gate_guard (by rfl) ?_; dsimp only)); refine box_event ?hg (N := 10) ?hd (cs := #[.int .u64 0, .int .i64 0, .int .i64 0]) (t := 61) ?hr ?_; (case hd => rfl); (case hg => rfl); (case hr => first | (go_simp; done) | (go_simp; rfl)); intro gb190 hg w32 hbox hb; have n0_ := Aside0.mk (Kd.R_below (by (with_reducible repeat (first | apply Kd.R_alloc | apply Kd.R_drewN | apply Kd.R_drew)); exact HO_7.out) hb); have n1_ := Aside0.mk (blk_below (g := gb178) (o := .cells #[.slice none 0 0, .int .i64 x179001_2, .int .i64 x179002_2] 41 (0, 0)) (by (with_reducible repeat (first | refine blk_drewN ?_ _ | refine blk_drew ?_ | refine blk_alloc ?_ _)); exact BK178.out) hb); have n2_ := Aside0.mk (blk_below (g := gb183) (o := .cells #[.int .u64 t180, .int .i64 t181, .int .i64 t182] 61 (0, 0)) (by (with_reducible repeat (first | refine blk_drewN ?_ _ | refine blk_drew ?_ | refine blk_alloc ?_ _)); exact BK183.out) hb); have n3_ := Aside0.mk (below_step (by repeat (first | (with_reducible first | exact HB.out | apply below_alloc | apply pw_below_drewN | apply below_drew1 | refine below_set ?_ GE178.out | refine below_set ?_ GE183.out) | exact HB.out)) hb); have n4_ := Aside0.mk (hbox); have n5_ := Aside0.mk ((by rw [hg]; exact (below_size (by repeat (first | (with_reducible first | exact HB.out | apply below_alloc | apply pw_below_drewN | apply below_drew1 | refine below_set ?_ GE178.out | refine below_set ?_ GE183.out) | exact HB.out))) : w.heap.size ≤ gb190)); have n6_ := Aside0.mk ((by rw [hg]; exact (below_size (by repeat (first | (with_reducible first | exact HB.out | apply below_alloc | apply pw_below_drewN | apply below_drew1 | refine below_set ?_ GE178.out | refine below_set ?_ GE183.out) | exact HB.out))) : w.heap.size ≤ gb190)); have n7_ := Aside0.mk ((by rw [hg]; exact Nat.ne_of_lt (blk_lt (g := gb178) (o := .cells #[.slice none 0 0, .int .i64 x179001_2, .int .i64 x179002_2] 41 (0, 0)) (by (with_reducible repeat (first | refine blk_drewN ?_ _ | refine blk_drew ?_ | refine blk_alloc ?_ _)); exact BK178.out)) : gb178 ≠ gb190)); have n8_ := Aside0.mk ((by rw [hg]; exact Nat.ne_of_gt (blk_lt (g := gb178) (o := .cells #[.slice none 0 0, .int .i64 x179001_2, .int .i64 x179002_2] 41 (0, 0)) (by (with_reducible repeat (first | refine blk_drewN ?_ _ | refine blk_drew ?_ | refine blk_alloc ?_ _)); exact BK178.out)) : gb190 ≠ gb178)); have n9_ := Aside0.mk ((by rw [hg]; exact Nat.ne_of_lt (blk_lt (g := gb183) (o := .cells #[.int .u64 t180, .int .i64 t181, .int .i64 t182] 61 (0, 0)) (by (with_reducible repeat (first | refine blk_drewN ?_ _ | refine blk_drew ?_ | refine blk_alloc ?_ _)); exact BK183.out)) : gb183 ≠ gb190)); have n10_ := Aside0.mk ((by rw [hg]; exact Nat.ne_of_gt (blk_lt (g := gb183) (o := .cells #[.int .u64 t180, .int .i64 t181, .int .i64 t182] 61 (0, 0)) (by (with_reducible repeat (first | refine blk_drewN ?_ _ | refine blk_drew ?_ | refine blk_alloc ?_ _)); exact BK183.out)) : gb190 ≠ gb183)); clear HO_7; clear BK178; clear BK183; clear HB; have HO_7 := n0_; have BK178 := n1_; have BK183 := n2_; have HB := n3_; have BK190 := n4_; have GW190 := n5_; have GE190 := n6_; have NB178_190 := n7_; have NB190_178 := n8_; have NB183_190 := n9_; have NB190_183 := n10_; clear n0_ n1_ n2_ n3_ n4_ n5_ n6_ n7_ n8_ n9_ n10_; clear hb hbox hg; have hnb33 := NB190_178.out; have hnc33 := NB178_190.out; have hnb34 := NB190_183.out; have hnc34 := NB183_190.out; have hcz35_0 : w32.cell? ⟨gb190, 0, none⟩ = some (.int .u64 0) := (blk_cell BK190.out 0).trans rfl; have hcz35_1 : w32.cell? ⟨gb190, 1, none⟩ = some (.int .i64 0) := (blk_cell BK190.out 1).trans rfl; have hcz35_2 : w32.cell? ⟨gb190, 2, none⟩ = some (.int .i64 0) := (blk_cell BK190.out 2).trans rfl; have hfz35_0 := blk_frozen BK190.out 0; have hfz35_1 := blk_frozen BK190.out 1; have hfz35_2 := blk_frozen BK190.out 2; have hcz36_0 : w32.cell? ⟨gb178, 0, none⟩ = some (.slice none 0 0) := (blk_cell BK178.out 0).trans rfl; have hcz36_1 : w32.cell? ⟨gb178, 1, none⟩ = some (.int .i64 x179001_2) := (blk_cell BK178.out 1).trans rfl; have hcz36_2 : w32.cell? ⟨gb178, 2, none⟩ = some (.int .i64 x179002_2) := (blk_cell BK178.out 2).trans rfl; have hfz36_0 := blk_frozen BK178.out 0; have hfz36_1 := blk_frozen BK178.out 1; have hfz36_2 := blk_frozen BK178.out 2))
                      refine bodyPost_ret (results_cell_row rfl _ _ gb178 41 #[.slice none 0 0, .int .i64 0, .int .i64 3] (0, 0) _ rfl (by (with_reducible repeat (first | refine blk_drewN ?_ _ | refine blk_drew ?_ | refine blk_alloc ?_ _)); refine blk_put (cs := #[.slice none 0 0, .int .i64 0, .int .i64 x179002_2]) ?_ 2 _ rfl; (with_reducible repeat (first | refine blk_drewN ?_ _ | refine blk_drew ?_ | refine blk_alloc ?_ _)); refine blk_put (cs := #[.slice none 0 0, .int .i64 x179001_2, .int .i64 x179002_2]) ?_ 1 _ rfl; (with_reducible repeat (first | refine blk_drewN ?_ _ | refine blk_drew ?_ | refine blk_alloc ?_ _)); refine blk_put (cs := #[.slice none 0 0, .int .i64 x179001_2, .int .i64 x179002_2]) ?_ 0 _ rfl; (with_reducible repeat (first | refine blk_drewN ?_ _ | refine blk_drew ?_ | refine blk_alloc ?_ _)); refine blk_far ?_ NB178_190.out _; (with_reducible repeat (first | refine blk_drewN ?_ _ | refine blk_drew ?_ | refine blk_alloc ?_ _)); refine blk_far ?_ NB178_190.out _; (with_reducible repeat (first | refine blk_drewN ?_ _ | refine blk_drew ?_ | refine blk_alloc ?_ _)); refine blk_far ?_ NB178_190.out _; (with_reducible repeat (first | refine blk_drewN ?_ _ | refine blk_drew ?_ | refine blk_alloc ?_ _)); exact BK178.out) Try.underlying41 rfl (by kernel_rfl)) rfl ?_
                      exact ⟨_, by first | rfl | (simp [errW_none, errW_some] <;> rfl) | (simp [*, errW_none, errW_some] <;> rfl), by first | exact Kd.R_nil _ _ _ _ _ | exact Kd.N_nil _ _ _ _ _ | exact Kd.V_nil _ _ _ _ _ | exact Kd.Q_nil _ _ _ _ _ | exact Kd.S_nil _ _ _ _ _, by repeat (first | (with_reducible first | exact HB.out | apply below_alloc | apply pw_below_drewN | apply below_drew1 | refine below_set ?_ GE178.out | refine below_set ?_ GE183.out | refine below_set ?_ GE190.out) | exact HB.out)⟩
                    · rw [if_neg c25] at H
                      have c25b0 : decide (65 ≤ t187) = false := decide_eq_false c25
                      clear c25
                      obtain ⟨ji37, hji37⟩ : ∃ j_ : Int, (IntKind.u64.wrap (t187 + 1)) = j_ := ⟨_, rfl⟩
                      replace H : (if 0 ≤ (ji37) then (if x7_2.length + (ji37 : Int).toNat < 17592186044416 then (wringerref7_GetNorm.l0 k2 a0 a1 a2 (x7_2 ++ List.replicate (ji37 : Int).toNat 0) t188) else (none)) else (none)) = some (r1, r2, r3) := by first | (rw [hji37] at H; exact H) | (simp only [hji37] at H ⊢; exact H)
                      (try rw [hji37] at A12)
                      (try rw [hji37] at A23)
                      by_cases c38 : 0 ≤ (ji37)
                      · rw [if_pos c38] at H
                        have c38b0 := eq_true c38
                        have c38b1 : decide (0 ≤ (ji37)) = true := decide_eq_true c38
                        clear c38
                        by_cases c39 : x7_2.length + (ji37 : Int).toNat < 17592186044416
                        · rw [if_pos c39] at H
                          have LMc39 := Aside0.mk c39
                          clear c39
                          obtain ⟨y191, hy191⟩ : ∃ y_ : List Int, y_ = (x7_2 ++ List.replicate (ji37 : Int).toNat 0) := ⟨_, rfl⟩
                          replace H : (wringerref7_GetNorm.l0 k2 a0 a1 a2 y191 t188) = some (r1, r2, r3) := by first | (rw [hy191]; with_reducible exact H) | (have H2_ := (Option.bind_some _ _).symm.trans H; rw [hy191]; with_reducible exact H2_) | (have H2_ := (Option.bind_some _ _).symm.trans H; with_reducible exact H2_) | with_reducible exact H | (rw [hy191]; exact H) | exact H
                          have Ny191 := Aside0.mk hy191
                          clear hy191
                          have H' := Aside0.mk H
                          clear H
                          obtain ⟨Ao40, co40, eo40⟩ := Kd.R_slice HO_7.out
                          subst eo40
                          go_wp2_with (first | ((with_reducible refine gate_callee (f := 32) rfl ?_); refine goesL_ (some 31) rfl rfl Try.func32 (by kernel_rfl) rfl #[.string a0, .int .i64 x8_2] rfl (by (try simp only [List.map_toArray, List.map_cons, List.map_nil]); first | done | rfl | (simp only [List.length_drop, List.length_take]; rfl)) ?_; (with_reducible refine (wringerref1_GetVint.calls k2 a0 x8_2 t180 t181 t182 _ A12.out).mono ?_); rintro e w41 ⟨rfl, hb⟩; refine ⟨_, rfl, ?_⟩; have n0_ := Aside0.mk (Kd.R_below (by (with_reducible repeat (first | apply Kd.R_alloc | apply Kd.R_drewN | apply Kd.R_drew)); exact HO_7.out) hb); have n1_ := Aside0.mk (blk_below (g := gb178) (o := .cells #[.slice none 0 0, .int .i64 x179001_2, .int .i64 x179002_2] 41 (0, 0)) (by (with_reducible repeat (first | refine blk_drewN ?_ _ | refine blk_drew ?_ | refine blk_alloc ?_ _)); exact BK178.out) hb); have n2_ := Aside0.mk (below_step (by repeat (first | (with_reducible first | exact HB.out | apply below_alloc | apply pw_below_drewN | apply below_drew1 | refine below_set ?_ GE178.out) | exact HB.out)) hb); clear HO_7; clear BK178; clear HB; have HO_7 := n0_; have BK178 := n1_; have HB := n2_; clear n0_ n1_ n2_; (try clear hb); (try clear hb2); (try clear hk); (try clear hi)) | ((with_reducible refine gate_dst (N := 9) rfl ?_); (try (refine gate_guard (by rfl) ?_; dsimp only)); refine box_event ?hg (N := 9) ?hd (cs := #[.int .u64 0, .int .i64 0, .int .i64 0]) (t := 61) ?hr ?_; (case hd => rfl); (case hg => rfl); (case hr => first | (go_simp; done) | (go_simp; rfl)); intro gb183 hg w42 hbox hb; have n0_ := Aside0.mk (Kd.R_below (by (with_reducible repeat (first | apply Kd.R_alloc | apply Kd.R_drewN | apply Kd.R_drew)); exact HO_7.out) hb); have n1_ := Aside0.mk (blk_below (g := gb178) (o := .cells #[.slice none 0 0, .int .i64 x179001_2, .int .i64 x179002_2] 41 (0, 0)) (by (with_reducible repeat (first | refine blk_drewN ?_ _ | refine blk_drew ?_ | refine blk_alloc ?_ _)); exact BK178.out) hb); have n2_ := Aside0.mk (below_step (by repeat (first | (with_reducible first | exact HB.out | apply below_alloc | apply pw_below_drewN | apply below_drew1 | refine below_set ?_ GE178.out) | exact HB.out)) hb); have n3_ := Aside0.mk (hbox); have n4_ := Aside0.mk ((by rw [hg]; exact (below_size (by repeat (first | (with_reducible first | exact HB.out | apply below_alloc | apply pw_below_drewN | apply below_drew1 | refine below_set ?_ GE178.out) | exact HB.out))) : w.heap.size ≤ gb183)); have n5_ := Aside0.mk ((by rw [hg]; exact (below_size (by repeat (first | (with_reducible first | exact HB.out | apply below_alloc | apply pw_below_drewN | apply below_drew1 | refine below_set ?_ GE178.out) | exact HB.out))) : w.heap.size ≤ gb183)); have n6_ := Aside0.mk ((by rw [hg]; exact Nat.ne_of_lt (blk_lt (g := gb178) (o := .cells #[.slice none 0 0, .int .i64 x179001_2, .int .i64 x179002_2] 41 (0, 0)) (by (with_reducible repeat (first | refine blk_drewN ?_ _ | refine blk_drew ?_ | refine blk_alloc ?_ _)); exact BK178.out)) : gb178 ≠ gb183)); have n7_ := Aside0.mk ((by rw [hg]; exact Nat.ne_of_gt (blk_lt (g := gb178) (o := .cells #[.slice none 0 0, .int .i64 x179001_2, .int .i64 x179002_2] 41 (0, 0)) (by (with_reducible repeat (first | refine blk_drewN ?_ _ | refine blk_drew ?_ | refine blk_alloc ?_ _)); exact BK178.out)) : gb183 ≠ gb178)); clear HO_7; clear BK178; clear HB; have HO_7 := n0_; have BK178 := n1_; have HB := n2_; have BK183 := n3_; have GW183 := n4_; have GE183 := n5_; have NB178_183 := n6_; have NB183_178 := n7_; clear n0_ n1_ n2_ n3_ n4_ n5_ n6_ n7_; clear hb hbox hg; have hnb43 := NB183_178.out; have hnc43 := NB178_183.out; have hcz44_0 : w42.cell? ⟨gb183, 0, none⟩ = some (.int .u64 0) := (blk_cell BK183.out 0).trans rfl; have hcz44_1 : w42.cell? ⟨gb183, 1, none⟩ = some (.int .i64 0) := (blk_cell BK183.out 1).trans rfl; have hcz44_2 : w42.cell? ⟨gb183, 2, none⟩ = some (.int .i64 0) := (blk_cell BK183.out 2).trans rfl; have hfz44_0 := blk_frozen BK183.out 0; have hfz44_1 := blk_frozen BK183.out 1; have hfz44_2 := blk_frozen BK183.out 2) | ((with_reducible refine gate_callee (f := 32) rfl ?_); refine goesL_ (some 52) rfl rfl Try.func32 (by kernel_rfl) rfl #[.string a0, .int .i64 t181] rfl (by (try simp only [List.map_toArray, List.map_cons, List.map_nil]); first | done | rfl | (simp only [List.length_drop, List.length_take]; rfl)) ?_; (with_reducible refine (wringerref1_GetVint.calls k2 a0 t181 t187 t188 t189 _ A23.out).mono ?_); rintro e w45 ⟨rfl, hb⟩; refine ⟨_, rfl, ?_⟩; have n0_ := Aside0.mk (Kd.R_below (by (with_reducible repeat (first | apply Kd.R_alloc | apply Kd.R_drewN | apply Kd.R_drew)); exact (Kd.R_mono (Kd.R_far (p := ⟨gb183, 2, none⟩) (Kd.R_far (p := ⟨gb183, 1, none⟩) (Kd.R_far (p := ⟨gb183, 0, none⟩) (Kd.R_types HO_7.out BK183.out (by decide)) (fun _ hk => hk.2) (.int .u64 t180)) (fun _ hk => hk.2) (.int .i64 t181)) (fun _ hk => hk.2) (.int .i64 t182)) (fun _ h_ => h_.1))) hb); have n1_ := Aside0.mk (blk_below (g := gb178) (o := .cells #[.slice none 0 0, .int .i64 x179001_2, .int .i64 x179002_2] 41 (0, 0)) (by (with_reducible repeat (first | refine blk_drewN ?_ _ | refine blk_drew ?_ | refine blk_alloc ?_ _)); refine blk_far ?_ NB178_183.out _; (with_reducible repeat (first | refine blk_drewN ?_ _ | refine blk_drew ?_ | refine blk_alloc ?_ _)); refine blk_far ?_ NB178_183.out _; (with_reducible repeat (first | refine blk_drewN ?_ _ | refine blk_drew ?_ | refine blk_alloc ?_ _)); refine blk_far ?_ NB178_183.out _; (with_reducible repeat (first | refine blk_drewN ?_ _ | refine blk_drew ?_ | refine blk_alloc ?_ _)); exact BK178.out) hb); have n2_ := Aside0.mk (blk_below (g := gb183) (o := .cells #[.int .u64 t180, .int .i64 t181, .int .i64 t182] 61 (0, 0)) (by (with_reducible repeat (first | refine blk_drewN ?_ _ | refine blk_drew ?_ | refine blk_alloc ?_ _)); refine blk_put (cs := #[.int .u64 t180, .int .i64 t181, .int .i64 0]) ?_ 2 _ rfl; (with_reducible repeat (first | refine blk_drewN ?_ _ | refine blk_drew ?_ | refine blk_alloc ?_ _)); refine blk_put (cs := #[.int .u64 t180, .int .i64 0, .int .i64 0]) ?_ 1 _ rfl; (with_reducible repeat (first | refine blk_drewN ?_ _ | refine blk_drew ?_ | refine blk_alloc ?_ _)); refine blk_put (cs := #[.int .u64 0, .int .i64 0, .int .i64 0]) ?_ 0 _ rfl; (with_reducible repeat (first | refine blk_drewN ?_ _ | refine blk_drew ?_ | refine blk_alloc ?_ _)); exact BK183.out) hb); have n3_ := Aside0.mk (below_step (by repeat (first | (with_reducible first | exact HB.out | apply below_alloc | apply pw_below_drewN | apply below_drew1 | refine below_set ?_ GE178.out | refine below_set ?_ GE183.out) | exact HB.out)) hb); clear HO_7; clear BK178; clear BK183; clear HB; have HO_7 := n0_; have BK178 := n1_; have BK183 := n2_; have HB := n3_; clear n0_ n1_ n2_ n3_; (try clear hb); (try clear hb2); (try clear hk); (try clear hi)) | ((with_reducible refine gate_dst (N := 10) rfl ?_); (try (refine gate_guard (by rfl) ?_; dsimp only)); refine box_event ?hg (N := 10) ?hd (cs := #[.int .u64 0, .int .i64 0, .int .i64 0]) (t := 61) ?hr ?_; (case hd => rfl); (case hg => rfl); (case hr => first | (go_simp; done) | (go_simp; rfl)); intro gb190 hg w46 hbox hb; have n0_ := Aside0.mk (Kd.R_below (by (with_reducible repeat (first | apply Kd.R_alloc | apply Kd.R_drewN | apply Kd.R_drew)); exact HO_7.out) hb); have n1_ := Aside0.mk (blk_below (g := gb178) (o := .cells #[.slice none 0 0, .int .i64 x179001_2, .int .i64 x179002_2] 41 (0, 0)) (by (with_reducible repeat (first | refine blk_drewN ?_ _ | refine blk_drew ?_ | refine blk_alloc ?_ _)); exact BK178.out) hb); have n2_ := Aside0.mk (blk_below (g := gb183) (o := .cells #[.int .u64 t180, .int .i64 t181, .int .i64 t182] 61 (0, 0)) (by (with_reducible repeat (first | refine blk_drewN ?_ _ | refine blk_drew ?_ | refine blk_alloc ?_ _)); exact BK183.out) hb); have n3_ := Aside0.mk (below_step (by repeat (first | (with_reducible first | exact HB.out | apply below_alloc | apply pw_below_drewN | apply below_drew1 | refine below_set ?_ GE178.out | refine below_set ?_ GE183.out) | exact HB.out)) hb); have n4_ := Aside0.mk (hbox); have n5_ := Aside0.mk ((by rw [hg]; exact (below_size (by repeat (first | (with_reducible first | exact HB.out | apply below_alloc | apply pw_below_drewN | apply below_drew1 | refine below_set ?_ GE178.out | refine below_set ?_ GE183.out) | exact HB.out))) : w.heap.size ≤ gb190)); have n6_ := Aside0.mk ((by rw [hg]; exact (below_size (by repeat (first | (with_reducible first | exact HB.out | apply below_alloc | apply pw_below_drewN | apply below_drew1 | refine below_set ?_ GE178.out | refine below_set ?_ GE183.out) | exact HB.out))) : w.heap.size ≤ gb190)); have n7_ := Aside0.mk ((by rw [hg]; exact Nat.ne_of_lt (blk_lt (g := gb178) (o := .cells #[.slice none 0 0, .int .i64 x179001_2, .int .i64 x179002_2] 41 (0, 0)) (by (with_reducible repeat (first | refine blk_drewN ?_ _ | refine blk_drew ?_ | refine blk_alloc ?_ _)); exact BK178.out)) : gb178 ≠ gb190)); have n8_ := Aside0.mk ((by rw [hg]; exact Nat.ne_of_gt (blk_lt (g := gb178) (o := .cells #[.slice none 0 0, .int .i64 x179001_2, .int .i64 x179002_2] 41 (0, 0)) (by (with_reducible repeat (first | refine blk_drewN ?_ _ | refine blk_drew ?_ | refine blk_alloc ?_ _)); exact BK178.out)) : gb190 ≠ gb178)); have n9_ := Aside0.mk ((by rw [hg]; exact Nat.ne_of_lt (blk_lt (g := gb183) (o := .cells #[.int .u64 t180, .int .i64 t181, .int .i64 t182] 61 (0, 0)) (by (with_reducible repeat (first | refine blk_drewN ?_ _ | refine blk_drew ?_ | refine blk_alloc ?_ _)); exact BK183.out)) : gb183 ≠ gb190)); have n10_ := Aside0.mk ((by rw [hg]; exact Nat.ne_of_gt (blk_lt (g := gb183) (o := .cells #[.int .u64 t180, .int .i64 t181, .int .i64 t182] 61 (0, 0)) (by (with_reducible repeat (first | refine blk_drewN ?_ _ | refine blk_drew ?_ | refine blk_alloc ?_ _)); exact BK183.out)) : gb190 ≠ gb183)); clear HO_7; clear BK178; clear BK183; clear HB; have HO_7 := n0_; have BK178 := n1_; have BK183 := n2_; have HB := n3_; have BK190 := n4_; have GW190 := n5_; have GE190 := n6_; have NB178_190 := n7_; have NB190_178 := n8_; have NB183_190 := n9_; have NB190_183 := n10_; clear n0_ n1_ n2_ n3_ n4_ n5_ n6_ n7_ n8_ n9_ n10_; clear hb hbox hg; have hnb47 := NB190_178.out; have hnc47 := NB178_190.out; have hnb48 := NB190_183.out; have hnc48 := NB183_190.out; have hcz49_0 : w46.cell? ⟨gb190, 0, none⟩ = some (.int .u64 0) := (blk_cell BK190.out 0).trans rfl; have hcz49_1 : w46.cell? ⟨gb190, 1, none⟩ = some (.int .i64 0) := (blk_cell BK190.out 1).trans rfl; have hcz49_2 : w46.cell? ⟨gb190, 2, none⟩ = some (.int .i64 0) := (blk_cell BK190.out 2).trans rfl; have hfz49_0 := blk_frozen BK190.out 0; have hfz49_1 := blk_frozen BK190.out 1; have hfz49_2 := blk_frozen BK190.out 2) | (at_builtin; refine Kd.R_append_zeros (Kd.int .i64) (w0 := w) w.heap.size rfl (.tmp 65) (.tmp 68) 24 55 3 (.int .i64 0) 8 rfl Try.underlying24 Try.underlying55 info3 rfl (by decide) (by omega) (.slice Ao40 x7_2.length co40) x7_2 0 (ji37 : Int) (fun _ => True) rfl rfl rfl ?aF ?aO (of_decide_eq_true (by first | (with_reducible assumption) | assumption)) ?aB ?aS ?aL ?_; (case aB => exact (by repeat (first | (with_reducible first | exact HB.out | apply below_alloc | apply pw_below_drewN | apply below_drew1 | refine below_set ?_ GE178.out | refine below_set ?_ GE183.out | refine below_set ?_ GE190.out) | exact HB.out))); (case aF => exact (fun _ _ => trivial)); (case aO => exact (by (with_reducible repeat (first | apply Kd.R_alloc | apply Kd.R_drewN | apply Kd.R_drew)); exact Kd.R_mono (Kd.R_far (p := ⟨gb190, 2, none⟩) (Kd.R_far (p := ⟨gb190, 1, none⟩) (Kd.R_far (p := ⟨gb190, 0, none⟩) (Kd.R_types HO_7.out BK190.out (by decide)) (fun _ hk => hk.2) (.int .u64 t187)) (fun _ hk => hk.2) (.int .i64 t188)) (fun _ hk => hk.2) (.int .i64 t189)) (fun _ hk => trivial))); (case aS => exact (below_size (by repeat (first | (with_reducible first | exact HB.out | apply below_alloc | apply pw_below_drewN | apply below_drew1 | refine below_set ?_ GE178.out | refine below_set ?_ GE183.out | refine below_set ?_ GE190.out) | exact HB.out)))); (case aL => have := LMc39.out; omega); intro v192 w50 ho hb hg hat; rw [← Ny191.out] at ho; have n0_ := Aside0.mk (blk_grown (g := gb178) (o := .cells #[.slice none 0 0, .int .i64 x179001_2, .int .i64 x179002_2] 41 (0, 0)) (by (with_reducible repeat (first | refine blk_drewN ?_ _ | refine blk_drew ?_ | refine blk_alloc ?_ _)); refine blk_far ?_ NB178_190.out _; (with_reducible repeat (first | refine blk_drewN ?_ _ | refine blk_drew ?_ | refine blk_alloc ?_ _)); refine blk_far ?_ NB178_190.out _; (with_reducible repeat (first | refine blk_drewN ?_ _ | refine blk_drew ?_ | refine blk_alloc ?_ _)); refine blk_far ?_ NB178_190.out _; (with_reducible repeat (first | refine blk_drewN ?_ _ | refine blk_drew ?_ | refine blk_alloc ?_ _)); exact BK178.out) hg (Kd.R_ne HO_7.out BK178.out (by decide))); have n1_ := Aside0.mk (blk_grown (g := gb183) (o := .cells #[.int .u64 t180, .int .i64 t181, .int .i64 t182] 61 (0, 0)) (by (with_reducible repeat (first | refine blk_drewN ?_ _ | refine blk_drew ?_ | refine blk_alloc ?_ _)); refine blk_far ?_ NB183_190.out _; (with_reducible repeat (first | refine blk_drewN ?_ _ | refine blk_drew ?_ | refine blk_alloc ?_ _)); refine blk_far ?_ NB183_190.out _; (with_reducible repeat (first | refine blk_drewN ?_ _ | refine blk_drew ?_ | refine blk_alloc ?_ _)); refine blk_far ?_ NB183_190.out _; (with_reducible repeat (first | refine blk_drewN ?_ _ | refine blk_drew ?_ | refine blk_alloc ?_ _)); exact BK183.out) hg (Kd.R_ne HO_7.out BK183.out (by decide))); have n2_ := Aside0.mk (blk_grown (g := gb190) (o := .cells #[.int .u64 t187, .int .i64 t188, .int .i64 t189] 61 (0, 0)) (by (with_reducible repeat (first | refine blk_drewN ?_ _ | refine blk_drew ?_ | refine blk_alloc ?_ _)); refine blk_put (cs := #[.int .u64 t187, .int .i64 t188, .int .i64 0]) ?_ 2 _ rfl; (with_reducible repeat (first | refine blk_drewN ?_ _ | refine blk_drew ?_ | refine blk_alloc ?_ _)); refine blk_put (cs := #[.int .u64 t187, .int .i64 0, .int .i64 0]) ?_ 1 _ rfl; (with_reducible repeat (first | refine blk_drewN ?_ _ | refine blk_drew ?_ | refine blk_alloc ?_ _)); refine blk_put (cs := #[.int .u64 0, .int .i64 0, .int .i64 0]) ?_ 0 _ rfl; (with_reducible repeat (first | refine blk_drewN ?_ _ | refine blk_drew ?_ | refine blk_alloc ?_ _)); exact BK190.out) hg (Kd.R_ne HO_7.out BK190.out (by decide))); have n3_ := Aside0.mk (hb); have n4_ := Aside0.mk (ho); clear BK178; clear BK183; clear BK190; clear HB; clear HO_7; have BK178 := n0_; have BK183 := n1_; have BK190 := n2_; have HB := n3_; have HO193 := n4_; clear n0_ n1_ n2_ n3_ n4_; clear ho hb hg hat))
                          go_roundg k2
                          case measure => have := HJ3.out; have := HK2.out; omega
                          case rel => exact ⟨(y191), (t188), (x179001_2), (x179002_2), (by first | rfl | (simp; done) | (simp [*]; done)), H', ⟨by have := HJ3.out; have := HK2.out; omega⟩, ⟨by (with_reducible repeat (first | apply Kd.R_alloc | apply Kd.R_drewN | apply Kd.R_drew)); exact HO193.out⟩, ⟨by (with_reducible repeat (first | refine blk_drewN ?_ _ | refine blk_drew ?_ | refine blk_alloc ?_ _)); exact BK178.out⟩, ⟨by repeat (first | (with_reducible first | exact HB.out | apply below_alloc | apply pw_below_drewN | apply below_drew1 | refine below_set ?_ GE178.out | refine below_set ?_ GE183.out | refine below_set ?_ GE190.out) | exact HB.out)⟩⟩
                        · rw [if_neg c39] at H
                          exact absurd H (by simp)
                      · rw [if_neg c38] at H
                        exact absurd H (by simp)
                  · rw [if_neg c24] at H
                    have c24b0 : (t189 == 0) = false := beq_eq_false_iff_ne.mpr c24
                    have c24b1 : (t189 != 0) = true := bne_iff_ne.mpr c24
                    simp only [Option.some.injEq, Prod.mk.injEq] at H
                    obtain ⟨rfl, rfl, rfl⟩ := H
                    obtain ⟨Ao51, co51, eo51⟩ := Kd.R_slice HO_7.out
                    subst eo51
                    go_wp2_with (first | ((with_reducible refine gate_callee (f := 32) rfl ?_); refine goesL_ (some 31) rfl rfl Try.func32 (by kernel_rfl) rfl #[.string a0, .int .i64 x8_2] rfl (by (try simp only [List.map_toArray, List.map_cons, List.map_nil]); first | done | rfl | (simp only [List.length_drop, List.length_take]; rfl)) ?_; (with_reducible refine (wringerref1_GetVint.calls k2 a0 x8_2 t180 t181 t182 _ A12.out).mono ?_); rintro e w52 ⟨rfl, hb⟩; refine ⟨_, rfl, ?_⟩; have n0_ := Aside0.mk (Kd.R_below (by (with_reducible repeat (first | apply Kd.R_alloc | apply Kd.R_drewN | apply Kd.R_drew)); exact HO_7.out) hb); have n1_ := Aside0.mk (blk_below (g := gb178) (o := .cells #[.slice none 0 0, .int .i64 x179001_2, .int .i64 x179002_2] 41 (0, 0)) (by (with_reducible repeat (first | refine blk_drewN ?_ _ | refine blk_drew ?_ | refine blk_alloc ?_ _)); exact BK178.out) hb); have n2_ := Aside0.mk (below_step (by repeat (first | (with_reducible first | exact HB.out | apply below_alloc | apply pw_below_drewN | apply below_drew1 | refine below_set ?_ GE178.out) | exact HB.out)) hb); clear HO_7; clear BK178; clear HB; have HO_7 := n0_; have BK178 := n1_; have HB := n2_; clear n0_ n1_ n2_; (try clear hb); (try clear hb2); (try clear hk); (try clear hi)) | ((with_reducible refine gate_dst (N := 9) rfl ?_); (try (refine gate_guard (by rfl) ?_; dsimp only)); refine box_event ?hg (N := 9) ?hd (cs := #[.int .u64 0, .int .i64 0, .int .i64 0]) (t := 61) ?hr ?_; (case hd => rfl); (case hg => rfl); (case hr => first | (go_simp; done) | (go_simp; rfl)); intro gb183 hg w53 hbox hb; have n0_ := Aside0.mk (Kd.R_below (by (with_reducible repeat (first | apply Kd.R_alloc | apply Kd.R_drewN | apply Kd.R_drew)); exact HO_7.out) hb); have n1_ := Aside0.mk (blk_below (g := gb178) (o := .cells #[.slice none 0 0, .int .i64 x179001_2, .int .i64 x179002_2] 41 (0, 0)) (by (with_reducible repeat (first | refine blk_drewN ?_ _ | refine blk_drew ?_ | refine blk_alloc ?_ _)); exact BK178.out) hb); have n2_ := Aside0.mk (below_step (by repeat (first | (with_reducible first | exact HB.out | apply below_alloc | apply pw_below_drewN | apply below_drew1 | refine below_set ?_ GE178.out) | exact HB.out)) hb); have n3_ := Aside0.mk (hbox); have n4_ := Aside0.mk ((by rw [hg]; exact (below_size (by repeat (first | (with_reducible first | exact HB.out | apply below_alloc | apply pw_below_drewN | apply below_drew1 | refine below_set ?_ GE178.out) | exact HB.out))) : w.heap.size ≤ gb183)); have n5_ := Aside0.mk ((by rw [hg]; exact (below_size (by repeat (first | (with_reducible first | exact HB.out | apply below_alloc | apply pw_below_drewN | apply below_drew1 | refine below_set ?_ GE178.out) | exact HB.out))) : w.heap.size ≤ gb183)); have n6_ := Aside0.mk ((by rw [hg]; exact Nat.ne_of_lt (blk_lt (g := gb178) (o := .cells #[.slice none 0 0, .int .i64 x179001_2, .int .i64 x179002_2] 41 (0, 0)) (by (with_reducible repeat (first | refine blk_drewN ?_ _ | refine blk_drew ?_ | refine blk_alloc ?_ _)); exact BK178.out)) : gb178 ≠ gb183)); have n7_ := Aside0.mk ((by rw [hg]; exact Nat.ne_of_gt (blk_lt (g := gb178) (o := .cells #[.slice none 0 0, .int .i64 x179001_2, .int .i64 x179002_2] 41 (0, 0)) (by (with_reducible repeat (first | refine blk_drewN ?_ _ | refine blk_drew ?_ | refine blk_alloc ?_ _)); exact BK178.out)) : gb183 ≠ gb178)); clear HO_7; clear BK178; clear HB; have HO_7 := n0_; have BK178 := n1_; have HB := n2_; have BK183 := n3_; have GW183 := n4_; have GE183 := n5_; have NB178_183 := n6_; have NB183_178 := n7_; clear n0_ n1_ n2_ n3_ n4_ n5_ n6_ n7_; clear hb hbox hg; have hnb54 := NB183_178.out; have hnc54 := NB178_183.out; have hcz55_0 : w53.cell? ⟨gb183, 0, none⟩ = some (.int .u64 0) := (blk_cell BK183.out 0).trans rfl; have hcz55_1 : w53.cell? ⟨gb183, 1, none⟩ = some (.int .i64 0) := (blk_cell BK183.out 1).trans rfl; have hcz55_2 : w53.cell? ⟨gb183, 2, none⟩ = some (.int .i64 0) := (blk_cell BK183.out 2).trans rfl; have hfz55_0 := blk_frozen BK183.out 0; have hfz55_1 := blk_frozen BK183.out 1; have hfz55_2 := blk_frozen BK183.out 2) | ((with_reducible refine gate_callee (f := 32) rfl ?_); refine goesL_ (some 52) rfl rfl Try.func32 (by kernel_rfl) rfl #[.string a0, .int .i64 t181] rfl (by (try simp only [List.map_toArray, List.map_cons, List.map_nil]); first | done | rfl | (simp only [List.length_drop, List.length_take]; rfl)) ?_; (with_reducible refine (wringerref1_GetVint.calls k2 a0 t181 t187 t188 t189 _ A23.out).mono ?_); rintro e w56 ⟨rfl, hb⟩; refine ⟨_, rfl, ?_⟩; have n0_ := Aside0.mk (Kd.R_below (by (with_reducible repeat (first | apply Kd.R_alloc | apply Kd.R_drewN | apply Kd.R_drew)); exact (Kd.R_mono (Kd.R_far (p := ⟨gb183, 2, none⟩) (Kd.R_far (p := ⟨gb183, 1, none⟩) (Kd.R_far (p := ⟨gb183, 0, none⟩) (Kd.R_types HO_7.out BK183.out (by decide)) (fun _ hk => hk.2) (.int .u64 t180)) (fun _ hk => hk.2) (.int .i64 t181)) (fun _ hk => hk.2) (.int .i64 t182)) (fun _ h_ => h_.1))) hb); have n1_ := Aside0.mk (blk_below (g := gb178) (o := .cells #[.slice none 0 0, .int .i64 x179001_2, .int .i64 x179002_2] 41 (0, 0)) (by (with_reducible repeat (first | refine blk_drewN ?_ _ | refine blk_drew ?_ | refine blk_alloc ?_ _)); refine blk_far ?_ NB178_183.out _; (with_reducible repeat (first | refine blk_drewN ?_ _ | refine blk_drew ?_ | refine blk_alloc ?_ _)); refine blk_far ?_ NB178_183.out _; (with_reducible repeat (first | refine blk_drewN ?_ _ | refine blk_drew ?_ | refine blk_alloc ?_ _)); refine blk_far ?_ NB178_183.out _; (with_reducible repeat (first | refine blk_drewN ?_ _ | refine blk_drew ?_ | refine blk_alloc ?_ _)); exact BK178.out) hb); have n2_ := Aside0.mk (blk_below (g := gb183) (o := .cells #[.int .u64 t180, .int .i64 t181, .int .i64 t182] 61 (0, 0)) (by (with_reducible repeat (first | refine blk_drewN ?_ _ | refine blk_drew ?_ | refine blk_alloc ?_ _)); refine blk_put (cs := #[.int .u64 t180, .int .i64 t181, .int .i64 0]) ?_ 2 _ rfl; (with_reducible repeat (first | refine blk_drewN ?_ _ | refine blk_drew ?_ | refine blk_alloc ?_ _)); refine blk_put (cs := #[.int .u64 t180, .int .i64 0, .int .i64 0]) ?_ 1 _ rfl; (with_reducible repeat (first | refine blk_drewN ?_ _ | refine blk_drew ?_ | refine blk_alloc ?_ _)); refine blk_put (cs := #[.int .u64 0, .int .i64 0, .int .i64 0]) ?_ 0 _ rfl; (with_reducible repeat (first | refine blk_drewN ?_ _ | refine blk_drew ?_ | refine blk_alloc ?_ _)); exact BK183.out) hb); have n3_ := Aside0.mk (below_step (by repeat (first | (with_reducible first | exact HB.out | apply below_alloc | apply pw_below_drewN | apply below_drew1 | refine below_set ?_ GE178.out | refine below_set ?_ GE183.out) | exact HB.out)) hb); clear HO_7; clear BK178; clear BK183; clear HB; have HO_7 := n0_; have BK178 := n1_; have BK183 := n2_; have HB := n3_; clear n0_ n1_ n2_ n3_; (try clear hb); (try clear hb2); (try clear hk); (try clear hi)) | ((with_reducible refine gate_dst (N := 10) rfl ?_); (try (refine gate_guard (by rfl) ?_; dsimp only)); refine box_event ?hg (N := 10) ?hd (cs := #[.int .u64 0, .int .i64 0, .int .i64 0]) (t := 61) ?hr ?_; (case hd => rfl); (case hg => rfl); (case hr => first | (go_simp; done) | (go_simp; rfl)); intro gb190 hg w57 hbox hb; have n0_ := Aside0.mk (Kd.R_below (by (with_reducible repeat (first | apply Kd.R_alloc | apply Kd.R_drewN | apply Kd.R_drew)); exact HO_7.out) hb); have n1_ := Aside0.mk (blk_below (g := gb178) (o := .cells #[.slice none 0 0, .int .i64 x179001_2, .int .i64 x179002_2] 41 (0, 0)) (by (with_reducible repeat (first | refine blk_drewN ?_ _ | refine blk_drew ?_ | refine blk_alloc ?_ _)); exact BK178.out) hb); have n2_ := Aside0.mk (blk_below (g := gb183) (o := .cells #[.int .u64 t180, .int .i64 t181, .int .i64 t182] 61 (0, 0)) (by (with_reducible repeat (first | refine blk_drewN ?_ _ | refine blk_drew ?_ | refine blk_alloc ?_ _)); exact BK183.out) hb); have n3_ := Aside0.mk (below_step (by repeat (first | (with_reducible first | exact HB.out | apply below_alloc | apply pw_below_drewN | apply below_drew1 | refine below_set ?_ GE178.out | refine below_set ?_ GE183.out) | exact HB.out)) hb); have n4_ := Aside0.mk (hbox); have n5_ := Aside0.mk ((by rw [hg]; exact (below_size (by repeat (first | (with_reducible first | exact HB.out | apply below_alloc | apply pw_below_drewN | apply below_drew1 | refine below_set ?_ GE178.out | refine below_set ?_ GE183.out) | exact HB.out))) : w.heap.size ≤ gb190)); have n6_ := Aside0.mk ((by rw [hg]; exact (below_size (by repeat (first | (with_reducible first | exact HB.out | apply below_alloc | apply pw_below_drewN | apply below_drew1 | refine below_set ?_ GE178.out | refine below_set ?_ GE183.out) | exact HB.out))) : w.heap.size ≤ gb190)); have n7_ := Aside0.mk ((by rw [hg]; exact Nat.ne_of_lt (blk_lt (g := gb178) (o := .cells #[.slice none 0 0, .int .i64 x179001_2, .int .i64 x179002_2] 41 (0, 0)) (by (with_reducible repeat (first | refine blk_drewN ?_ _ | refine blk_drew ?_ | refine blk_alloc ?_ _)); exact BK178.out)) : gb178 ≠ gb190)); have n8_ := Aside0.mk ((by rw [hg]; exact Nat.ne_of_gt (blk_lt (g := gb178) (o := .cells #[.slice none 0 0, .int .i64 x179001_2, .int .i64 x179002_2] 41 (0, 0)) (by (with_reducible repeat (first | refine blk_drewN ?_ _ | refine blk_drew ?_ | refine blk_alloc ?_ _)); exact BK178.out)) : gb190 ≠ gb178)); have n9_ := Aside0.mk ((by rw [hg]; exact Nat.ne_of_lt (blk_lt (g := gb183) (o := .cells #[.int .u64 t180, .int .i64 t181, .int .i64 t182] 61 (0, 0)) (by (with_reducible repeat (first | refine blk_drewN ?_ _ | refine blk_drew ?_ | refine blk_alloc ?_ _)); exact BK183.out)) : gb183 ≠ gb190)); have n10_ := Aside0.mk ((by rw [hg]; exact Nat.ne_of_gt (blk_lt (g := gb183) (o := .cells #[.int .u64 t180, .int .i64 t181, .int .i64 t182] 61 (0, 0)) (by (with_reducible repeat (first | refine blk_drewN ?_ _ | refine blk_drew ?_ | refine blk_alloc ?_ _)); exact BK183.out)) : gb190 ≠ gb183)); clear HO_7; clear BK178; clear BK183; clear HB; have HO_7 := n0_; have BK178 := n1_; have BK183 := n2_; have HB := n3_; have BK190 := n4_; have GW190 := n5_; have GE190 := n6_; have NB178_190 := n7_; have NB190_178 := n8_; have NB183_190 := n9_; have NB190_183 := n10_; clear n0_ n1_ n2_ n3_ n4_ n5_ n6_ n7_ n8_ n9_ n10_; clear hb hbox hg; have hnb58 := NB190_178.out; have hnc58 := NB178_190.out; have hnb59 := NB190_183.out; have hnc59 := NB183_190.out; have hcz60_0 : w57.cell? ⟨gb190, 0, none⟩ = some (.int .u64 0) := (blk_cell BK190.out 0).trans rfl; have hcz60_1 : w57.cell? ⟨gb190, 1, none⟩ = some (.int .i64 0) := (blk_cell BK190.out 1).trans rfl; have hcz60_2 : w57.cell? ⟨gb190, 2, none⟩ = some (.int .i64 0) := (blk_cell BK190.out 2).trans rfl; have hfz60_0 := blk_frozen BK190.out 0; have hfz60_1 := blk_frozen BK190.out 1; have hfz60_2 := blk_frozen BK190.out 2; have hcz61_0 : w57.cell? ⟨gb178, 0, none⟩ = some (.slice none 0 0) := (blk_cell BK178.out 0).trans rfl; have hcz61_1 : w57.cell? ⟨gb178, 1, none⟩ = some (.int .i64 x179001_2) := (blk_cell BK178.out 1).trans rfl; have hcz61_2 : w57.cell? ⟨gb178, 2, none⟩ = some (.int .i64 x179002_2) := (blk_cell BK178.out 2).trans rfl; have hfz61_0 := blk_frozen BK178.out 0; have hfz61_1 := blk_frozen BK178.out 1; have hfz61_2 := blk_frozen BK178.out 2))
                    refine bodyPost_ret (results_cell_row rfl _ _ gb178 41 #[.slice none 0 0, .int .i64 0, .int .i64 t189] (0, 0) _ rfl (by (with_reducible repeat (first | refine blk_drewN ?_ _ | refine blk_drew ?_ | refine blk_alloc ?_ _)); refine blk_put (cs := #[.slice none 0 0, .int .i64 0, .int .i64 x179002_2]) ?_ 2 _ rfl; (with_reducible repeat (first | refine blk_drewN ?_ _ | refine blk_drew ?_ | refine blk_alloc ?_ _)); refine blk_put (cs := #[.slice none 0 0, .int .i64 x179001_2, .int .i64 x179002_2]) ?_ 1 _ rfl; (with_reducible repeat (first | refine blk_drewN ?_ _ | refine blk_drew ?_ | refine blk_alloc ?_ _)); refine blk_put (cs := #[.slice none 0 0, .int .i64 x179001_2, .int .i64 x179002_2]) ?_ 0 _ rfl; (with_reducible repeat (first | refine blk_drewN ?_ _ | refine blk_drew ?_ | refine blk_alloc ?_ _)); refine blk_far ?_ NB178_190.out _; (with_reducible repeat (first | refine blk_drewN ?_ _ | refine blk_drew ?_ | refine blk_alloc ?_ _)); refine blk_far ?_ NB178_190.out _; (with_reducible repeat (first | refine blk_drewN ?_ _ | refine blk_drew ?_ | refine blk_alloc ?_ _)); refine blk_far ?_ NB178_190.out _; (with_reducible repeat (first | refine blk_drewN ?_ _ | refine blk_drew ?_ | refine blk_alloc ?_ _)); exact BK178.out) Try.underlying41 rfl (by kernel_rfl)) rfl ?_
                    exact ⟨_, by first | rfl | (simp [errW_none, errW_some] <;> rfl) | (simp [*, errW_none, errW_some] <;> rfl), by first | exact Kd.R_nil _ _ _ _ _ | exact Kd.N_nil _ _ _ _ _ | exact Kd.V_nil _ _ _ _ _ | exact Kd.Q_nil _ _ _ _ _ | exact Kd.S_nil _ _ _ _ _, by repeat (first | (with_reducible first | exact HB.out | apply below_alloc | apply pw_below_drewN | apply below_drew1 | refine below_set ?_ GE178.out | refine below_set ?_ GE183.out | refine below_set ?_ GE190.out) | exact HB.out)⟩
              · rw [if_neg c13] at H
                have c13b0 : (t182 == 0) = false := beq_eq_false_iff_ne.mpr c13
                have c13b1 : (t182 != 0) = true := bne_iff_ne.mpr c13
                simp only [Option.some.injEq, Prod.mk.injEq] at H
                obtain ⟨rfl, rfl, rfl⟩ := H
                obtain ⟨Ao62, co62, eo62⟩ := Kd.R_slice HO_7.out
                subst eo62
                go_wp2_with (first | ((with_reducible refine gate_callee (f := 32) rfl ?_); refine goesL_ (some 31) rfl rfl Try.func32 (by kernel_rfl) rfl #[.string a0, .int .i64 x8_2] rfl (by (try simp only [List.map_toArray, List.map_cons, List.map_nil]); first | done | rfl | (simp only [List.length_drop, List.length_take]; rfl)) ?_; (with_reducible refine (wringerref1_GetVint.calls k2 a0 x8_2 t180 t181 t182 _ A12.out).mono ?_); rintro e w63 ⟨rfl, hb⟩; refine ⟨_, rfl, ?_⟩; have n0_ := Aside0.mk (Kd.R_below (by (with_reducible repeat (first | apply Kd.R_alloc | apply Kd.R_drewN | apply Kd.R_drew)); exact HO_7.out) hb); have n1_ := Aside0.mk (blk_below (g := gb178) (o := .cells #[.slice none 0 0, .int .i64 x179001_2, .int .i64 x179002_2] 41 (0, 0)) (by (with_reducible repeat (first | refine blk_drewN ?_ _ | refine blk_drew ?_ | refine blk_alloc ?_ _)); exact BK178.out) hb); have n2_ := Aside0.mk (below_step (by repeat (first | (with_reducible first | exact HB.out | apply below_alloc | apply pw_below_drewN | apply below_drew1 | refine below_set ?_ GE178.out) | exact HB.out)) hb); clear HO_7; clear BK178; clear HB; have HO_7 := n0_; have BK178 := n1_; have HB := n2_; clear n0_ n1_ n2_; (try clear hb); (try clear hb2); (try clear hk); (try clear hi)) | ((with_reducible refine gate_dst (N := 9) rfl ?_); (try (refine gate_guard (by rfl) ?_; dsimp only)); refine box_event ?hg (N := 9) ?hd (cs := #[.int .u64 0, .int .i64 0, .int .i64 0]) (t := 61) ?hr ?_; (case hd => rfl); (case hg => rfl); (case hr => first | (go_simp; done) | (go_simp; rfl)); intro gb183 hg w64 hbox hb; have n0_ := Aside0.mk (Kd.R_below (by (with_reducible repeat (first | apply Kd.R_alloc | apply Kd.R_drewN | apply Kd.R_drew)); exact HO_7.out) hb); have n1_ := Aside0.mk (blk_below (g := gb178) (o := .cells #[.slice none 0 0, .int .i64 x179001_2, .int .i64 x179002_2] 41 (0, 0)) (by (with_reducible repeat (first | refine blk_drewN ?_ _ | refine blk_drew ?_ | refine blk_alloc ?_ _)); exact BK178.out) hb); have n2_ := Aside0.mk (below_step (by repeat (first | (with_reducible first | exact HB.out | apply below_alloc | apply pw_below_drewN | apply below_drew1 | refine below_set ?_ GE178.out) | exact HB.out)) hb); have n3_ := Aside0.mk (hbox); have n4_ := Aside0.mk ((by rw [hg]; exact (below_size (by repeat (first | (with_reducible first | exact HB.out | apply below_alloc | apply pw_below_drewN | apply below_drew1 | refine below_set ?_ GE178.out) | exact HB.out))) : w.heap.size ≤ gb183)); have n5_ := Aside0.mk ((by rw [hg]; exact (below_size (by repeat (first | (with_reducible first | exact HB.out | apply below_alloc | apply pw_below_drewN | apply below_drew1 | refine below_set ?_ GE178.out) | exact HB.out))) : w.heap.size ≤ gb183)); have n6_ := Aside0.mk ((by rw [hg]; exact Nat.ne_of_lt (blk_lt (g := gb178) (o := .cells #[.slice none 0 0, .int .i64 x179001_2, .int .i64 x179002_2] 41 (0, 0)) (by (with_reducible repeat (first | refine blk_drewN ?_ _ | refine blk_drew ?_ | refine blk_alloc ?_ _)); exact BK178.out)) : gb178 ≠ gb183)); have n7_ := Aside0.mk ((by rw [hg]; exact Nat.ne_of_gt (blk_lt (g := gb178) (o := .cells #[.slice none 0 0, .int .i64 x179001_2, .int .i64 x179002_2] 41 (0, 0)) (by (with_reducible repeat (first | refine blk_drewN ?_ _ | refine blk_drew ?_ | refine blk_alloc ?_ _)); exact BK178.out)) : gb183 ≠ gb178)); clear HO_7; clear BK178; clear HB; have HO_7 := n0_; have BK178 := n1_; have HB := n2_; have BK183 := n3_; have GW183 := n4_; have GE183 := n5_; have NB178_183 := n6_; have NB183_178 := n7_; clear n0_ n1_ n2_ n3_ n4_ n5_ n6_ n7_; clear hb hbox hg; have hnb65 := NB183_178.out; have hnc65 := NB178_183.out; have hcz66_0 : w64.cell? ⟨gb183, 0, none⟩ = some (.int .u64 0) := (blk_cell BK183.out 0).trans rfl; have hcz66_1 : w64.cell? ⟨gb183, 1, none⟩ = some (.int .i64 0) := (blk_cell BK183.out 1).trans rfl; have hcz66_2 : w64.cell? ⟨gb183, 2, none⟩ = some (.int .i64 0) := (blk_cell BK183.out 2).trans rfl; have hfz66_0 := blk_frozen BK183.out 0; have hfz66_1 := blk_frozen BK183.out 1; have hfz66_2 := blk_frozen BK183.out 2; have hcz67_0 : w64.cell? ⟨gb178, 0, none⟩ = some (.slice none 0 0) := (blk_cell BK178.out 0).trans rfl; have hcz67_1 : w64.cell? ⟨gb178, 1, none⟩ = some (.int .i64 x179001_2) := (blk_cell BK178.out 1).trans rfl; have hcz67_2 : w64.cell? ⟨gb178, 2, none⟩ = some (.int .i64 x179002_2) := (blk_cell BK178.out 2).trans rfl; have hfz67_0 := blk_frozen BK178.out 0; have hfz67_1 := blk_frozen BK178.out 1; have hfz67_2 := blk_frozen BK178.out 2))
                refine bodyPost_ret (results_cell_row rfl _ _ gb178 41 #[.slice none 0 0, .int .i64 0, .int .i64 t182] (0, 0) _ rfl (by (with_reducible repeat (first | refine blk_drewN ?_ _ | refine blk_drew ?_ | refine blk_alloc ?_ _)); refine blk_put (cs := #[.slice none 0 0, .int .i64 0, .int .i64 x179002_2]) ?_ 2 _ rfl; (with_reducible repeat (first | refine blk_drewN ?_ _ | refine blk_drew ?_ | refine blk_alloc ?_ _)); refine blk_put (cs := #[.slice none 0 0, .int .i64 x179001_2, .int .i64 x179002_2]) ?_ 1 _ rfl; (with_reducible repeat (first | refine blk_drewN ?_ _ | refine blk_drew ?_ | refine blk_alloc ?_ _)); refine blk_put (cs := #[.slice none 0 0, .int .i64 x179001_2, .int .i64 x179002_2]) ?_ 0 _ rfl; (with_reducible repeat (first | refine blk_drewN ?_ _ | refine blk_drew ?_ | refine blk_alloc ?_ _)); refine blk_far ?_ NB178_183.out _; (with_reducible repeat (first | refine blk_drewN ?_ _ | refine blk_drew ?_ | refine blk_alloc ?_ _)); refine blk_far ?_ NB178_183.out _; (with_reducible repeat (first | refine blk_drewN ?_ _ | refine blk_drew ?_ | refine blk_alloc ?_ _)); refine blk_far ?_ NB178_183.out _; (with_reducible repeat (first | refine blk_drewN ?_ _ | refine blk_drew ?_ | refine blk_alloc ?_ _)); exact BK178.out) Try.underlying41 rfl (by kernel_rfl)) rfl ?_
                exact ⟨_, by first | rfl | (simp [errW_none, errW_some] <;> rfl) | (simp [*, errW_none, errW_some] <;> rfl), by first | exact Kd.R_nil _ _ _ _ _ | exact Kd.N_nil _ _ _ _ _ | exact Kd.V_nil _ _ _ _ _ | exact Kd.Q_nil _ _ _ _ _ | exact Kd.S_nil _ _ _ _ _, by repeat (first | (with_reducible first | exact HB.out | apply below_alloc | apply pw_below_drewN | apply below_drew1 | refine below_set ?_ GE178.out | refine below_set ?_ GE183.out) | exact HB.out)⟩
            · rw [if_neg c11] at H
              have c11b0 : decide ((x7_2.length : Int) < 65) = false := decide_eq_false c11
              have c11b1 : decide (x7_2.length < 65) = false := decide_eq_false (by omega)
              clear c11
              replace H := Option.bind_eq_some_iff.mp H
              obtain ⟨t194, A680, H⟩ := H
              replace H : (if t194 = true then ((wringerref7_PutNorm.f k2 x7_2).bind fun t195 => (if 0 ≤ a1 then (if a1 ≤ x8_2 then (if x8_2 ≤ (a0.size : Int) then (if t195.toList = (a0.extract (a1 : Int).toNat (x8_2 : Int).toNat).toList then (some (x7_2, x8_2, 0)) else (some (([] : List Int), 0, 3))) else (none)) else (none)) else (none))) else (some (([] : List Int), 0, 3))) = some (r1, r2, r3) := H
              have A68 := Aside0.mk A680
              clear A680
              by_cases c69 : t194 = true
              · subst c69
                have H1 : ((wringerref7_PutNorm.f k2 x7_2).bind fun t195 => (if 0 ≤ a1 then (if a1 ≤ x8_2 then (if x8_2 ≤ (a0.size : Int) then (if t195.toList = (a0.extract (a1 : Int).toNat (x8_2 : Int).toNat).toList then (some (x7_2, x8_2, 0)) else (some (([] : List Int), 0, 3))) else (none)) else (none)) else (none))) = some (r1, r2, r3) := by rw [if_pos rfl] at H; exact H
                clear H
                have H := H1
                clear H1
                replace H := Option.bind_eq_some_iff.mp H
                obtain ⟨t195, A700, H⟩ := H
                replace H : (if 0 ≤ a1 then (if a1 ≤ x8_2 then (if x8_2 ≤ (a0.size : Int) then (if t195.toList = (a0.extract (a1 : Int).toNat (x8_2 : Int).toNat).toList then (some (x7_2, x8_2, 0)) else (some (([] : List Int), 0, 3))) else (none)) else (none)) else (none)) = some (r1, r2, r3) := H
                have A70 := Aside0.mk A700
                clear A700
                by_cases c71 : 0 ≤ a1
                · rw [if_pos c71] at H
                  have c71b0 := eq_true c71
                  have c71b1 : decide (0 ≤ a1) = true := decide_eq_true c71
                  clear c71
                  by_cases c72 : a1 ≤ x8_2
                  · rw [if_pos c72] at H
                    have c72b0 := eq_true c72
                    have c72b1 : decide (a1 ≤ x8_2) = true := decide_eq_true c72
                    clear c72
                    by_cases c73 : x8_2 ≤ (a0.size : Int)
                    · rw [if_pos c73] at H
                      have c73b0 := eq_true c73
                      have c73b1 : decide (x8_2 ≤ (a0.size : Int)) = true := decide_eq_true c73
                      clear c73
                      by_cases c74 : t195.toList = (a0.extract (a1 : Int).toNat (x8_2 : Int).toNat).toList
                      · rw [if_pos c74] at H
                        have c74b0 : (t195.toList == (a0.extract (a1 : Int).toNat (x8_2 : Int).toNat).toList) = true := beq_iff_eq.mpr c74
                        have c74b1 : (t195.toList != (a0.extract (a1 : Int).toNat (x8_2 : Int).toNat).toList) = false := bne_eq_false_iff_eq.mpr c74
                        clear c74
                        simp only [Option.some.injEq, Prod.mk.injEq] at H
                        obtain ⟨rfl, rfl, rfl⟩ := H
                        obtain ⟨Ao75, co75, eo75⟩ := Kd.R_slice HO_7.out
                        subst eo75
                        try go_wp2
                        have n0_ := Aside0.mk (Kd.R_drew HO_7.out)
                        have n1_ := Aside0.mk (blk_drew BK178.out)
                        have n2_ := Aside0.mk (below_drew1 HB.out)
                        clear HO_7
                        clear BK178
                        clear HB
                        have HO_7 := n0_
                        have BK178 := n1_
                        have HB := n2_
                        clear n0_ n1_ n2_
                        refine start_ (n := 13) (S := fun w' => True) (ds := []) #[false, false, false, false, false, false, false, false, false, false, false, false, false] (by kernel_rfl) rfl rfl trivial (fun hHeld => ?_); refine with_tabW wringerref7_GetNorm.tab19 wringerref7_GetNorm.bits19 (fun HT_ HW_ => ?_)
                        generalize wr.drew = w76 at HO_7 BK178 HB hHeld ⊢
                        refine pure_ (i := 0) (N := some 70) (v := ?_) (a' := ?_) #[true, false, false, false, false, false, false, false, false, false, false, false, false] rfl rfl (any_of HT_.out (by kernel_rfl)) (fun _ _ _ h => h) (Or.inl ⟨by rfl, ?_⟩) ?_ ?_
                        rotate_left
                        · intro w'
                          go_simp
                          with_reducible rfl
                        rotate_left
                        · simp only [Act.put, List.setIfInBounds_toArray, List.set_cons_zero, List.set_cons_succ, i64_w, i32_w]
                          rfl
                        refine pure_ (i := 1) (N := some 71) (v := ?_) (a' := ?_) #[true, true, false, false, false, false, false, false, false, false, false, false, false] rfl rfl (any_of HT_.out (by kernel_rfl)) (fun _ _ _ h => h) (Or.inl ⟨by rfl, ?_⟩) ?_ ?_
                        rotate_left
                        · intro w'
                          go_simp
                          with_reducible rfl
                        rotate_left
                        · simp only [Act.put, List.setIfInBounds_toArray, List.set_cons_zero, List.set_cons_succ, i64_w, i32_w]
                          rfl
                        refine one_ (i := 2) (N := some 72) #[true, true, true, false, false, false, false, false, false, false, false, false, false] rfl rfl (one_of HT_.out (by kernel_rfl)) (by decide) (fun K hK => ?_)
                        refine goes_ Try.func18 (by kernel_rfl) rfl #[.slice Ao75 x7_2.length co75, .int .i64 a2] (by rfl) rfl rfl (by (try simp only [List.map_toArray, List.map_cons, List.map_nil]); first | done | rfl | (simp only [List.length_drop, List.length_take]; rfl)) ?_
                        with_reducible refine (wringerref7_MayNorm.calls k2 _ _ x7_2 a2 true _ ?side1 ?side2 A68.out).mono ?_
                        (case side1 => repeat (first | exact (Kd.R_reads' HO_7.out).2.2 | (with_reducible refine Kd.C_alloc ?_ _) | (with_reducible refine Kd.C_drewN ?_ _) | (with_reducible refine Kd.C_drew ?_)))
                        (case side2 => exact (Kd.R_reads' HO_7.out).2.1)
                        rintro e w' ⟨rfl, ⟨nd, rfl⟩⟩
                        refine ⟨_, rfl, ?_⟩
                        refine hK.out _ _ trivial (fun hHeld => ?_)
                        clear hK K
                        refine norm_ (a' := ?_) ?_ ?_
                        rotate_left
                        · show Act.put _ (some 72) _ = _
                          simp only [Act.put, List.setIfInBounds_toArray, List.set_cons_zero, List.set_cons_succ, i64_w, i32_w]
                          rfl
                        refine pure_ (i := 3) (N := some 73) (v := ?_) (a' := ?_) #[true, true, true, true, false, false, false, false, false, false, false, false, false] rfl rfl (any_of HT_.out (by kernel_rfl)) (fun _ _ _ h => h) (Or.inl ⟨by rfl, ?_⟩) ?_ ?_
                        rotate_left
                        · intro w'
                          go_simp
                          with_reducible rfl
                        rotate_left
                        · simp only [Act.put, List.setIfInBounds_toArray, List.set_cons_zero, List.set_cons_succ, i64_w, i32_w]
                          rfl
                        refine pure_ (i := 4) (N := some 74) (v := ?_) (a' := ?_) #[true, true, true, true, true, false, false, false, false, false, false, false, false] rfl rfl (any_of HT_.out (by kernel_rfl)) (fun _ _ _ h => h) (Or.inl ⟨by rfl, ?_⟩) ?_ ?_
                        rotate_left
                        · intro w'
                          go_simp
                          with_reducible rfl
                        rotate_left
                        · simp only [Act.put, List.setIfInBounds_toArray, List.set_cons_zero, List.set_cons_succ, i64_w, i32_w]
                          rfl
                        refine pure_ (i := 5) (N := some 75) (v := ?_) (a' := ?_) #[true, true, true, true, true, true, false, false, false, false, false, false, false] rfl rfl (any_of HT_.out (by kernel_rfl)) (fun _ _ _ h => h) (Or.inl ⟨by rfl, ?_⟩) ?_ ?_
                        rotate_left
                        · intro w'
                          go_simp
                          with_reducible rfl
                        rotate_left
                        · simp only [Act.put, List.setIfInBounds_toArray, List.set_cons_zero, List.set_cons_succ, i64_w, i32_w]
                          rfl
                        refine pure_ (i := 7) (N := some 77) (v := ?_) (a' := ?_) #[true, true, true, true, true, true, false, true, false, false, false, false, false] rfl rfl (any_of HT_.out (by kernel_rfl)) (fun _ _ _ h => h) (Or.inl ⟨by rfl, ?_⟩) ?_ ?_
                        rotate_left
                        · intro w'
                          go_simp
                          with_reducible rfl
                        rotate_left
                        · simp only [Act.put, List.setIfInBounds_toArray, List.set_cons_zero, List.set_cons_succ, i64_w, i32_w]
                          rfl
                        refine pure_ (i := 8) (N := some 78) (v := ?_) (a' := ?_) #[true, true, true, true, true, true, false, true, true, false, false, false, false] rfl rfl (any_of HT_.out (by kernel_rfl)) (fun _ _ _ h => h) (Or.inl ⟨by rfl, ?_⟩) ?_ ?_
                        rotate_left
                        · intro w'
                          go_simp
                          with_reducible rfl
                        rotate_left
                        · simp only [Act.put, List.setIfInBounds_toArray, List.set_cons_zero, List.set_cons_succ, i64_w, i32_w]
                          rfl
                        refine pure_ (i := 9) (N := some 79) (v := ?_) (a' := ?_) #[true, true, true, true, true, true, false, true, true, true, false, false, false] rfl rfl (any_of HT_.out (by kernel_rfl)) (fun _ _ _ h => h) (Or.inl ⟨by rfl, ?_⟩) ?_ ?_
                        rotate_left
                        · intro w'
                          go_simp
                          with_reducible rfl
                        rotate_left
                        · simp only [Act.put, List.setIfInBounds_toArray, List.set_cons_zero, List.set_cons_succ, i64_w, i32_w]
                          rfl
                        refine pure_ (i := 10) (N := some 80) (v := ?_) (a' := ?_) #[true, true, true, true, true, true, false, true, true, true, true, false, false] rfl rfl (any_of HT_.out (by kernel_rfl)) (fun _ _ _ h => h) (Or.inl ⟨by rfl, ?_⟩) ?_ ?_
                        rotate_left
                        · intro w'
                          go_simp
                          with_reducible rfl
                        rotate_left
                        · simp only [Act.put, List.setIfInBounds_toArray, List.set_cons_zero, List.set_cons_succ, i64_w, i32_w]
                          rfl
                        refine one_ (i := 6) (N := some 76) #[true, true, true, true, true, true, true, true, true, true, true, false, false] rfl rfl (one_of HT_.out (by kernel_rfl)) (by decide) (fun K hK => ?_)
                        refine goes_ Try.func20 (by kernel_rfl) rfl #[.slice Ao75 x7_2.length co75] (by rfl) rfl rfl (by (try simp only [List.map_toArray, List.map_cons, List.map_nil]); first | done | rfl | (simp only [List.length_drop, List.length_take]; rfl)) ?_
                        with_reducible refine (wringerref7_PutNorm.calls k2 _ _ x7_2 t195 _ ?side1 ?side2 A70.out).mono ?_
                        (case side1 => repeat (first | exact (Kd.R_reads' HO_7.out).2.2 | (with_reducible refine Kd.C_alloc ?_ _) | (with_reducible refine Kd.C_drewN ?_ _) | (with_reducible refine Kd.C_drew ?_)))
                        (case side2 => exact (Kd.R_reads' HO_7.out).2.1)
                        rintro e w77 ⟨rfl, hb⟩
                        refine ⟨_, rfl, ?_⟩
                        have n0_ := Aside0.mk (Kd.R_below (by (with_reducible repeat (first | apply Kd.R_alloc | apply Kd.R_drewN | apply Kd.R_drew)); exact HO_7.out) hb)
                        have n1_ := Aside0.mk (blk_below (g := gb178) (o := .cells #[.slice none 0 0, .int .i64 x179001_2, .int .i64 x179002_2] 41 (0, 0)) (by (with_reducible repeat (first | refine blk_drewN ?_ _ | refine blk_drew ?_ | refine blk_alloc ?_ _)); exact BK178.out) hb)
                        have n2_ := Aside0.mk (below_step (by repeat (first | (with_reducible first | exact HB.out | apply below_alloc | apply pw_below_drewN | apply below_drew1 | refine below_set ?_ GE178.out) | exact HB.out)) hb)
                        clear HO_7
                        clear BK178
                        clear HB
                        have HO_7 := n0_
                        have BK178 := n1_
                        have HB := n2_
                        clear n0_ n1_ n2_
                        (try clear hb)
                        (try clear hb2)
                        (try clear hk)
                        (try clear hi)
                        refine hK.out _ _ trivial (fun hHeld => ?_)
                        clear hK K
                        refine norm_ (a' := ?_) ?_ ?_
                        rotate_left
                        · show Act.put _ (some 76) _ = _
                          simp only [Act.put, List.setIfInBounds_toArray, List.set_cons_zero, List.set_cons_succ, i64_w, i32_w]
                          rfl
                        refine pure_ (i := 11) (N := some 81) (v := ?_) (a' := ?_) #[true, true, true, true, true, true, true, true, true, true, true, true, false] rfl rfl (any_of HT_.out (by kernel_rfl)) (fun _ _ _ h => h) (Or.inl ⟨by rfl, ?_⟩) ?_ ?_
                        rotate_left
                        · intro w'
                          go_simp
                          with_reducible rfl
                        rotate_left
                        · simp only [Act.put, List.setIfInBounds_toArray, List.set_cons_zero, List.set_cons_succ, i64_w, i32_w]
                          rfl
                        refine pure_ (i := 12) (N := some 82) (v := ?_) (a' := ?_) #[true, true, true, true, true, true, true, true, true, true, true, true, true] rfl rfl (any_of HT_.out (by kernel_rfl)) (fun _ _ _ h => h) (Or.inl ⟨by rfl, ?_⟩) ?_ ?_
                        rotate_left
                        · intro w'
                          go_simp
                          with_reducible rfl
                        rotate_left
                        · simp only [Act.put, List.setIfInBounds_toArray, List.set_cons_zero, List.set_cons_succ, i64_w, i32_w]
                          rfl
                        refine done_ (done_of HT_.out (by kernel_rfl)) ?_
                        have hcz78_0 : w77.cell? ⟨gb178, 0, none⟩ = some (.slice none 0 0) := (blk_cell BK178.out 0).trans rfl
                        have hcz78_1 : w77.cell? ⟨gb178, 1, none⟩ = some (.int .i64 x179001_2) := (blk_cell BK178.out 1).trans rfl
                        have hcz78_2 : w77.cell? ⟨gb178, 2, none⟩ = some (.int .i64 x179002_2) := (blk_cell BK178.out 2).trans rfl
                        have hfz78_0 := blk_frozen BK178.out 0
                        have hfz78_1 := blk_frozen BK178.out 1
                        have hfz78_2 := blk_frozen BK178.out 2
                        try go_wp2
                        refine bodyPost_ret (results_cell_row rfl _ _ gb178 41 #[.slice Ao75 x7_2.length co75, .int .i64 x8_2, .int .i64 0] (0, 0) _ rfl (by (with_reducible repeat (first | refine blk_drewN ?_ _ | refine blk_drew ?_ | refine blk_alloc ?_ _)); refine blk_put (cs := #[.slice Ao75 x7_2.length co75, .int .i64 x8_2, .int .i64 x179002_2]) ?_ 2 _ rfl; (with_reducible repeat (first | refine blk_drewN ?_ _ | refine blk_drew ?_ | refine blk_alloc ?_ _)); refine blk_put (cs := #[.slice Ao75 x7_2.length co75, .int .i64 x179001_2, .int .i64 x179002_2]) ?_ 1 _ rfl; (with_reducible repeat (first | refine blk_drewN ?_ _ | refine blk_drew ?_ | refine blk_alloc ?_ _)); refine blk_put (cs := #[.slice none 0 0, .int .i64 x179001_2, .int .i64 x179002_2]) ?_ 0 _ rfl; (with_reducible repeat (first | refine blk_drewN ?_ _ | refine blk_drew ?_ | refine blk_alloc ?_ _)); exact BK178.out) Try.underlying41 rfl (by kernel_rfl)) rfl ?_
                        exact ⟨_, by first | rfl | (simp [errW_none, errW_some] <;> rfl) | (simp [*, errW_none, errW_some] <;> rfl), by (with_reducible repeat (first | apply Kd.R_alloc | apply Kd.R_drewN | apply Kd.R_drew)); exact Kd.R_mono (Kd.R_far (p := ⟨gb178, 2, none⟩) (Kd.R_far (p := ⟨gb178, 1, none⟩) (Kd.R_far (p := ⟨gb178, 0, none⟩) (Kd.R_types HO_7.out BK178.out (by decide)) (fun _ hk => hk.2) (.slice Ao75 x7_2.length co75)) (fun _ hk => hk.2) (.int .i64 x8_2)) (fun _ hk => hk.2) (.int .i64 0)) (fun _ hk => trivial), by repeat (first | (with_reducible first | exact HB.out | apply below_alloc | apply pw_below_drewN | apply below_drew1 | refine below_set ?_ GE178.out) | exact HB.out)⟩
                      · rw [if_neg c74] at H
                        have c74b0 : (t195.toList == (a0.extract (a1 : Int).toNat (x8_2 : Int).toNat).toList) = false := beq_eq_false_iff_ne.mpr c74
                        have c74b1 : (t195.toList != (a0.extract (a1 : Int).toNat (x8_2 : Int).toNat).toList) = true := bne_iff_ne.mpr c74
                        simp only [Option.some.injEq, Prod.mk.injEq] at H
                        obtain ⟨rfl, rfl, rfl⟩ := H
                        obtain ⟨Ao79, co79, eo79⟩ := Kd.R_slice HO_7.out
                        subst eo79
                        try go_wp2
                        have n0_ := Aside0.mk (Kd.R_drew HO_7.out)
                        have n1_ := Aside0.mk (blk_drew BK178.out)
                        have n2_ := Aside0.mk (below_drew1 HB.out)
                        clear HO_7
                        clear BK178
                        clear HB
                        have HO_7 := n0_
                        have BK178 := n1_
                        have HB := n2_
                        clear n0_ n1_ n2_
                        refine start_ (n := 13) (S := fun w' => True) (ds := []) #[false, false, false, false, false, false, false, false, false, false, false, false, false] (by kernel_rfl) rfl rfl trivial (fun hHeld => ?_); refine with_tabW wringerref7_GetNorm.tab19 wringerref7_GetNorm.bits19 (fun HT_ HW_ => ?_)
                        generalize wr.drew = w80 at HO_7 BK178 HB hHeld ⊢
                        refine pure_ (i := 0) (N := some 70) (v := ?_) (a' := ?_) #[true, false, false, false, false, false, false, false, false, false, false, false, false] rfl rfl (any_of HT_.out (by kernel_rfl)) (fun _ _ _ h => h) (Or.inl ⟨by rfl, ?_⟩) ?_ ?_
                        rotate_left
                        · intro w'
                          go_simp
                          with_reducible rfl
                        rotate_left
                        · simp only [Act.put, List.setIfInBounds_toArray, List.set_cons_zero, List.set_cons_succ, i64_w, i32_w]
                          rfl
                        refine pure_ (i := 1) (N := some 71) (v := ?_) (a' := ?_) #[true, true, false, false, false, false, false, false, false, false, false, false, false] rfl rfl (any_of HT_.out (by kernel_rfl)) (fun _ _ _ h => h) (Or.inl ⟨by rfl, ?_⟩) ?_ ?_
                        rotate_left
                        · intro w'
                          go_simp
                          with_reducible rfl
                        rotate_left
                        · simp only [Act.put, List.setIfInBounds_toArray, List.set_cons_zero, List.set_cons_succ, i64_w, i32_w]
                          rfl
                        refine one_ (i := 2) (N := some 72) #[true, true, true, false, false, false, false, false, false, false, false, false, false] rfl rfl (one_of HT_.out (by kernel_rfl)) (by decide) (fun K hK => ?_)
                        refine goes_ Try.func18 (by kernel_rfl) rfl #[.slice Ao79 x7_2.length co79, .int .i64 a2] (by rfl) rfl rfl (by (try simp only [List.map_toArray, List.map_cons, List.map_nil]); first | done | rfl | (simp only [List.length_drop, List.length_take]; rfl)) ?_
                        with_reducible refine (wringerref7_MayNorm.calls k2 _ _ x7_2 a2 true _ ?side1 ?side2 A68.out).mono ?_
                        (case side1 => repeat (first | exact (Kd.R_reads' HO_7.out).2.2 | (with_reducible refine Kd.C_alloc ?_ _) | (with_reducible refine Kd.C_drewN ?_ _) | (with_reducible refine Kd.C_drew ?_)))
                        (case side2 => exact (Kd.R_reads' HO_7.out).2.1)
                        rintro e w' ⟨rfl, ⟨nd, rfl⟩⟩
                        refine ⟨_, rfl, ?_⟩
                        refine hK.out _ _ trivial (fun hHeld => ?_)
                        clear hK K
                        refine norm_ (a' := ?_) ?_ ?_
                        rotate_left
                        · show Act.put _ (some 72) _ = _
                          simp only [Act.put, List.setIfInBounds_toArray, List.set_cons_zero, List.set_cons_succ, i64_w, i32_w]
                          rfl
                        refine pure_ (i := 3) (N := some 73) (v := ?_) (a' := ?_) #[true, true, true, true, false, false, false, false, false, false, false, false, false] rfl rfl (any_of HT_.out (by kernel_rfl)) (fun _ _ _ h => h) (Or.inl ⟨by rfl, ?_⟩) ?_ ?_
                        rotate_left
                        · intro w'
                          go_simp
                          with_reducible rfl
                        rotate_left
                        · simp only [Act.put, List.setIfInBounds_toArray, List.set_cons_zero, List.set_cons_succ, i64_w, i32_w]
                          rfl
                        refine pure_ (i := 4) (N := some 74) (v := ?_) (a' := ?_) #[true, true, true, true, true, false, false, false, false, false, false, false, false] rfl rfl (any_of HT_.out (by kernel_rfl)) (fun _ _ _ h => h) (Or.inl ⟨by rfl, ?_⟩) ?_ ?_
                        rotate_left
                        · intro w'
                          go_simp
                          with_reducible rfl
                        rotate_left
                        · simp only [Act.put, List.setIfInBounds_toArray, List.set_cons_zero, List.set_cons_succ, i64_w, i32_w]
                          rfl
                        refine pure_ (i := 5) (N := some 75) (v := ?_) (a' := ?_) #[true, true, true, true, true, true, false, false, false, false, false, false, false] rfl rfl (any_of HT_.out (by kernel_rfl)) (fun _ _ _ h => h) (Or.inl ⟨by rfl, ?_⟩) ?_ ?_
                        rotate_left
                        · intro w'
                          go_simp
                          with_reducible rfl
                        rotate_left
                        · simp only [Act.put, List.setIfInBounds_toArray, List.set_cons_zero, List.set_cons_succ, i64_w, i32_w]
                          rfl
                        refine pure_ (i := 7) (N := some 77) (v := ?_) (a' := ?_) #[true, true, true, true, true, true, false, true, false, false, false, false, false] rfl rfl (any_of HT_.out (by kernel_rfl)) (fun _ _ _ h => h) (Or.inl ⟨by rfl, ?_⟩) ?_ ?_
                        rotate_left
                        · intro w'
                          go_simp
                          with_reducible rfl
                        rotate_left
                        · simp only [Act.put, List.setIfInBounds_toArray, List.set_cons_zero, List.set_cons_succ, i64_w, i32_w]
                          rfl
                        refine pure_ (i := 8) (N := some 78) (v := ?_) (a' := ?_) #[true, true, true, true, true, true, false, true, true, false, false, false, false] rfl rfl (any_of HT_.out (by kernel_rfl)) (fun _ _ _ h => h) (Or.inl ⟨by rfl, ?_⟩) ?_ ?_
                        rotate_left
                        · intro w'
                          go_simp
                          with_reducible rfl
                        rotate_left
                        · simp only [Act.put, List.setIfInBounds_toArray, List.set_cons_zero, List.set_cons_succ, i64_w, i32_w]
                          rfl
                        refine pure_ (i := 9) (N := some 79) (v := ?_) (a' := ?_) #[true, true, true, true, true, true, false, true, true, true, false, false, false] rfl rfl (any_of HT_.out (by kernel_rfl)) (fun _ _ _ h => h) (Or.inl ⟨by rfl, ?_⟩) ?_ ?_
                        rotate_left
                        · intro w'
                          go_simp
                          with_reducible rfl
                        rotate_left
                        · simp only [Act.put, List.setIfInBounds_toArray, List.set_cons_zero, List.set_cons_succ, i64_w, i32_w]
                          rfl
                        refine pure_ (i := 10) (N := some 80) (v := ?_) (a' := ?_) #[true, true, true, true, true, true, false, true, true, true, true, false, false] rfl rfl (any_of HT_.out (by kernel_rfl)) (fun _ _ _ h => h) (Or.inl ⟨by rfl, ?_⟩) ?_ ?_
                        rotate_left
                        · intro w'
                          go_simp
                          with_reducible rfl
                        rotate_left
                        · simp only [Act.put, List.setIfInBounds_toArray, List.set_cons_zero, List.set_cons_succ, i64_w, i32_w]
                          rfl
                        refine one_ (i := 6) (N := some 76) #[true, true, true, true, true, true, true, true, true, true, true, false, false] rfl rfl (one_of HT_.out (by kernel_rfl)) (by decide) (fun K hK => ?_)
                        refine goes_ Try.func20 (by kernel_rfl) rfl #[.slice Ao79 x7_2.length co79] (by rfl) rfl rfl (by (try simp only [List.map_toArray, List.map_cons, List.map_nil]); first | done | rfl | (simp only [List.length_drop, List.length_take]; rfl)) ?_
                        with_reducible refine (wringerref7_PutNorm.calls k2 _ _ x7_2 t195 _ ?side1 ?side2 A70.out).mono ?_
                        (case side1 => repeat (first | exact (Kd.R_reads' HO_7.out).2.2 | (with_reducible refine Kd.C_alloc ?_ _) | (with_reducible refine Kd.C_drewN ?_ _) | (with_reducible refine Kd.C_drew ?_)))
                        (case side2 => exact (Kd.R_reads' HO_7.out).2.1)
                        rintro e w81 ⟨rfl, hb⟩
                        refine ⟨_, rfl, ?_⟩
                        have n0_ := Aside0.mk (Kd.R_below (by (with_reducible repeat (first | apply Kd.R_alloc | apply Kd.R_drewN | apply Kd.R_drew)); exact HO_7.out) hb)
                        have n1_ := Aside0.mk (blk_below (g := gb178) (o := .cells #[.slice none 0 0, .int .i64 x179001_2, .int .i64 x179002_2] 41 (0, 0)) (by (with_reducible repeat (first | refine blk_drewN ?_ _ | refine blk_drew ?_ | refine blk_alloc ?_ _)); exact BK178.out) hb)
                        have n2_ := Aside0.mk (below_step (by repeat (first | (with_reducible first | exact HB.out | apply below_alloc | apply pw_below_drewN | apply below_drew1 | refine below_set ?_ GE178.out) | exact HB.out)) hb)
                        clear HO_7
                        clear BK178
                        clear HB
                        have HO_7 := n0_
                        have BK178 := n1_
                        have HB := n2_
                        clear n0_ n1_ n2_
                        (try clear hb)
                        (try clear hb2)
                        (try clear hk)
                        (try clear hi)
                        refine hK.out _ _ trivial (fun hHeld => ?_)
                        clear hK K
                        refine norm_ (a' := ?_) ?_ ?_
                        rotate_left
                        · show Act.put _ (some 76) _ = _
                          simp only [Act.put, List.setIfInBounds_toArray, List.set_cons_zero, List.set_cons_succ, i64_w, i32_w]
                          rfl
                        refine pure_ (i := 11) (N := some 81) (v := ?_) (a' := ?_) #[true, true, true, true, true, true, true, true, true, true, true, true, false] rfl rfl (any_of HT_.out (by kernel_rfl)) (fun _ _ _ h => h) (Or.inl ⟨by rfl, ?_⟩) ?_ ?_
                        rotate_left
                        · intro w'
                          go_simp
                          with_reducible rfl
                        rotate_left
                        · simp only [Act.put, List.setIfInBounds_toArray, List.set_cons_zero, List.set_cons_succ, i64_w, i32_w]
                          rfl
                        refine pure_ (i := 12) (N := some 82) (v := ?_) (a' := ?_) #[true, true, true, true, true, true, true, true, true, true, true, true, true] rfl rfl (any_of HT_.out (by kernel_rfl)) (fun _ _ _ h => h) (Or.inl ⟨by rfl, ?_⟩) ?_ ?_
                        rotate_left
                        · intro w'
                          go_simp
                          with_reducible rfl
                        rotate_left
                        · simp only [Act.put, List.setIfInBounds_toArray, List.set_cons_zero, List.set_cons_succ, i64_w, i32_w]
                          rfl
                        refine done_ (done_of HT_.out (by kernel_rfl)) ?_
                        have hcz82_0 : w81.cell? ⟨gb178, 0, none⟩ = some (.slice none 0 0) := (blk_cell BK178.out 0).trans rfl
                        have hcz82_1 : w81.cell? ⟨gb178, 1, none⟩ = some (.int .i64 x179001_2) := (blk_cell BK178.out 1).trans rfl
                        have hcz82_2 : w81.cell? ⟨gb178, 2, none⟩ = some (.int .i64 x179002_2) := (blk_cell BK178.out 2).trans rfl
                        have hfz82_0 := blk_frozen BK178.out 0
                        have hfz82_1 := blk_frozen BK178.out 1
                        have hfz82_2 := blk_frozen BK178.out 2
                        try go_wp2
                        refine bodyPost_ret (results_cell_row rfl _ _ gb178 41 #[.slice none 0 0, .int .i64 0, .int .i64 3] (0, 0) _ rfl (by (with_reducible repeat (first | refine blk_drewN ?_ _ | refine blk_drew ?_ | refine blk_alloc ?_ _)); refine blk_put (cs := #[.slice none 0 0, .int .i64 0, .int .i64 x179002_2]) ?_ 2 _ rfl; (with_reducible repeat (first | refine blk_drewN ?_ _ | refine blk_drew ?_ | refine blk_alloc ?_ _)); refine blk_put (cs := #[.slice none 0 0, .int .i64 x179001_2, .int .i64 x179002_2]) ?_ 1 _ rfl; (with_reducible repeat (first | refine blk_drewN ?_ _ | refine blk_drew ?_ | refine blk_alloc ?_ _)); refine blk_put (cs := #[.slice none 0 0, .int .i64 x179001_2, .int .i64 x179002_2]) ?_ 0 _ rfl; (with_reducible repeat (first | refine blk_drewN ?_ _ | refine blk_drew ?_ | refine blk_alloc ?_ _)); exact BK178.out) Try.underlying41 rfl (by kernel_rfl)) rfl ?_
                        exact ⟨_, by first | rfl | (simp [errW_none, errW_some] <;> rfl) | (simp [*, errW_none, errW_some] <;> rfl), by first | exact Kd.R_nil _ _ _ _ _ | exact Kd.N_nil _ _ _ _ _ | exact Kd.V_nil _ _ _ _ _ | exact Kd.Q_nil _ _ _ _ _ | exact Kd.S_nil _ _ _ _ _, by repeat (first | (with_reducible first | exact HB.out | apply below_alloc | apply pw_below_drewN | apply below_drew1 | refine below_set ?_ GE178.out) | exact HB.out)⟩
                    · rw [if_neg c73] at H
                      exact absurd H (by simp)
                  · rw [if_neg c72] at H
                    exact absurd H (by simp)
                · rw [if_neg c71] at H
                  exact absurd H (by simp)
              · replace c69 := Bool.eq_false_iff.mpr c69
                subst c69
                have H1 : (some (([] : List Int), 0, 3)) = some (r1, r2, r3) := by rw [if_neg (show ¬ (false = true) by decide)] at H; exact H
                clear H
                have H := H1
                clear H1
                simp only [Option.some.injEq, Prod.mk.injEq] at H
                obtain ⟨rfl, rfl, rfl⟩ := H
                obtain ⟨Ao83, co83, eo83⟩ := Kd.R_slice HO_7.out
                subst eo83
                try go_wp2
                have n0_ := Aside0.mk (Kd.R_drew HO_7.out)
                have n1_ := Aside0.mk (blk_drew BK178.out)
                have n2_ := Aside0.mk (below_drew1 HB.out)
                clear HO_7
                clear BK178
                clear HB
                have HO_7 := n0_
                have BK178 := n1_
                have HB := n2_
                clear n0_ n1_ n2_
                refine start_ (n := 13) (S := fun w' => True) (ds := []) #[false, false, false, false, false, false, false, false, false, false, false, false, false] (by kernel_rfl) rfl rfl trivial (fun hHeld => ?_); refine with_tabW wringerref7_GetNorm.tab19 wringerref7_GetNorm.bits19 (fun HT_ HW_ => ?_)
                generalize wr.drew = w84 at HO_7 BK178 HB hHeld ⊢
                refine pure_ (i := 0) (N := some 70) (v := ?_) (a' := ?_) #[true, false, false, false, false, false, false, false, false, false, false, false, false] rfl rfl (any_of HT_.out (by kernel_rfl)) (fun _ _ _ h => h) (Or.inl ⟨by rfl, ?_⟩) ?_ ?_
                rotate_left
                · intro w'
                  go_simp
                  with_reducible rfl
                rotate_left
                · simp only [Act.put, List.setIfInBounds_toArray, List.set_cons_zero, List.set_cons_succ, i64_w, i32_w]
                  rfl
                refine pure_ (i := 1) (N := some 71) (v := ?_) (a' := ?_) #[true, true, false, false, false, false, false, false, false, false, false, false, false] rfl rfl (any_of HT_.out (by kernel_rfl)) (fun _ _ _ h => h) (Or.inl ⟨by rfl, ?_⟩) ?_ ?_
                rotate_left
                · intro w'
                  go_simp
                  with_reducible rfl
                rotate_left
                · simp only [Act.put, List.setIfInBounds_toArray, List.set_cons_zero, List.set_cons_succ, i64_w, i32_w]
                  rfl
                refine one_ (i := 2) (N := some 72) #[true, true, true, false, false, false, false, false, false, false, false, false, false] rfl rfl (one_of HT_.out (by kernel_rfl)) (by decide) (fun K hK => ?_)
                refine goes_ Try.func18 (by kernel_rfl) rfl #[.slice Ao83 x7_2.length co83, .int .i64 a2] (by rfl) rfl rfl (by (try simp only [List.map_toArray, List.map_cons, List.map_nil]); first | done | rfl | (simp only [List.length_drop, List.length_take]; rfl)) ?_
                with_reducible refine (wringerref7_MayNorm.calls k2 _ _ x7_2 a2 false _ ?side1 ?side2 A68.out).mono ?_
                (case side1 => repeat (first | exact (Kd.R_reads' HO_7.out).2.2 | (with_reducible refine Kd.C_alloc ?_ _) | (with_reducible refine Kd.C_drewN ?_ _) | (with_reducible refine Kd.C_drew ?_)))
                (case side2 => exact (Kd.R_reads' HO_7.out).2.1)
                rintro e w' ⟨rfl, ⟨nd, rfl⟩⟩
                refine ⟨_, rfl, ?_⟩
                refine hK.out _ _ trivial (fun hHeld => ?_)
                clear hK K
                refine norm_ (a' := ?_) ?_ ?_
                rotate_left
                · show Act.put _ (some 72) _ = _
                  simp only [Act.put, List.setIfInBounds_toArray, List.set_cons_zero, List.set_cons_succ, i64_w, i32_w]
                  rfl
                refine pure_ (i := 3) (N := some 73) (v := ?_) (a' := ?_) #[true, true, true, true, false, false, false, false, false, false, false, false, false] rfl rfl (any_of HT_.out (by kernel_rfl)) (fun _ _ _ h => h) (Or.inl ⟨by rfl, ?_⟩) ?_ ?_
                rotate_left
                · intro w'
                  go_simp
                  with_reducible rfl
                rotate_left
                · simp only [Act.put, List.setIfInBounds_toArray, List.set_cons_zero, List.set_cons_succ, i64_w, i32_w]
                  rfl
                refine pure_ (i := 4) (N := some 74) (v := ?_) (a' := ?_) #[true, true, true, true, true, false, false, false, false, false, false, false, false] rfl rfl (any_of HT_.out (by kernel_rfl)) (fun _ _ _ h => h) (Or.inl ⟨by rfl, ?_⟩) ?_ ?_
                rotate_left
                · intro w'
                  go_simp
                  with_reducible rfl
                rotate_left
                · simp only [Act.put, List.setIfInBounds_toArray, List.set_cons_zero, List.set_cons_succ, i64_w, i32_w]
                  rfl
                refine pure_ (i := 5) (N := some 75) (v := undef) (a' := ?_) #[true, true, true, true, true, true, false, false, false, false, false, false, false] rfl rfl (any_of HT_.out (by kernel_rfl)) (fun _ _ _ h => h) (Or.inr ⟨by rfl, rfl⟩) ?_ ?_
                rotate_left
                · simp only [Act.put, List.setIfInBounds_toArray, List.set_cons_zero, List.set_cons_succ, i64_w, i32_w]
                  rfl
                refine pure_ (i := 6) (N := some 76) (v := undef) (a' := ?_) #[true, true, true, true, true, true, true, false, false, false, false, false, false] rfl rfl (any_of HT_.out (by kernel_rfl)) (fun _ _ _ h => h) (Or.inr ⟨by rfl, rfl⟩) ?_ ?_
                rotate_left
                · simp only [Act.put, List.setIfInBounds_toArray, List.set_cons_zero, List.set_cons_succ, i64_w, i32_w]
                  rfl
                refine pure_ (i := 7) (N := some 77) (v := undef) (a' := ?_) #[true, true, true, true, true, true, true, true, false, false, false, false, false] rfl rfl (any_of HT_.out (by kernel_rfl)) (fun _ _ _ h => h) (Or.inr ⟨by rfl, rfl⟩) ?_ ?_
                rotate_left
                · simp only [Act.put, List.setIfInBounds_toArray, List.set_cons_zero, List.set_cons_succ, i64_w, i32_w]
                  rfl
                refine pure_ (i := 8) (N := some 78) (v := undef) (a' := ?_) #[true, true, true, true, true, true, true, true, true, false, false, false, false] rfl rfl (any_of HT_.out (by kernel_rfl)) (fun _ _ _ h => h) (Or.inr ⟨by rfl, rfl⟩) ?_ ?_
                rotate_left
                · simp only [Act.put, List.setIfInBounds_toArray, List.set_cons_zero, List.set_cons_succ, i64_w, i32_w]
                  rfl
                refine pure_ (i := 9) (N := some 79) (v := undef) (a' := ?_) #[true, true, true, true, true, true, true, true, true, true, false, false, false] rfl rfl (any_of HT_.out (by kernel_rfl)) (fun _ _ _ h => h) (Or.inr ⟨by rfl, rfl⟩) ?_ ?_
                rotate_left
                · simp only [Act.put, List.setIfInBounds_toArray, List.set_cons_zero, List.set_cons_succ, i64_w, i32_w]
                  rfl
                refine pure_ (i := 10) (N := some 80) (v := undef) (a' := ?_) #[true, true, true, true, true, true, true, true, true, true, true, false, false] rfl rfl (any_of HT_.out (by kernel_rfl)) (fun _ _ _ h => h) (Or.inr ⟨by rfl, rfl⟩) ?_ ?_
                rotate_left
                · simp only [Act.put, List.setIfInBounds_toArray, List.set_cons_zero, List.set_cons_succ, i64_w, i32_w]
                  rfl
                refine pure_ (i := 11) (N := some 81) (v := undef) (a' := ?_) #[true, true, true, true, true, true, true, true, true, true, true, true, false] rfl rfl (any_of HT_.out (by kernel_rfl)) (fun _ _ _ h => h) (Or.inr ⟨by rfl, rfl⟩) ?_ ?_
                rotate_left
                · simp only [Act.put, List.setIfInBounds_toArray, List.set_cons_zero, List.set_cons_succ, i64_w, i32_w]
                  rfl
                refine pure_ (i := 12) (N := some 82) (v := ?_) (a' := ?_) #[true, true, true, true, true, true, true, true, true, true, true, true, true] rfl rfl (any_of HT_.out (by kernel_rfl)) (fun _ _ _ h => h) (Or.inl ⟨by rfl, ?_⟩) ?_ ?_
                rotate_left
                · intro w'
                  go_simp
                  with_reducible rfl
                rotate_left
                · simp only [Act.put, List.setIfInBounds_toArray, List.set_cons_zero, List.set_cons_succ, i64_w, i32_w]
                  rfl
                refine done_ (done_of HT_.out (by kernel_rfl)) ?_
                have hcz85_0 : w84.cell? ⟨gb178, 0, none⟩ = some (.slice none 0 0) := (blk_cell BK178.out 0).trans rfl
                have hcz85_1 : w84.cell? ⟨gb178, 1, none⟩ = some (.int .i64 x179001_2) := (blk_cell BK178.out 1).trans rfl
                have hcz85_2 : w84.cell? ⟨gb178, 2, none⟩ = some (.int .i64 x179002_2) := (blk_cell BK178.out 2).trans rfl
                have hfz85_0 := blk_frozen BK178.out 0
                have hfz85_1 := blk_frozen BK178.out 1
                have hfz85_2 := blk_frozen BK178.out 2
                try go_wp2
                refine bodyPost_ret (results_cell_row rfl _ _ gb178 41 #[.slice none 0 0, .int .i64 0, .int .i64 3] (0, 0) _ rfl (by (with_reducible repeat (first | refine blk_drewN ?_ _ | refine blk_drew ?_ | refine blk_alloc ?_ _)); refine blk_put (cs := #[.slice none 0 0, .int .i64 0, .int .i64 x179002_2]) ?_ 2 _ rfl; (with_reducible repeat (first | refine blk_drewN ?_ _ | refine blk_drew ?_ | refine blk_alloc ?_ _)); refine blk_put (cs := #[.slice none 0 0, .int .i64 x179001_2, .int .i64 x179002_2]) ?_ 1 _ rfl; (with_reducible repeat (first | refine blk_drewN ?_ _ | refine blk_drew ?_ | refine blk_alloc ?_ _)); refine blk_put (cs := #[.slice none 0 0, .int .i64 x179001_2, .int .i64 x179002_2]) ?_ 0 _ rfl; (with_reducible repeat (first | refine blk_drewN ?_ _ | refine blk_drew ?_ | refine blk_alloc ?_ _)); exact BK178.out) Try.underlying41 rfl (by kernel_rfl)) rfl ?_
                exact ⟨_, by first | rfl | (simp [errW_none, errW_some] <;> rfl) | (simp [*, errW_none, errW_some] <;> rfl), by first | exact Kd.R_nil _ _ _ _ _ | exact Kd.N_nil _ _ _ _ _ | exact Kd.V_nil _ _ _ _ _ | exact Kd.Q_nil _ _ _ _ _ | exact Kd.S_nil _ _ _ _ _, by repeat (first | (with_reducible first | exact HB.out | apply below_alloc | apply pw_below_drewN | apply below_drew1 | refine below_set ?_ GE178.out) | exact HB.out)⟩

end Go.Proofs.Ytbldocbijihpgaa.PA
