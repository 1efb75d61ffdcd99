/- Part LensBack3 of what the layer's laws stand on: Rc, Rd, Af, Ro, Re, Rf, Mo, Rg, Le, PAx20, LensBack, LawLensBack. Written by a program (merge.py) out of this session's own texts and of what the kit's print wrote over stand-ins (sp.py). Conditions: those that each theorem names. -/
import Derived.Test.YtkplcibmhibjjaaQLensBack1
import Derived.Test.YtkplcibmhibjjaaQLensBack2
import Derived.WalkSpells
import Derived.WalkLawsBesides
import Derived.BigQuiet
import Derived.Lib.Hide
import Derived.Deep.DeepCutAuto
import Derived.Deep.DeepAppendWide
import Derived.Laws.OwnMore
import Derived.Test.YtkplcibmhibjjaaProg
import Derived.OpenShut
import Derived.Deep.CutBlock
import Derived.Test.YtkplcibmhibjjaaRows
import Derived.WalkKit
import Derived.ProofKit
import Derived.ShutString
import Derived.ChangeOld
import Derived.Below
import Derived.SizedLaws
-- ---- Rc
/- wringerref7's best.cost: the least cost of a state, with what is known already. Conditions: the memory that 'Tab' tells. -/
namespace Go.Proofs.Ytkplcibmhibjjaa
set_option linter.unusedSimpArgs false
set_option linter.unusedVariables false
open Go.RowKit Mix _root_.Go.Proofs.Ytkplcibmhibjjaa.Own

namespace Dp
/-- A cost as the document's function tells it. -/
def enc : Option Int → Int
  | none => -1
  | some x => x
def sums (g : List Int) : List Int := (List.range (g.length + 1)).map fun i => (g.drop i).sum
theorem length_sums (g : List Int) : (sums g).length = g.length + 1 := by simp [sums]
theorem sums_at (g : List Int) (i : Nat) (h : i ≤ g.length) : (sums g).getD i 0 = (g.drop i).sum := by
  unfold sums; simp [List.getD_eq_getElem?_getD, show i < g.length + 1 by omega]
/-- Frequencies in order, few and not great. -/
structure Gs (g : List Int) : Prop where
  len : g.length ≤ 65
  each : ∀ x ∈ g, 0 ≤ x ∧ x ≤ 16777216
theorem sum_le : ∀ (g : List Int), (∀ x ∈ g, 0 ≤ x ∧ x ≤ 16777216) → 0 ≤ g.sum ∧ g.sum ≤ 16777216 * (g.length : Int) := by
  intro g
  induction g with
  | nil => intro _; simp
  | cons a t ih =>
    intro h
    have h1 := h a (by simp)
    have h2 := ih fun x hx => h x (List.mem_cons_of_mem _ hx)
    rw [List.sum_cons, List.length_cons]
    omega
theorem Gs.sum {g : List Int} (h : Gs g) (i : Nat) : 0 ≤ (g.drop i).sum ∧ (g.drop i).sum ≤ 1090519040 := by
  have h1 := sum_le (g.drop i) fun x hx => h.each x (List.mem_of_mem_drop hx)
  have h2 := h.len
  rw [List.length_drop] at h1
  omega
theorem dp_le : ∀ (r : Nat) (g : List Int) (o : Nat) (x : Int), Gs g → dp r g o = some x → 0 ≤ x ∧ x ≤ 1090519040 * (r : Int) := by
  intro r
  induction r with
  | zero =>
    intro g o x hg h
    by_cases e : g = []
    · subst e; rw [dp_nil] at h; split at h <;> simp at h; omega
    · rw [dp_out e (by omega)] at h; cases h
  | succ r ih =>
    intro g o x hg h
    by_cases e : g = []
    · subst e; rw [dp_nil] at h; split at h <;> simp at h; omega
    · obtain ⟨_, _, y, hy, hx⟩ := dp_some h e
      have h1 := ih _ _ _ ⟨by have := hg.len; rw [List.length_drop]; omega, fun f hf => hg.each f (List.mem_of_mem_drop hf)⟩ hy
      have h2 := hg.sum (take r g o)
      omega
theorem Gs.drop {g : List Int} (h : Gs g) (j : Nat) : Gs (g.drop j) := ⟨by have := h.len; rw [List.length_drop]; omega, fun f hf => h.each f (List.mem_of_mem_drop hf)⟩

/-- The least of the candidates below n, from 0 on. -/
def minUp (c : Nat → Option Int) : Nat → Option Int
  | 0 => none
  | n + 1 => match c n with
    | none => minUp c n
    | some x => match minUp c n with
      | none => some x
      | some y => if x < y then some x else some y
theorem minUp_spec (c : Nat → Option Int) : ∀ n, match minUp c n with
    | none => ∀ j, j < n → c j = none
    | some x => (∃ k, k < n ∧ c k = some x) ∧ ∀ j y, j < n → c j = some y → x ≤ y := by
  intro n
  induction n with
  | zero => simp only [minUp]; intro j h; omega
  | succ n ih =>
    simp only [minUp]
    cases hc : c n with
    | none =>
      simp only
      cases hm : minUp c n with
      | none =>
        rw [hm] at ih; simp only at ih ⊢
        intro j hj
        by_cases e : j = n
        · rw [e]; exact hc
        · exact ih j (by omega)
      | some x =>
        rw [hm] at ih; simp only at ih ⊢
        obtain ⟨⟨k, hk, hck⟩, h2⟩ := ih
        refine ⟨⟨k, by omega, hck⟩, fun j y hj hjy => ?_⟩
        by_cases e : j = n
        · rw [e, hc] at hjy; cases hjy
        · exact h2 j y (by omega) hjy
    | some x =>
      simp only
      cases hm : minUp c n with
      | none =>
        rw [hm] at ih; simp only at ih ⊢
        refine ⟨⟨n, by omega, hc⟩, fun j y hj hjy => ?_⟩
        by_cases e : j = n
        · rw [e, hc] at hjy; cases hjy; omega
        · rw [ih j (by omega)] at hjy; cases hjy
      | some z =>
        rw [hm] at ih; simp only at ih ⊢
        obtain ⟨⟨k, hk, hck⟩, h2⟩ := ih
        by_cases hxz : x < z
        · rw [if_pos hxz]; simp only
          refine ⟨⟨n, by omega, hc⟩, fun j y hj hjy => ?_⟩
          by_cases e : j = n
          · rw [e, hc] at hjy; cases hjy; omega
          · have := h2 j y (by omega) hjy; omega
        · rw [if_neg hxz]; simp only
          refine ⟨⟨k, by omega, hck⟩, fun j y hj hjy => ?_⟩
          by_cases e : j = n
          · rw [e, hc] at hjy; cases hjy; omega
          · exact h2 j y (by omega) hjy
theorem minUp_best (c : Nat → Option Int) (o : Nat) : minUp c (o + 1) = (best c o).map Prod.fst := by
  have h1 := minUp_spec c (o + 1)
  have h2 := best_spec c o
  cases hb : best c o with
  | none =>
    rw [hb] at h2
    cases hm : minUp c (o + 1) with
    | none => rfl
    | some x => rw [hm] at h1; simp only at h1; obtain ⟨⟨k, hk, hck⟩, _⟩ := h1; rw [h2 k (by omega) (by omega)] at hck; cases hck
  | some p =>
    obtain ⟨y, m⟩ := p
    rw [hb] at h2
    obtain ⟨_, b2, b3, b4⟩ := h2
    cases hm : minUp c (o + 1) with
    | none => rw [hm] at h1; simp only at h1; rw [h1 m (by omega)] at b3; cases b3
    | some x =>
      rw [hm] at h1; simp only at h1
      obtain ⟨⟨k, hk, hck⟩, h3⟩ := h1
      have e1 := h3 m y (by omega) b3
      have e2 := (b4 k x (by omega) (by omega) hck).1
      simp; omega

/-- The table of what is known. -/
def key (d j o : Nat) : Nat := (d * 70 + j) * 140 + o
theorem key_inj {d j o d' j' o' : Nat} (h1 : j < 70) (h2 : o < 140) (h3 : j' < 70) (h4 : o' < 140) (h : key d j o = key d' j' o') : d = d' ∧ j = j' ∧ o = o' := by
  unfold key at h
  refine ⟨?_, ?_, ?_⟩ <;> omega
structure KGood (lim : Nat) (g K : List Int) : Prop where
  len : K.length = 166600
  at_ : ∀ d j o, 1 ≤ d → d ≤ lim → j < 70 → o < 140 → K.getD (key d j o) 0 = 0 ∨ K.getD (key d j o) 0 = enc (dp (lim + 1 - d) (g.drop j) o) + 2
theorem KGood.set {lim : Nat} {g K : List Int} (h : KGood lim g K) {d j o : Nat} (hd : 1 ≤ d) (hdl : d ≤ lim) (hj : j < 70) (ho : o < 140) (hl : lim ≤ 15) : KGood lim g (K.set (key d j o) (enc (dp (lim + 1 - d) (g.drop j) o) + 2)) := by
  refine ⟨by rw [List.length_set]; exact h.len, fun d' j' o' h1 h2 h3 h4 => ?_⟩
  have hk : key d j o < K.length := by rw [h.len]; unfold key; omega
  by_cases e : key d j o = key d' j' o'
  · obtain ⟨rfl, rfl, rfl⟩ := key_inj hj ho h3 h4 e
    right
    simp [List.getD_eq_getElem?_getD, List.getElem?_set_self hk]
  · have := h.at_ d' j' o' h1 h2 h3 h4
    simp only [List.getD_eq_getElem?_getD, List.getElem?_set_ne e] at this ⊢
    exact this
end Dp
open Dp

/-- A maker of the document's at block p. -/
structure Tab (w : World) (p : Nat) (vf vk vs : Value) (lim : Nat) (g K : List Int) : Prop where
  blk : Blk w p #[vf, .int .i64 (lim : Int), vk, vs] 60
  rf : Owns w 3 vf (ints .i64 g)
  rk : Owns w 3 vk (ints .i64 K)
  rs : Owns w 3 vs (ints .i64 (sums g))
  nf : ∀ b, vk.ownBlock = some b → vf.ownBlock ≠ some b
  ns : ∀ b, vk.ownBlock = some b → vs.ownBlock ≠ some b
  good : KGood lim g K

set_option maxHeartbeats 1000000 in
theorem key_calls (x : Option Addr) (d j o : Nat) (w : World) (hd : d ≤ 100) (hj : j ≤ 1000) (ho : o ≤ 1000) :
    Calls Try.prog 31 #[.pointer x, .int .i64 (d : Int), .int .i64 (j : Int), .int .i64 (o : Int)] w fun e w' => e = .returned (.int .i64 (key d j o : Int)) ∧ w = w' := by
  go_enter Try.func31, Try.ntmps31
  go_wp2_with fail
  go_ret
  exact ⟨by unfold key; rfl, rfl⟩

/-- The answer of cost, and what it leaves. -/
def CostE (g : List Int) (lim p : Nat) (vf vk vs : Value) (r j o : Nat) (w : World) (e : Ending) (w' : World) : Prop :=
  e = .returned (.int .i64 (enc (dp r (g.drop j) o))) ∧ ∃ K', Tab w' p vf vk vs lim g K' ∧ Chg (fun b => some b = vk.ownBlock) w w'

set_option maxHeartbeats 2000000 in
theorem cost_end (g : List Int) (lim p : Nat) (vf vk vs : Value) (K : List Int) (r d j o : Nat) (w : World) (hT : Tab w p vf vk vs lim g K) (hg : Gs g) (hj : j = g.length) (ho : o ≤ 1000) (hd : d ≤ 100) :
    Calls Try.prog 27 #[.pointer (some ⟨p, 0, none⟩), .int .i64 (d : Int), .int .i64 (j : Int), .int .i64 (o : Int)] w (CostE g lim p vf vk vs r j o w) := by
  obtain ⟨af, cf, rfl⟩ := sliceI hT.rf
  have c0 := hT.blk.cell (i := 0) rfl
  have e0 : (g.length : Int) - (j : Int) = 0 := by omega
  have HR := kept (show dp r (g.drop j) o = if o = 0 then some 0 else none by rw [List.drop_eq_nil_of_le (by omega), dp_nil])
  have HT := kept hT
  have HG := kept hg
  clear hT hg hj
  by_cases h0 : o = 0
  · subst h0
    go_enter Try.func27, Try.ntmps27
    go_wp2_with fail
    go_ret
    exact ⟨by rw [HR.out]; rfl, K, HT.out, Chg.refl _ _⟩
  · have t0 : ((o : Int) == 0) = false := by rw [beq_eq_false_iff_ne]; omega
    have H0 := kept h0
    clear h0
    go_enter Try.func27, Try.ntmps27
    go_wp2_with fail
    go_ret
    exact ⟨by rw [HR.out, if_neg H0.out]; rfl, K, HT.out, Chg.refl _ _⟩

set_option maxHeartbeats 2000000 in
theorem cost_out (g : List Int) (lim p : Nat) (vf vk vs : Value) (K : List Int) (r d j o : Nat) (w : World) (hT : Tab w p vf vk vs lim g K) (hg : Gs g) (hj : j < g.length) (ho : o ≤ 1000) (hd : d ≤ 100) (hr : d + r = lim + 1)
    (hout : o = 0 ∨ g.length < j + o ∨ r = 0) :
    Calls Try.prog 27 #[.pointer (some ⟨p, 0, none⟩), .int .i64 (d : Int), .int .i64 (j : Int), .int .i64 (o : Int)] w (CostE g lim p vf vk vs r j o w) := by
  obtain ⟨af, cf, rfl⟩ := sliceI hT.rf
  have c0 := hT.blk.cell (i := 0) rfl
  have c1 := hT.blk.cell (i := 1) rfl
  have hne : g.drop j ≠ [] := by intro e; have := congrArg List.length e; rw [List.length_drop] at this; simp at this; omega
  have HR := kept (show dp r (g.drop j) o = none from dp_out hne (by rw [List.length_drop]; omega))
  have e0 : (((g.length : Int) - (j : Int)) == 0) = false := by rw [beq_eq_false_iff_ne]; omega
  have HT := kept hT
  have hl := hg.len
  clear hT hg hne
  by_cases h0 : o = 0
  · subst h0
    clear hout
    go_enter Try.func27, Try.ntmps27
    go_wp2_with fail
    go_ret
    exact ⟨by rw [HR.out]; rfl, K, HT.out, Chg.refl _ _⟩
  · have t0 : ((o : Int) == 0) = false := by rw [beq_eq_false_iff_ne]; omega
    by_cases h1 : g.length < j + o
    · have t1 : decide (((g.length : Int) - (j : Int)) < (o : Int)) = true := by rw [decide_eq_true_eq]; omega
      clear hout h0
      go_enter Try.func27, Try.ntmps27
      go_wp2_with fail
      go_ret
      exact ⟨by rw [HR.out]; rfl, K, HT.out, Chg.refl _ _⟩
    · have t1 : decide (((g.length : Int) - (j : Int)) < (o : Int)) = false := by rw [decide_eq_false_iff_not]; omega
      have t2 : decide ((lim : Int) < (d : Int)) = true := by rw [decide_eq_true_eq]; omega
      have t3 : lim < d := by omega
      clear hout h0 h1
      go_enter Try.func27, Try.ntmps27
      go_wp2_with fail
      go_ret
      exact ⟨by rw [HR.out]; rfl, K, HT.out, Chg.refl _ _⟩

set_option maxHeartbeats 2000000 in
theorem cost_known (g : List Int) (lim p : Nat) (vf vk vs : Value) (K : List Int) (r d j o : Nat) (w : World) (hT : Tab w p vf vk vs lim g K) (hg : Gs g) (hj : j < g.length) (ho : j + o ≤ g.length) (ho1 : 1 ≤ o) (hd : 1 ≤ d) (hlim : lim ≤ 15) (hr : d + (r + 1) = lim + 1)
    (hk : K.getD (key d j o) 0 = enc (dp (r + 1) (g.drop j) o) + 2) :
    Calls Try.prog 27 #[.pointer (some ⟨p, 0, none⟩), .int .i64 (d : Int), .int .i64 (j : Int), .int .i64 (o : Int)] w (CostE g lim p vf vk vs (r + 1) j o w) := by
  obtain ⟨af, cf, rfl⟩ := sliceI hT.rf
  have hl := hg.len
  have hKl := hT.good.len
  obtain ⟨gk, ck, rfl, _, _⟩ := rowI hT.rk (by intro e; rw [e] at hKl; simp at hKl)
  have c0 := hT.blk.cell (i := 0) rfl
  have c1 := hT.blk.cell (i := 1) rfl
  have c2 := hT.blk.cell (i := 2) rfl
  rw [hKl] at c2
  obtain ⟨m, hm⟩ : ∃ m, m = key d j o := ⟨_, rfl⟩
  have hm2 : m < 166600 := by rw [hm]; unfold key; omega
  have ck2 := hT.rk.cell (j := m) (Own.ints_at .i64 K m (by rw [hKl]; exact hm2))
  obtain ⟨z, hz⟩ : ∃ z, z = enc (dp (r + 1) (g.drop j) o) := ⟨_, rfl⟩
  have hz1 : -1 ≤ z ∧ z ≤ 20000000000 := by
    rw [hz]
    cases e : dp (r + 1) (g.drop j) o with
    | none => simp [enc]
    | some x => have := dp_le _ _ _ _ (hg.drop j) e; simp only [enc]; omega
  rw [← hm] at hk
  rw [hk, ← hz] at ck2
  have e0 : (((g.length : Int) - (j : Int)) == 0) = false := by rw [beq_eq_false_iff_ne]; omega
  have t0 : ((o : Int) == 0) = false := by rw [beq_eq_false_iff_ne]; omega
  have t1 : decide (((g.length : Int) - (j : Int)) < (o : Int)) = false := by rw [decide_eq_false_iff_not]; omega
  have t2 : decide ((lim : Int) < (d : Int)) = false := by rw [decide_eq_false_iff_not]; omega
  have HK := kept (fun (x : Option Addr) => key_calls x d j o w (by omega) (by omega) (by omega))
  rw [← hm] at HK
  obtain ⟨hz1a, hz1b⟩ := hz1
  have hz3 : 0 < z + 2 := by omega
  have t3 : decide (0 < z + 2) = true := decide_eq_true hz3
  have HZ := kept hz
  have HT := kept hT
  clear hT hg hk hm hz
  go_enter Try.func27, Try.ntmps27
  go_wp2_with (first | (go_at_call 31; refine (HK.out _).mono ?_; rintro e w1 ⟨rfl, rfl⟩))
  go_ret
  exact ⟨by rw [← HZ.out]; rfl, K, HT.out, Chg.refl _ _⟩

end Go.Proofs.Ytkplcibmhibjjaa

-- ---- Rd
/- wringerref7's best.cost, whole. Conditions: the memory that 'Tab' tells. -/
namespace Go.Proofs.Ytkplcibmhibjjaa
set_option linter.unusedSimpArgs false
set_option linter.unusedVariables false
open Go.RowKit Mix _root_.Go.Proofs.Ytkplcibmhibjjaa.Own Dp

theorem Tab.store {w : World} {p gk n ck : Nat} {vf vs : Value} {lim : Nat} {g K : List Int} (h : Tab w p vf (.slice (some ⟨gk, 0, none⟩) n ck) vs lim g K) (m : Nat) (v : Int) (hg : KGood lim g (K.set m v)) :
    Tab (w.setCell ⟨gk, m, none⟩ (.int .i64 v)) p vf (.slice (some ⟨gk, 0, none⟩) n ck) vs lim g (K.set m v) := by
  have hp : p ≠ gk := fun e => h.rk.ne h.blk (by decide) (by rw [e]; rfl)
  refine ⟨h.blk.setOther hp _, h.rf.setOther (fun e => h.nf gk rfl e) _, by rw [ints_set]; exact h.rk.store m _, h.rs.setOther (fun e => h.ns gk rfl e) _, h.nf, h.ns, hg⟩
theorem Tab.known {w : World} {p : Nat} {vf vk vs : Value} {lim : Nat} {g K : List Int} (h : Tab w p vf vk vs lim g K) : ∃ gk ck, vk = .slice (some ⟨gk, 0, none⟩) 166600 ck := by
  have hKl := h.good.len
  obtain ⟨gk, ck, e, _, _⟩ := rowI h.rk (by intro e; rw [e] at hKl; simp at hKl)
  rw [hKl] at e
  exact ⟨gk, ck, e⟩
theorem Tab.sum {w : World} {p : Nat} {vf vk vs : Value} {lim : Nat} {g K : List Int} (h : Tab w p vf vk vs lim g K) : ∃ gs cs, vs = .slice (some ⟨gs, 0, none⟩) (g.length + 1) cs ∧ ∀ i, i ≤ g.length → w.cell? ⟨gs, i, none⟩ = some (.int .i64 (g.drop i).sum) := by
  obtain ⟨gs, cs, e, _, _⟩ := rowI h.rs (by intro e; have := congrArg List.length e; rw [length_sums] at this; simp at this)
  subst e
  rw [length_sums]
  refine ⟨gs, cs, rfl, fun i hi => ?_⟩
  have := h.rs.cell (j := i) (Own.ints_at .i64 (sums g) i (by rw [length_sums]; omega))
  rw [sums_at g i hi] at this
  exact this

theorem minUp_ge {g : List Int} (hg : Gs g) (r j o t : Nat) (y : Int) (h : minUp (cand r (g.drop j) o) t = some y) : 0 ≤ y ∧ y ≤ 1090519040 * ((r : Int) + 1) := by
  have hs := minUp_spec (cand r (g.drop j) o) t
  rw [h] at hs
  obtain ⟨⟨k, _, hk⟩, _⟩ := hs
  unfold cand at hk
  cases hd : dp r ((g.drop j).drop k) (2 * (o - k)) with
  | none => rw [hd] at hk; cases hk
  | some z =>
    rw [hd] at hk
    simp only [Option.map_some, Option.some.injEq] at hk
    have h1 := dp_le _ _ _ _ ((hg.drop j).drop k) hd
    have h2 := (hg.drop j).sum k
    omega

set_option maxHeartbeats 800000 in
theorem cost_calls (g : List Int) (lim p : Nat) (vf vk vs : Value) (hg : Gs g) (hlim : lim ≤ 15) : ∀ (r d j o : Nat) (K : List Int) (w : World), Tab w p vf vk vs lim g K → j ≤ g.length → o ≤ 130 → 1 ≤ d → d + r = lim + 1 →
    Calls Try.prog 27 #[.pointer (some ⟨p, 0, none⟩), .int .i64 (d : Int), .int .i64 (j : Int), .int .i64 (o : Int)] w (CostE g lim p vf vk vs r j o w) := by
  intro r
  induction r with
  | zero =>
    intro d j o K w hT hj ho hd hr
    by_cases h : j = g.length
    · exact cost_end g lim p vf vk vs K 0 d j o w hT hg h (by omega) (by omega)
    · exact cost_out g lim p vf vk vs K 0 d j o w hT hg (by omega) (by omega) (by omega) hr (.inr (.inr rfl))
  | succ r ih =>
    intro d j o K w hT hj ho hd hr
    by_cases h : j = g.length
    · exact cost_end g lim p vf vk vs K (r + 1) d j o w hT hg h (by omega) (by omega)
    by_cases h2 : o = 0 ∨ g.length < j + o
    · exact cost_out g lim p vf vk vs K (r + 1) d j o w hT hg (by omega) (by omega) (by omega) hr (by omega)
    have hjl : j < g.length := by omega
    have ho1 : 1 ≤ o := by omega
    have hjo : j + o ≤ g.length := by omega
    clear h h2 ho hj
    have hl := hg.len
    have hd15 : d ≤ lim := by omega
    rcases hT.good.at_ d j o hd (by omega) (by omega) (by omega) with hk | hk
    · -- not known yet
      obtain ⟨af, cf, rfl⟩ := sliceI hT.rf
      obtain ⟨gk, ck, rfl⟩ := hT.known
      have hKl := hT.good.len
      obtain ⟨m, hm⟩ : ∃ m, m = key d j o := ⟨_, rfl⟩
      have hm2 : m < 166600 := by rw [hm]; unfold key; omega
      have c0 := hT.blk.cell (i := 0) rfl
      have c1 := hT.blk.cell (i := 1) rfl
      have c2 := hT.blk.cell (i := 2) rfl
      have ck2 := hT.rk.cell (j := m) (Own.ints_at .i64 K m (by rw [hKl]; exact hm2))
      rw [← hm] at hk
      rw [hk] at ck2
      have e0 : (((g.length : Int) - (j : Int)) == 0) = false := by rw [beq_eq_false_iff_ne]; omega
      have t0 : ((o : Int) == 0) = false := by rw [beq_eq_false_iff_ne]; omega
      have t1 : decide (((g.length : Int) - (j : Int)) < (o : Int)) = false := by rw [decide_eq_false_iff_not]; omega
      have t2 : decide ((lim : Int) < (d : Int)) = false := by rw [decide_eq_false_iff_not]; omega
      have HK := kept (fun (x : Option Addr) => key_calls x d j o w (by omega) (by omega) (by omega))
      rw [← hm] at HK
      obtain ⟨c, hc⟩ : ∃ c, c = cand r (g.drop j) o := ⟨_, rfl⟩
      have HC := kept hc
      have hne : g.drop j ≠ [] := by intro e; have := congrArg List.length e; rw [List.length_drop] at this; simp at this; omega
      have HD := kept (show dp (r + 1) (g.drop j) o = minUp c (o + 1) by rw [minUp_best, dp_in hne ho1 (by rw [List.length_drop]; omega), hc])
      have HM := kept hm
      have HT := kept hT
      have HG := kept hg
      have IH := kept ih
      clear hT hg hk hm hc hne ih
      go_enter Try.func27, Try.ntmps27
      go_wp2_with (first | (go_at_call 31; refine (HK.out _).mono ?_; rintro e w1 ⟨rfl, rfl⟩))
      go_loopw [11, 12] (fun s11 s12 wr => ∃ t : Nat, t ≤ o + 1 ∧ s12 = .int .i64 (t : Int) ∧ s11 = .int .i64 (enc (minUp c t)) ∧ ∃ K', Tab wr p (.slice af g.length cf) (.slice (some ⟨gk, 0, none⟩) 166600 ck) vs lim g K' ∧ Chg (fun b => some b = (Value.slice (some ⟨gk, 0, none⟩) 166600 ck).ownBlock) w wr)
        (fun _ s12 _ => o + 1 - (intOf s12).toNat)
      case atStart => exact ⟨0, Nat.zero_le _, rfl, rfl, K, HT.out, Chg.refl _ _⟩
      case round =>
        obtain ⟨t, ht, rfl, rfl, K1, hT1, hC1⟩ := hrel
        have hlt := HG.out.len
        by_cases hto : t ≤ o
        · obtain ⟨gs, cs, rfl, hsum⟩ := hT1.sum
          have d3 := hT1.blk.cell (i := 3) rfl
          have dsum := hsum (j + t) (by omega)
          obtain ⟨S, hS⟩ : ∃ S, S = (g.drop (j + t)).sum := ⟨_, rfl⟩
          have hS1 := HG.out.sum (j + t)
          rw [← hS] at dsum hS1
          have hcall := IH.out (d + 1) (j + t) (2 * (o - t)) K1 wr hT1 (by omega) (by omega) (by omega) (by omega)
          rw [show ((d + 1 : Nat) : Int) = (d : Int) + 1 by omega, show ((j + t : Nat) : Int) = (j : Int) + (t : Int) by omega, show ((2 * (o - t) : Nat) : Int) = 2 * ((o : Int) - (t : Int)) by omega] at hcall
          have hcand : c t = (dp r (g.drop (j + t)) (2 * (o - t))).map (· + S) := by rw [HC.out, hS]; unfold cand; rw [List.drop_drop]
          have HS := kept hS
          have HT1 := kept hT1
          have HC1 := kept hC1
          have HSum := kept hsum
          clear hT1 hC1 hS hsum d3 dsum
          cases hdp : dp r (g.drop (j + t)) (2 * (o - t)) with
          | none =>
            have hu : minUp c (t + 1) = minUp c t := by rw [hdp] at hcand; simp only [minUp, hcand, Option.map_none]
            unfold CostE at hcall
            rw [hdp] at hcall
            simp only [enc] at hcall
            have HU := kept hu
            have HCall := kept hcall
            clear hcall hu hcand hdp
            go_wp2_with (first | (go_at_call 27; refine HCall.out.mono ?_; rintro e w2 ⟨rfl, K2, hT2, hC2⟩; have HT2 := kept hT2; have HC2 := kept (HC1.out.trans hC2 (fun _ _ h => h)); clear hT2 hC2))
            go_roundw
            case rel => exact ⟨t + 1, by omega, by go_num, by rw [HU.out], K2, HT2.out, HC2.out⟩
            case measure => simp [intOf]; omega
          | some x =>
            have hx := dp_le _ _ _ _ (HG.out.drop (j + t)) hdp
            have hu : minUp c (t + 1) = match minUp c t with | none => some (x + S) | some y => if x + S < y then some (x + S) else some y := by rw [hdp] at hcand; simp only [minUp, hcand, Option.map_some]; try rfl
            unfold CostE at hcall
            rw [hdp] at hcall
            simp only [enc] at hcall
            obtain ⟨hx1, hx2⟩ := hx
            obtain ⟨hS1a, hS1b⟩ := hS1
            have hx3 : x ≤ 20000000000 := by omega
            have hxn : decide (x < 0) = false := by rw [decide_eq_false_iff_not]; omega
            have HCall := kept hcall
            clear hcall hcand hdp hx2
            cases hmn : minUp c t with
            | none =>
              rw [hmn] at hu
              have HU := kept hu
              clear hu hmn
              simp only [enc]
              go_wp2_with (first | (go_at_call 27; refine HCall.out.mono ?_; rintro e w2 ⟨rfl, K2, hT2, hC2⟩; have d3 := hT2.blk.cell (i := 3) rfl; have dsum := (by have := (hT2.rs.cell (j := j + t) (Own.ints_at .i64 (sums g) (j + t) (by rw [length_sums]; omega))); rw [sums_at g (j + t) (by omega), ← HS.out] at this; exact this : w2.cell? ⟨gs, j + t, none⟩ = some (.int .i64 S)); have HT2 := kept hT2; have HC2 := kept (HC1.out.trans hC2 (fun _ _ h => h)); clear hT2 hC2))
              go_roundw
              case rel => exact ⟨t + 1, by omega, by go_num, by rw [HU.out], K2, HT2.out, HC2.out⟩
              case measure => simp [intOf]; omega
            | some y =>
              rw [hmn] at hu
              simp only at hu
              have hy := minUp_ge HG.out r j o t y (by rw [← HC.out]; exact hmn)
              obtain ⟨hy1, hy2⟩ := hy
              have hyn : decide (y < 0) = false := by rw [decide_eq_false_iff_not]; omega
              clear hmn hy2
              simp only [enc]
              by_cases hlt2 : x + S < y
              · rw [if_pos hlt2] at hu
                have HU := kept hu
                have hyd : decide (x + S < y) = true := decide_eq_true hlt2
                clear hu
                go_wp2_with (first | (go_at_call 27; refine HCall.out.mono ?_; rintro e w2 ⟨rfl, K2, hT2, hC2⟩; have d3 := hT2.blk.cell (i := 3) rfl; have dsum := (by have := (hT2.rs.cell (j := j + t) (Own.ints_at .i64 (sums g) (j + t) (by rw [length_sums]; omega))); rw [sums_at g (j + t) (by omega), ← HS.out] at this; exact this : w2.cell? ⟨gs, j + t, none⟩ = some (.int .i64 S)); have HT2 := kept hT2; have HC2 := kept (HC1.out.trans hC2 (fun _ _ h => h)); clear hT2 hC2))
                go_roundw
                case rel => exact ⟨t + 1, by omega, by go_num, by rw [HU.out], K2, HT2.out, HC2.out⟩
                case measure => simp [intOf]; omega
              · rw [if_neg hlt2] at hu
                have HU := kept hu
                have hyd : decide (x + S < y) = false := decide_eq_false hlt2
                clear hu
                go_wp2_with (first | (go_at_call 27; refine HCall.out.mono ?_; rintro e w2 ⟨rfl, K2, hT2, hC2⟩; have d3 := hT2.blk.cell (i := 3) rfl; have dsum := (by have := (hT2.rs.cell (j := j + t) (Own.ints_at .i64 (sums g) (j + t) (by rw [length_sums]; omega))); rw [sums_at g (j + t) (by omega), ← HS.out] at this; exact this : w2.cell? ⟨gs, j + t, none⟩ = some (.int .i64 S)); have HT2 := kept hT2; have HC2 := kept (HC1.out.trans hC2 (fun _ _ h => h)); clear hT2 hC2))
                go_roundw
                case rel => exact ⟨t + 1, by omega, by go_num, by rw [HU.out], K2, HT2.out, HC2.out⟩
                case measure => simp [intOf]; omega
        · have hto1 : t = o + 1 := by omega
          subst hto1
          have d2 := hT1.blk.cell (i := 2) rfl
          have hKl1 := hT1.good.len
          have df := hT1.rk.free m
          have dk := hT1.rk.cell (j := m) (Own.ints_at .i64 K1 m (by rw [hKl1]; exact hm2))
          rw [← HD.out]
          obtain ⟨z, hz⟩ : ∃ z, z = enc (dp (r + 1) (g.drop j) o) := ⟨_, rfl⟩
          have hz1 : -1 ≤ z ∧ z ≤ 20000000000 := by
            rw [hz]
            cases e : dp (r + 1) (g.drop j) o with
            | none => simp [enc]
            | some x => have := dp_le _ _ _ _ (HG.out.drop j) e; simp only [enc]; omega
          obtain ⟨hz1a, hz1b⟩ := hz1
          have hst := hT1.store m (z + 2) (by
            have := hT1.good.set (d := d) (j := j) (o := o) hd hd15 (by omega) (by omega) hlim
            rw [← HM.out, show lim + 1 - d = r + 1 by omega, ← hz] at this; exact this)
          rw [← hz]
          have HZ := kept hz
          have HS := kept hst
          have HC1 := kept hC1
          clear hT1 hC1 hst hz c0 c1 c2 ck2
          go_wp2_with fail
          go_ret
          exact ⟨by rw [← HZ.out]; rfl, _, HS.out, HC1.out.trans (Chg.setCell _ _ _) (fun b _ e => by rw [e]; rfl)⟩
    · obtain ⟨r', rfl⟩ : ∃ r', r' = r := ⟨r, rfl⟩
      exact cost_known g lim p vf vk vs K r' d j o w hT hg hjl hjo ho1 hd hlim hr (by rw [show lim + 1 - d = r' + 1 by omega] at hk; exact hk)
end Go.Proofs.Ytkplcibmhibjjaa

-- ---- Af
/- 'append' onto a slice that is full (its length is its capacity): the result lies in a block of its own. No program in sight. -/
namespace Go.Proofs.Ytkplcibmhibjjaa.Own
set_option linter.unusedSimpArgs false
set_option linter.unusedVariables false
open Go Go.RowKit

theorem zeroCells_size (z : Array Value) (n : Nat) (h : z.size = 1) : (Builtin.zeroCells z n).size = n := by
  have := Go.size_zeroCells z n
  rw [h] at this
  simpa using this

section
variable {P : Program} {w : World}
theorem run_append_full (t ty e : TypeId) (i : TypeInfo) (z : Value) (bytes : Nat) (ht : P.underlying t = some (.slice e)) (hi : P.info? e = some i) (hz : i.zero = some z)
    (hsize : i.size = 1) (hby : i.bytes = bytes) (hzs : z.cells.size = 1)
    (A : Option Addr) (k : Nat) (xs : List Value) (hx : Rd w (.slice A k k) xs) (A2 : Option Addr) (m c : Nat) (ys : List Value) (hy : Rd w (.slice A2 m c) ys) (hm : 0 < m)
    (h63 : k + m ≤ maxLen) (hbytes : ((k + m) + (k + m) / 4 + 192) * bytes ≤ 281474976710656) :
    ∃ v' w', (Builtin.append_ #[t, t] ty #[.slice A k k, .slice A2 m c]).run P w = .ok v' w' ∧ Owns w' e v' (xs ++ ys) ∧ Below w.heap.size w w' ∧ ∀ g, v'.ownBlock = some g → w.heap.size ≤ g := by
  have hk := hx.length
  have hml := hy.length
  subst hk
  subst hml
  obtain ⟨y0, hy0⟩ : ∃ y0, ys[0]? = some y0 := ⟨ys[0], List.getElem?_eq_getElem hm⟩
  obtain ⟨a2, rfl, _⟩ := hy.at hy0
  have hnews : ∀ j u, ys[j]? = some u → w.cell? (a2.add j) = some u := fun j u hu => by
    obtain ⟨x, hxx, hc⟩ := hy.at hu
    cases hxx
    exact hc
  have hge := grownCap_ge w (xs.length + ys.length) xs.length e
  have hle := grownCap_le_maxLen w (xs.length + ys.length) xs.length e h63
  have fin : ∀ C cap, C.size = cap → cap = grownCap w (xs.length + ys.length) xs.length e → C.toList.take (xs.length + ys.length) = xs ++ ys →
      Owns (w.drew.alloc (.cells C e)) e (.slice (some ⟨w.heap.size, 0, none⟩) (xs.length + ys.length) cap) (xs ++ ys) ∧ Below w.heap.size w (w.drew.alloc (.cells C e)) ∧ ∀ g, (Value.slice (some ⟨w.heap.size, 0, none⟩) (xs.length + ys.length) cap).ownBlock = some g → w.heap.size ≤ g := by
    intro C cap h1 h2 h3
    have hb : Blk (w.drew.alloc (.cells C e)) w.heap.size C e := Blk.fresh w.drew C e
    refine ⟨?_, ((Below.refl w.heap.size w).drew).alloc (Nat.le_refl _) _, fun g hg => ?_⟩
    · have := Owns.mk (xs := xs ++ ys) hb (by rw [List.length_append]; omega) (by omega) h1 (by rw [List.length_append]; exact h3)
      rwa [List.length_append] at this
    · simp [Value.ownBlock] at hg; omega
  cases A with
  | none =>
    have h0 : xs = [] := by
      cases xs with
      | nil => rfl
      | cons u t => obtain ⟨x, hx2, _⟩ := hx.at (i := 0) (u := u) rfl; cases hx2
    subst h0
    have hr := run_append_nil (P := P) (w := w) t ty e i z ht hi hz a2 ys.length c ys (by rw [hsize, Nat.mul_one]) hnews hm (by simp only [maxLen] at h63; simp at h63; omega) (by rw [hby]; simp at hbytes; exact Nat.le_trans (Nat.mul_le_mul_right _ (by omega)) hbytes)
    simp only [List.length_nil, Nat.zero_add, List.nil_append] at fin hge ⊢
    refine ⟨_, _, hr, fin _ _ ?_ rfl ?_⟩
    · simp [zeroCells_size _ _ hzs]; omega
    · simp
  | some b =>
    have holds : ∀ j v, xs[j]? = some v → w.cell? (b.add j) = some v := fun j u hu => by
      obtain ⟨x, hxx, hc⟩ := hx.at hu
      cases hxx
      exact hc
    have hr := run_append_grow (P := P) (w := w) t ty e i z ht hi hz b xs.length xs.length xs (by rw [hsize, Nat.mul_one]) holds a2 ys.length c ys (by rw [hsize, Nat.mul_one]) hnews (by omega) (by simp only [maxLen] at h63; omega) (by rw [hby]; exact growslice_fits_wide (by omega) hbytes)
    refine ⟨_, _, hr, fin _ _ ?_ rfl ?_⟩
    · simp [zeroCells_size _ _ hzs]; omega
    · simp only [Array.toList_append, List.toList_toArray]
      exact List.take_left' (by simp)

/-- The law at the operation. -/
theorem wpList_appFull {ops : Array Oper} {rest : List Oper} {o : Oper} {a : Act} {Q : Exit → Act → World → Prop} (hgd : o.guard = none) (s x : Operand) (t : TypeId)
    (ho : o.op = .call { callee := .builtin .append, args := #[s, x], argTypes := #[t, t] })
    (e : TypeId) (i : TypeInfo) (z : Value) (bytes : Nat) (ht : P.underlying t = some (.slice e)) (hi : P.info? e = some i) (hz : i.zero = some z)
    (hsize : i.size = 1) (hby : i.bytes = bytes) (hzs : z.cells.size = 1)
    (A : Option Addr) (k : Nat) (xs : List Value) (hs : a.eval s = .slice A k k) (hR : Rd w (.slice A k k) xs) (A2 : Option Addr) (m c : Nat) (ys : List Value) (hx : a.eval x = .slice A2 m c) (hy : Rd w (.slice A2 m c) ys) (hm : 0 < m)
    (h63 : k + m ≤ maxLen) (hbytes : ((k + m) + (k + m) / 4 + 192) * bytes ≤ 281474976710656)
    (h : ∀ v' w', Owns w' e v' (xs ++ ys) → Below w.heap.size w w' → (∀ g, v'.ownBlock = some g → w.heap.size ≤ g) → wpList P ops Q rest (a.put o.dst v') w') : wpList P ops Q (o :: rest) a w :=
  wpList_plain hgd fun K hK => by
    obtain ⟨v', w', hr, h2, h3, h4⟩ := run_append_full (P := P) t o.type e i z bytes ht hi hz hsize hby hzs A k xs hR A2 m c ys hy hm h63 hbytes
    unfold Oper.wp execOp
    simp only [ho, resolve, invoke, builtin, Sem.run_bind, Sem.run_pure, Result.andThen_ok, List.map_toArray, List.map_cons, List.map_nil, hs, hx, hr]
    exact hK _ _ (h v' w' h2 h3 h4)

/-- 'append' of what can be read, nil or not, onto a row of one's own. -/
theorem wpList_appRd {ops : Array Oper} {rest : List Oper} {o : Oper} {a : Act} {Q : Exit → Act → World → Prop} (hgd : o.guard = none) (s x : Operand) (t : TypeId)
    (ho : o.op = .call { callee := .builtin .append, args := #[s, x], argTypes := #[t, t] })
    (e : TypeId) (i : TypeInfo) (z : Value) (bytes : Nat) (ht : P.underlying t = some (.slice e)) (hi : P.info? e = some i) (hz : i.zero = some z)
    (hsize : i.size = 1) (hby : i.bytes = bytes) (hzs : z.cells.size = 1)
    (v : Value) (xs : List Value) (hs : a.eval s = v) (hown : Owns w e v xs)
    (A2 : Option Addr) (m c : Nat) (ys : List Value) (hx : a.eval x = .slice A2 m c) (hy : Rd w (.slice A2 m c) ys) (hnil : A2 = none → c = 0) (h1 : ∀ u ∈ ys, u.oneCell' = true)
    (h63 : xs.length + m ≤ maxLen) (hbytes : (xs.length + m) * bytes ≤ 140737488355328)
    (h : ∀ v' w', Owns w' e v' (xs ++ ys) → Chg (fun k => some k = v.ownBlock) w w' → (∀ g, v'.ownBlock = some g → some g = v.ownBlock ∨ w.heap.size ≤ g) → wpList P ops Q rest (a.put o.dst v') w') : wpList P ops Q (o :: rest) a w := by
  have hml := hy.length
  cases A2 with
  | some ad =>
    refine wpList_app hgd s x t ho e i z bytes ht hi hz hsize hby hzs v xs hs hown ad m c ys hx hml.symm (fun j u hu => ?_) h1 h63 hbytes h
    obtain ⟨x', hxx, hc⟩ := hy.at hu
    cases hxx
    exact hc
  | none =>
    have h0 : ys = [] := by
      cases ys with
      | nil => rfl
      | cons u t => obtain ⟨x, hx2, _⟩ := hy.at (i := 0) (u := u) rfl; cases hx2
    subst h0
    have hm0 : m = 0 := hml
    subst hm0
    have hc0 := hnil rfl
    subst hc0
    refine wpList_plain hgd fun K hK => ?_
    have hr := run_append_owned_none (P := P) (w := w) 0 t o.type e i 1 ht hi v xs.length xs hown
    unfold Oper.wp execOp
    simp only [ho, resolve, invoke, builtin, Sem.run_bind, Sem.run_pure, Result.andThen_ok, List.map_toArray, List.map_cons, List.map_nil, hs, hx, hr]
    exact hK _ _ (h v w (by simpa using hown) (Chg.refl _ _) fun g hg => .inl hg.symm)
end
end Go.Proofs.Ytkplcibmhibjjaa.Own

-- ---- Ro
/- The document's order of places. -/
namespace Go.Proofs.Ytkplcibmhibjjaa
set_option linter.unusedSimpArgs false
set_option linter.unusedVariables false
open Go.RowKit Mix _root_.Go.Proofs.Ytkplcibmhibjjaa.Own Ol
attribute [local go_sem] max_int min_int

theorem infoI64 : (Try.prog.info? 3).map (fun i => (i.zero, i.size, i.bytes)) = some (some (.int .i64 0), 1, 8) := by kernel_rfl
theorem info_partsI {i : Option TypeInfo} {z : Value} {s b : Nat} (h : i.map (fun i => (i.zero, i.size, i.bytes)) = some (some z, s, b)) : ∃ i0, i = some i0 ∧ i0.zero = some z ∧ i0.size = s ∧ i0.bytes = b := by
  cases i with
  | none => simp at h
  | some i => simp at h; exact ⟨i, rfl, h.1, h.2.1, h.2.2⟩

/-- Places as values. -/
def idx (l : List Nat) : List Value := l.map fun i : Nat => .int .i64 (i : Int)
@[simp] theorem length_idx (l : List Nat) : (idx l).length = l.length := by simp [idx]
theorem idx_at (l : List Nat) (i : Nat) (h : i < l.length) : (idx l)[i]? = some (.int .i64 ((l.getD i 0 : Nat) : Int)) := by
  simp [idx, List.getD_eq_getElem?_getD, h]
theorem idx_drop (l : List Nat) (k : Nat) : idx (l.drop k) = (idx l).drop k := by simp [idx, List.map_drop]
theorem idx_take (l : List Nat) (k : Nat) : idx (l.take k) = (idx l).take k := by simp [idx, List.map_take]
theorem one_idx (l : List Nat) : ∀ u ∈ idx l, u.oneCell' = true := by
  intro u hu; obtain ⟨n, _, rfl⟩ := List.mem_map.1 hu; rfl

/-- What holds of the row of places, on the way. -/
structure RowO (B : Nat) (w wr : World) (v : Value) (l : List Nat) : Prop where
  own : Owns wr 3 v (idx l)
  new : ∀ g, v.ownBlock = some g → B ≤ g
  low : Below B w wr

theorem rd_cap {w : World} {a : Option Addr} {n c : Nat} {xs : List Value} (h : Rd w (.slice a n c) xs) (c' : Nat) (h1 : n ≤ c') (h2 : c' ≤ maxLen) : Rd w (.slice a n c') xs := by
  obtain ⟨_, _, hv, h3, h4, hc⟩ := h
  simp only [Value.slice.injEq] at hv
  obtain ⟨rfl, rfl, rfl⟩ := hv
  exact ⟨_, _, rfl, h1, h2, hc⟩
/-- What stands ahead of a place, full; what stands from a place on. -/
theorem row_parts {w : World} {a : Option Addr} {cap : Nat} {o : List Nat} (h : Owns w 3 (.slice a o.length cap) (idx o)) (k : Nat) (hk : k ≤ o.length) :
    Rd w (.slice a k k) (idx (o.take k)) ∧ Rd w (.slice (if cap = k then a else a.map fun x => x.add k) (o.length - k) (cap - k)) (idx (o.drop k)) ∧ ((if cap = k then a else a.map fun x => x.add k) = none → cap - k = 0) := by
  have hr := h.rd
  have hcm : o.length ≤ cap ∧ cap ≤ maxLen ∧ (a = none → cap = 0) := by
    rcases h.form with ⟨hv, hx⟩ | ⟨g, cap', cur, hv, _, h1, h2, _⟩
    · simp only [Value.slice.injEq] at hv; obtain ⟨rfl, h0, rfl⟩ := hv; rw [h0]; exact ⟨Nat.le_refl _, Nat.zero_le _, fun _ => rfl⟩
    · simp only [Value.slice.injEq, length_idx] at hv h1; obtain ⟨rfl, _, rfl⟩ := hv; exact ⟨h1, h2, fun e => by cases e⟩
  refine ⟨?_, ?_, fun e => ?_⟩
  · have := hr.take k hk
    rw [← idx_take] at this
    exact rd_cap this k (Nat.le_refl _) (by omega)
  · have := hr.sub k (o.length - k) (by omega)
    rw [← idx_drop, show k + (o.length - k) - k = o.length - k by omega] at this
    rwa [List.take_of_length_le (by simp)] at this
  · split at e
    · omega
    · cases a with
      | none => have := hcm.2.2 rfl; omega
      | some x => cases e

set_option maxHeartbeats 8000000 in
theorem rorder_calls (a : Option Addr) (n c : Nat) (l : List Int) (w : World) (hR : Rd w (.slice a n n) (ints .i64 l)) (hn : n ≤ 100000) :
    Calls Try.prog 26 #[.slice a n c] w fun e w' => ∃ v, e = .returned v ∧ RowO w.heap.size w w' v (ordL l) := by
  have hln : l.length = n := by have := hR.length; rw [length_ints] at this; exact this.symm
  obtain ⟨i0, hi, hz0, hz1, hz2⟩ := info_partsI infoI64
  have HR := kept hR
  have HL := kept hln
  have HN := kept hn
  obtain ⟨B, hB⟩ : ∃ B, B = w.heap.size := ⟨_, rfl⟩
  rw [← hB]
  have HB := kept hB
  clear hR hln hn hB
  go_enter Try.func26, Try.ntmps26
  go_wp2_with fail
  go_loopw [3, 4] (fun s3 s4 wr => ∃ i : Nat, i ≤ n ∧ s4 = .int .i64 (i : Int) ∧ ∃ v3, v3 = s3 ∧ RowO B w wr v3 (ordN l i)) (fun s3 s4 _ => n - (intOf s4).toNat)
  case atStart => exact ⟨0, Nat.zero_le _, rfl, _, rfl, Owns.nil _ _, fun g hg => by simp [Value.ownBlock] at hg, by have := HB.out; subst this; exact Below.refl _ _⟩
  case round =>
    obtain ⟨i, hi2, rfl, v3, rfl, hro⟩ := hrel
    obtain ⟨wo, rfl⟩ : ∃ wo, wo = wr := ⟨wr, rfl⟩
    have hn5 := HN.out
    have hlow := hro.low
    have hRd := HR.out.below hlow (by rw [HB.out]; exact HR.out.lt)
    by_cases hlt : i < n
    · have hil : i < l.length := by rw [HL.out]; exact hlt
      obtain ⟨x, rfl, hc⟩ := hRd.at (Own.ints_at .i64 l i hil)
      obtain ⟨y, hy⟩ : ∃ y, y = l.getD i 0 := ⟨_, rfl⟩
      rw [← hy] at hc
      have HRd := kept hRd
      have HRo := kept hro
      have HY := kept hy
      clear hRd hro hy hlow
      by_cases hpos : 0 < y
      · have p0 : ¬ y ≤ 0 := by omega
        obtain ⟨o, ho⟩ : ∃ o, o = ordN l i := ⟨_, rfl⟩
        rw [← ho] at HRo
        have hol : o.length ≤ i := by rw [ho]; exact length_ordN l i
        obtain ⟨a1, cap1, rfl, hrow⟩ := HRo.out.own.slice
        simp only [length_idx] at HRo ⊢
        have hcapm : cap1 ≤ maxLen ∧ o.length ≤ cap1 := by
          rcases HRo.out.own.form with ⟨hv, _⟩ | ⟨g, cap, cur, hv, _, h1, h2, _⟩
          · simp at hv; simp [hv]
          · simp at hv; rw [hv.2]; exact ⟨h2, by simpa using h1⟩
        simp only [maxLen] at hcapm
        have hmem : ∀ j, j ∈ o → j < i ∧ 0 < l.getD j 0 := fun j hj => by rw [ho] at hj; exact mem_ordN.1 hj
        have HO := kept ho
        have HM := kept hmem
        clear ho hmem hrow
        obtain ⟨hcm, hoc⟩ := hcapm
        go_wp2_with fail
        go_loopw [5] (fun s5 wq => ∃ k : Nat, k ≤ o.length ∧ s5 = .int .i64 (k : Int) ∧ Below wo.heap.size wo wq ∧ (∀ j ∈ o.drop k, l.getD j 0 < y)) (fun s5 _ => (intOf s5).toNat)
        case atStart => exact ⟨o.length, Nat.le_refl _, rfl, Below.refl _ _, by simp⟩
        case round =>
          obtain ⟨k, hk, rfl, hbq, hall⟩ := hrel
          obtain ⟨wq, rfl⟩ : ∃ wq, wq = wr := ⟨wr, rfl⟩
          have HBq := kept hbq
          have HRo2 : Kept (RowO B w wq (.slice a1 o.length cap1) o) := kept ⟨HRo.out.own.keep fun g _ hg => hbq.block g hg, HRo.out.new, HRo.out.low.trans (hbq.mono (by have h1 := HRo.out.low.size; have h2 := HB.out; omega))⟩
          have HRd2 := kept (HRd.out.later hbq)
          have HAll := kept hall
          have hcq : wq.cell? (x.add i) = some (.int .i64 y) := by rw [← hc]; exact hbq.cell (World.block_lt_of_cell? wo _ hc)
          clear hbq hall
          by_cases hk0 : 0 < k
          · have hkl : k - 1 < o.length := by omega
            obtain ⟨g1, rfl⟩ : ∃ g1, a1 = some ⟨g1, 0, none⟩ := by
              obtain ⟨a', cap', hv, hg⟩ := HRo2.out.own.slice
              simp at hv
              rw [hv.1]; exact hg (by intro e; have := congrArg List.length e; simp at this; rw [this] at hkl; simp at hkl)
            have hco := HRo2.out.own.cell (idx_at o (k - 1) hkl)
            obtain ⟨q, hq⟩ : ∃ q, q = o.getD (k - 1) 0 := ⟨_, rfl⟩
            rw [← hq] at hco
            have hqm : q ∈ o := by rw [hq, List.getD_eq_getElem?_getD, List.getElem?_eq_getElem hkl]; exact List.getElem_mem _
            have hqi := (HM.out q hqm).1
            have hql : q < l.length := by rw [HL.out]; omega
            obtain ⟨x2, hx2, hcz⟩ := HRd2.out.at (Own.ints_at .i64 l q hql)
            cases hx2
            obtain ⟨z, hz⟩ : ∃ z, z = l.getD q 0 := ⟨_, rfl⟩
            rw [← hz] at hcz
            have HQ := kept hq
            have HZ := kept hz
            obtain ⟨k1, hk1⟩ : ∃ k1, k = k1 + 1 := ⟨k - 1, by omega⟩
            subst hk1
            simp only [Nat.add_sub_cancel] at hco HQ hkl
            have l0 := lat_cell hco
            have l1 := lat_cell hcz
            have l2 := lat_cell hcq
            have e1 : ((k1 + 1 : Nat) : Int) - 1 = (k1 : Int) := by omega
            have hqn : q < n := by omega
            clear hq hz hqm hqi hql hco hcz hcq
            by_cases hzy : z < y
            · have hd : decide (z < y) = true := by simpa using hzy
              go_wp2_with fail
              refine wp_region_quietL (by kernel_rfl) (by kernel_rfl) ?_
              repeat (go_big_quiet_step (fail))
              refine wpQuiet_nil ?_
              intro nq
              have HB3 := kept (HBq.out.trans (nq.below.mono HBq.out.size))
              generalize nq.w = w3 at HB3 ⊢
              clear l0 l1 l2
              go_wp2_with fail
              go_roundw
              case rel =>
                refine ⟨k1, by omega, by go_num, HB3.out, fun j hj => ?_⟩
                rw [List.drop_eq_getElem_cons (by omega)] at hj
                rcases List.mem_cons.1 hj with rfl | hj
                · have h1 := HQ.out; have h2 := HZ.out
                  rw [List.getD_eq_getElem?_getD, List.getElem?_eq_getElem (by omega)] at h1
                  simp only [Option.getD_some] at h1
                  rw [← h1, ← h2]; exact hzy
                · exact HAll.out j hj
              case measure => simp [intOf]
            · have hd : decide (z < y) = false := by simpa using hzy
              have HE : Kept (ins l i o = o.take (k1 + 1) ++ i :: o.drop (k1 + 1)) := kept (by
                have hf : Fall l o := by rw [HO.out]; exact (ordN_spec l i).1
                refine ins_at hf (k1 + 1) hk (fun j hj => by rw [← HY.out]; exact HAll.out j hj) fun _ => ?_
                rw [Nat.add_sub_cancel, ← HQ.out, ← HZ.out, ← HY.out]; exact hzy)
              clear HAll HQ HZ hzy
              go_wp2_with fail
              refine wp_region_quietL (by kernel_rfl) (by kernel_rfl) ?_
              repeat (go_big_quiet_step (fail))
              refine wpQuiet_nil ?_
              intro nq
              have HRo3 : Kept (RowO B w nq.w (.slice (some ⟨g1, 0, none⟩) o.length cap1) o) := kept ⟨HRo2.out.own.keep fun g _ hg => nq.below.block g hg, HRo2.out.new, HRo2.out.low.trans (nq.below.mono (by have h1 := HRo2.out.low.size; have h2 := HB.out; omega))⟩
              generalize nq.w = w3 at HRo3 ⊢
              clear l0 l1 l2
              have hkc : k1 + 1 ≤ cap1 := by omega
              go_wp2_with fail
              refine wp_region_mixL [0,1,2,3] [4,6,7,8] [5,9,10,11] (by kernel_rfl) (by kernel_rfl) ?_
              intro K hK
              simp only [pick, List.filterMap_cons, List.filterMap_nil, List.getElem?_cons_zero, List.getElem?_cons_succ]
              repeat (show wpQuiet _ _ _ _ (_ :: _) _; go_big_quiet_step (fail))
              refine wpQuiet_nil ?_
              obtain ⟨hA, hBs, hnil⟩ := row_parts HRo3.out.own (k1 + 1) hk
              obtain ⟨A2, hA2⟩ : ∃ A2, A2 = (if cap1 = k1 + 1 then some (⟨g1, 0, none⟩ : Addr) else some (⟨g1, k1 + 1, none⟩ : Addr)) := ⟨_, rfl⟩
              have hA3 : (if cap1 = k1 + 1 then some (⟨g1, 0, none⟩ : Addr) else (some (⟨g1, 0, none⟩ : Addr)).map fun x => x.add (k1 + 1)) = A2 := by rw [hA2]; simp [Addr.add]
              rw [hA3] at hBs hnil
              rw [← hA2]
              clear hA3
              clear hA2
              generalize hwd : World.drew w3 = w4
              have HRo4 : Kept (RowO B w w4 (.slice (some ⟨g1, 0, none⟩) o.length cap1) o) := kept (by rw [← hwd]; exact ⟨HRo3.out.own, HRo3.out.new, HRo3.out.low.drew⟩)
              have HA : Kept (Rd w4 (.slice (some ⟨g1, 0, none⟩) (k1 + 1) (k1 + 1)) (idx (o.take (k1 + 1)))) := kept (by rw [← hwd]; exact hA)
              have HBs : Kept (Rd w4 (.slice A2 (o.length - (k1 + 1)) (cap1 - (k1 + 1))) (idx (o.drop (k1 + 1)))) := kept (by rw [← hwd]; exact hBs)
              have HNil := kept hnil
              clear hA hBs hnil hwd HRo3
              have hb5 : Below w4.heap.size w4 (w4.alloc (.cells #[.int .i64 (i : Int)] 3)) := (Below.refl _ _).alloc (Nat.le_refl _) _
              have hO5 : Owns (w4.alloc (.cells #[.int .i64 (i : Int)] 3)) 3 (.slice (some ⟨w4.heap.size, 0, none⟩) 1 1) [.int .i64 (i : Int)] :=
                Owns.mk (xs := [.int .i64 (i : Int)]) (Blk.fresh _ _ _) (Nat.le_refl _) (by simp [maxLen]) rfl rfl
              have HB5 := kept hb5
              have HO5 := kept hO5
              have HC5 : Kept (Rd (w4.alloc (.cells #[.int .i64 (i : Int)] 3)) (.slice A2 (o.length - (k1 + 1)) (cap1 - (k1 + 1))) (idx (o.drop (k1 + 1)))) := kept (HBs.out.later hb5)
              clear hb5 hO5
              show wpList _ _ _ [_, _, _, _] _ _
              go_wp2_with (first | (at_builtin; refine wpList_appRd rfl _ _ 22 rfl 3 i0 (.int .i64 0) 8 Try.underlying22 hi hz0 hz1 hz2 rfl _ _ rfl HO5.out A2 _ _ _ rfl HC5.out HNil.out (one_idx _) ?_ ?_ ?_) | fail)
              · simp [maxLen]; omega
              · simp; omega
              intro v6 w6 O6 C6 F6
              obtain ⟨a6, cap6, rfl, hg6⟩ := O6.slice
              have hsz5 : (w4.alloc (.cells #[.int .i64 (i : Int)] 3)).heap.size = w4.heap.size + 1 := by simp
              have hc46 : Chg (fun _ => False) w4 w6 := ((Chg.of_below (S := fun _ => False) HB5.out).trans C6 (fun b hb h => by
                simp [Value.ownBlock] at h; omega))
              have hb6 : Below w4.heap.size w4 w6 := hc46.below (Nat.le_refl _) (fun _ _ h => h)
              have HA6 := kept (HA.out.later hb6)
              have HR6 := kept O6.rd
              have HB6 := kept hb6
              have hl6 : (Value.int .i64 (i : Int) :: idx (o.drop (k1 + 1))).length = o.length - (k1 + 1) + 1 := by simp
              rw [hl6] at HR6 ⊢
              clear O6 C6 F6 hg6 hsz5 hc46 hb6 hl6
              go_wp2_with (first | (at_builtin; refine wpList_appFull rfl _ _ 22 rfl 3 i0 (.int .i64 0) 8 Try.underlying22 hi hz0 hz1 hz2 rfl (some ⟨g1, 0, none⟩) _ _ rfl HA6.out a6 _ _ _ rfl HR6.out (by omega) ?_ ?_ ?_) | fail)
              · simp [maxLen]; omega
              · omega
              intro v7 w7 O7 B7 F7
              have HO7 : Kept (RowO B w w7 v7 (ordN l (i + 1))) := kept (by
                have e1 : ordN l (i + 1) = o.take (k1 + 1) ++ i :: o.drop (k1 + 1) := by
                  rw [← HE.out, HO.out]; show (if _ then _ else _) = _; rw [if_pos (by rw [← HY.out]; exact hpos)]
                have h1 := HRo4.out.low.size
                have h2 := HB.out
                have h3 := HB6.out.size
                refine ⟨?_, fun g hg => by have := F7 g hg; omega, (HRo4.out.low.trans (HB6.out.mono (by omega))).trans (B7.mono (by omega))⟩
                rw [e1]; simpa [idx] using O7)
              clear O7 B7 F7
              go_wp2_with fail
              refine hK _ _ ?_
              go_wp2_with fail
              go_roundw
              case rel => exact ⟨i + 1, by omega, by go_num, _, rfl, HO7.out⟩
              case measure => simp [intOf]; omega
          · have hd : decide (0 < k) = false := by simp; omega
            have hkz : k = 0 := by omega
            subst hkz
            have HE : Kept (ins l i o = o.take 0 ++ i :: o.drop 0) := kept (by
                have hf : Fall l o := by rw [HO.out]; exact (ordN_spec l i).1
                refine ins_at hf 0 hk (fun j hj => by rw [← HY.out]; exact HAll.out j hj) fun h => ?_
                omega)
            clear HAll hk0 hd
            have hd : decide ((0 : Int) < ((0 : Nat) : Int)) = false := rfl
            go_wp2_with fail
            refine wp_region_quietL (by kernel_rfl) (by kernel_rfl) ?_
            repeat (go_big_quiet_step (fail))
            refine wpQuiet_nil ?_
            intro nq
            have HRo3 : Kept (RowO B w nq.w (.slice a1 o.length cap1) o) := kept ⟨HRo2.out.own.keep fun g _ hg => nq.below.block g hg, HRo2.out.new, HRo2.out.low.trans (nq.below.mono (by have h1 := HRo2.out.low.size; have h2 := HB.out; omega))⟩
            generalize nq.w = w3 at HRo3 ⊢
            clear hd
            have hkc : 0 ≤ cap1 := by omega
            go_wp2_with fail
            refine wp_region_mixL [0,1,2,3] [4,6,7,8] [5,9,10,11] (by kernel_rfl) (by kernel_rfl) ?_
            intro K hK
            simp only [pick, List.filterMap_cons, List.filterMap_nil, List.getElem?_cons_zero, List.getElem?_cons_succ]
            repeat (show wpQuiet _ _ _ _ (_ :: _) _; go_big_quiet_step (fail))
            refine wpQuiet_nil ?_
            have hA := (row_parts HRo3.out.own 0 hk).1
            have hBs : Rd w3 (.slice a1 o.length cap1) (idx (o.drop 0)) := by simpa using HRo3.out.own.rd
            have hnil : a1 = none → cap1 = 0 := fun e => by
              rcases HRo3.out.own.form with ⟨hv, _⟩ | ⟨g, cap', cur, hv, _⟩
              · simp only [Value.slice.injEq] at hv; exact hv.2.2
              · simp only [Value.slice.injEq] at hv; rw [e] at hv; cases hv.1
            generalize hwd : World.drew w3 = w4
            have HRo4 : Kept (RowO B w w4 (.slice a1 o.length cap1) o) := kept (by rw [← hwd]; exact ⟨HRo3.out.own, HRo3.out.new, HRo3.out.low.drew⟩)
            have HA : Kept (Rd w4 (.slice a1 (0) (0)) (idx (o.take (0)))) := kept (by rw [← hwd]; exact hA)
            have HBs : Kept (Rd w4 (.slice a1 o.length cap1) (idx (o.drop (0)))) := kept (by rw [← hwd]; exact hBs)
            have HNil := kept hnil
            clear hA hBs hnil hwd HRo3
            have hb5 : Below w4.heap.size w4 (w4.alloc (.cells #[.int .i64 (i : Int)] 3)) := (Below.refl _ _).alloc (Nat.le_refl _) _
            have hO5 : Owns (w4.alloc (.cells #[.int .i64 (i : Int)] 3)) 3 (.slice (some ⟨w4.heap.size, 0, none⟩) 1 1) [.int .i64 (i : Int)] :=
              Owns.mk (xs := [.int .i64 (i : Int)]) (Blk.fresh _ _ _) (Nat.le_refl _) (by simp [maxLen]) rfl rfl
            have HB5 := kept hb5
            have HO5 := kept hO5
            have HC5 : Kept (Rd (w4.alloc (.cells #[.int .i64 (i : Int)] 3)) (.slice a1 o.length cap1) (idx (o.drop (0)))) := kept (HBs.out.later hb5)
            clear hb5 hO5
            show wpList _ _ _ [_, _, _, _] _ _
            go_wp2_with (first | (at_builtin; refine wpList_appRd rfl _ _ 22 rfl 3 i0 (.int .i64 0) 8 Try.underlying22 hi hz0 hz1 hz2 rfl _ _ rfl HO5.out a1 _ _ _ rfl HC5.out HNil.out (one_idx _) ?_ ?_ ?_) | fail)
            · simp [maxLen]; omega
            · simp; omega
            intro v6 w6 O6 C6 F6
            obtain ⟨a6, cap6, rfl, hg6⟩ := O6.slice
            have hsz5 : (w4.alloc (.cells #[.int .i64 (i : Int)] 3)).heap.size = w4.heap.size + 1 := by simp
            have hc46 : Chg (fun _ => False) w4 w6 := ((Chg.of_below (S := fun _ => False) HB5.out).trans C6 (fun b hb h => by
              simp [Value.ownBlock] at h; omega))
            have hb6 : Below w4.heap.size w4 w6 := hc46.below (Nat.le_refl _) (fun _ _ h => h)
            have HA6 := kept (HA.out.later hb6)
            have HR6 := kept O6.rd
            have HB6 := kept hb6
            have hl6 : (Value.int .i64 (i : Int) :: idx o).length = o.length + 1 := by simp
            rw [hl6] at HR6 ⊢
            clear O6 C6 F6 hg6 hsz5 hc46 hb6 hl6
            go_wp2_with (first | (at_builtin; refine wpList_appFull rfl _ _ 22 rfl 3 i0 (.int .i64 0) 8 Try.underlying22 hi hz0 hz1 hz2 rfl a1 _ _ rfl HA6.out a6 _ _ _ rfl HR6.out (by omega) ?_ ?_ ?_) | fail)
            · simp [maxLen]; omega
            · omega
            intro v7 w7 O7 B7 F7
            have HO7 : Kept (RowO B w w7 v7 (ordN l (i + 1))) := kept (by
              have e1 : ordN l (i + 1) = o.take (0) ++ i :: o.drop (0) := by
                rw [← HE.out, HO.out]; show (if _ then _ else _) = _; rw [if_pos (by rw [← HY.out]; exact hpos)]
              have h1 := HRo4.out.low.size
              have h2 := HB.out
              have h3 := HB6.out.size
              refine ⟨?_, fun g hg => by have := F7 g hg; omega, (HRo4.out.low.trans (HB6.out.mono (by omega))).trans (B7.mono (by omega))⟩
              rw [e1]; simpa [idx] using O7)
            clear O7 B7 F7
            go_wp2_with fail
            refine hK _ _ ?_
            go_wp2_with fail
            go_roundw
            case rel => exact ⟨i + 1, by omega, by go_num, _, rfl, HO7.out⟩
            case measure => simp [intOf]; omega
      · have p0 : y ≤ 0 := by omega
        have HE : Kept (ordN l (i + 1) = ordN l i) := kept (by show (if _ then _ else _) = _; rw [if_neg (by rw [← HY.out]; exact hpos)])
        have HRo2 : Kept (RowO B w wo v3 (ordN l (i + 1))) := kept (by rw [HE.out]; exact HRo.out)
        go_wp2_with fail
        go_roundw
        case rel => exact ⟨i + 1, by omega, by go_num, _, rfl, HRo2.out⟩
        case measure => simp [intOf]; omega
    · have hin : i = n := by omega
      subst hin
      have HF : Kept (RowO B w wo v3 (ordL l)) := kept (by unfold ordL; rw [HL.out]; exact hro)
      clear hro hlow hRd
      go_wp2_with fail
      go_ret
      exact ⟨v3, rfl, HF.out⟩
end Go.Proofs.Ytkplcibmhibjjaa

-- ---- Re
/- wringerref7.Lengths: what it refuses. Conditions: the list reads as the argument does. -/
namespace Go.Proofs.Ytkplcibmhibjjaa
set_option linter.unusedSimpArgs false
set_option linter.unusedVariables false
open Go.RowKit Mix _root_.Go.Proofs.Ytkplcibmhibjjaa.Own Dp Ol
attribute [local go_sem] Own.max_int Own.min_int

/-- What may be asked, as a Bool. -/
def fqB (l : List Int) (a : Int) : Bool := decide (l.length = 65 ∧ 7 ≤ a ∧ a ≤ 15 ∧ ∀ x ∈ l, 0 ≤ x ∧ x ≤ 16777216)
theorem fqB_iff (l : List Int) (a : Int) : fqB l a = true ↔ ∃ m : Nat, a = (m : Int) ∧ Fq l m := by
  unfold fqB
  rw [decide_eq_true_eq]
  constructor
  · rintro ⟨h1, h2, h3, h4⟩
    exact ⟨a.toNat, by omega, h1, h4, by omega, by omega⟩
  · rintro ⟨m, rfl, h⟩
    exact ⟨h.len, by have := h.lo; omega, by have := h.hi; omega, h.each⟩

set_option maxRecDepth 100000 in
set_option maxHeartbeats 2000000 in
theorem rlen_bad (A0 : Option Addr) (n0 c0 : Nat) (l0 : List Int) (a1 : Int) (w : World) (hR : Rd w (.slice A0 n0 n0) (ints .i64 l0)) (hn : n0 < 200000000000000) (hb : ¬ fqB l0 a1 = true) :
    Calls Try.prog 14 #[.slice A0 n0 c0, .int .i64 a1] w fun e w' => e = .returned (.agg #[.slice none 0 0, .int .i64 1]) ∧ Below w.heap.size w w' := by
  have hl : l0.length = n0 := by have := hR.length; rw [length_ints] at this; exact this.symm
  by_cases h65 : n0 = 65
  · subst h65
    by_cases h7 : a1 < 7
    · have t7 : decide (a1 < 7) = true := decide_eq_true h7
      clear hR hb hl hn
      go_enter Try.func14, Try.ntmps14
      go_wp2_with fail
      exact bodyPost_ret (results_cell_row rfl _ _ w.heap.size 36 #[.slice none 0 0, .int .i64 1] (0, 0) _ rfl (Blk.fresh _ _ _) Try.underlying36 rfl (by kernel_rfl)) rfl ⟨rfl, (Below.refl _ _).alloc (Nat.le_refl _) _⟩
    · have t7 : decide (a1 < 7) = false := decide_eq_false h7
      by_cases h15 : 15 < a1
      · have t15 : decide (15 < a1) = true := decide_eq_true h15
        clear hR hb hl hn
        go_enter Try.func14, Try.ntmps14
        go_wp2_with fail
        exact bodyPost_ret (results_cell_row rfl _ _ w.heap.size 36 #[.slice none 0 0, .int .i64 1] (0, 0) _ rfl (Blk.fresh _ _ _) Try.underlying36 rfl (by kernel_rfl)) rfl ⟨rfl, (Below.refl _ _).alloc (Nat.le_refl _) _⟩
      · have t15 : decide (15 < a1) = false := decide_eq_false h15
        obtain ⟨j, hj, hjb⟩ : ∃ j, j < 65 ∧ ¬ (0 ≤ l0.getD j 0 ∧ l0.getD j 0 ≤ 16777216) := by
          refine Classical.byContradiction fun hc => hb ?_
          unfold fqB
          rw [decide_eq_true_eq]
          refine ⟨hl, by omega, by omega, fun x hx => ?_⟩
          obtain ⟨j, hj, e⟩ := List.getElem_of_mem hx
          refine Classical.byContradiction fun hx2 => hc ⟨j, by omega, ?_⟩
          have e2 : l0.getD j 0 = x := by simp [List.getD_eq_getElem?_getD, hj, e]
          rw [e2]; exact hx2
        obtain ⟨B, hB⟩ : ∃ B, B = w.heap.size := ⟨_, rfl⟩
        have HB := kept hB
        have HR := kept hR
        have HL := kept hl
        have HJ := kept hjb
        clear hR hb hl hn hjb hB
        go_enter Try.func14, Try.ntmps14
        go_wp2_with fail
        rw [show w.heap.size = B from HB.out.symm]
        generalize hw1 : World.alloc w _ = w1
        have HR1 := kept (HR.out.later (show Below w.heap.size w w1 by rw [← hw1]; exact (Below.refl _ _).alloc (Nat.le_refl _) _))
        have HS : Kept (Blk w1 B #[.slice none 0 0, .int .i64 0] 36 ∧ Below B w w1) := kept (by rw [← hw1, HB.out]; exact ⟨Blk.fresh _ _ _, (Below.refl _ _).alloc (Nat.le_refl _) _⟩)
        clear hw1
        go_loopw [5] (fun s5 wr => ∃ i : Nat, i ≤ j ∧ s5 = .int .i64 (i : Int) ∧ wr = w1) (fun s5 _ => 65 - (intOf s5).toNat)
        case atStart => exact ⟨0, by omega, rfl, rfl⟩
        case round =>
          obtain ⟨i, hi, rfl, rfl⟩ := hrel
          have hil : i < 65 := by omega
          obtain ⟨x, rfl, hc⟩ := HR1.out.at (Own.ints_at .i64 l0 i (by rw [HL.out]; omega))
          by_cases hij : i = j
          · subst hij
            have hy := HJ.out
            have hd0 := HS.out.1.cell (i := 0) rfl
            have hd1 := HS.out.1.cell (i := 1) rfl
            have hf0 := HS.out.1.free 0
            have hf1 := HS.out.1.free 1
            obtain ⟨y, hye⟩ : ∃ y, y = l0.getD i 0 := ⟨_, rfl⟩
            rw [← hye] at hc hy
            clear hye
            by_cases h0 : y < 0
            · have ty : decide (y < 0) = true := decide_eq_true h0
              clear hy
              go_wp2_with fail
              exact bodyPost_ret (results_cell_row rfl _ _ B 36 #[.slice none 0 0, .int .i64 1] (0, 0) _ rfl ((HS.out.1.set 0 _).set 1 _) Try.underlying36 rfl (by kernel_rfl)) rfl ⟨rfl, by rw [← HB.out]; exact (HS.out.2.setCell (p := ⟨B, 0, none⟩) (Nat.le_refl _) _).setCell (p := ⟨B, 1, none⟩) (Nat.le_refl _) _⟩
            · have ty : decide (y < 0) = false := decide_eq_false h0
              have tz : decide (16777216 < y) = true := decide_eq_true (by omega)
              have hz : 16777216 < y := by omega
              clear hy
              go_wp2_with fail
              exact bodyPost_ret (results_cell_row rfl _ _ B 36 #[.slice none 0 0, .int .i64 1] (0, 0) _ rfl ((HS.out.1.set 0 _).set 1 _) Try.underlying36 rfl (by kernel_rfl)) rfl ⟨rfl, by rw [← HB.out]; exact (HS.out.2.setCell (p := ⟨B, 0, none⟩) (Nat.le_refl _) _).setCell (p := ⟨B, 1, none⟩) (Nat.le_refl _) _⟩
          · obtain ⟨y, hye⟩ : ∃ y, y = l0.getD i 0 := ⟨_, rfl⟩
            rw [← hye] at hc
            clear hye
            have hd0 := HS.out.1.cell (i := 0) rfl
            have hd1 := HS.out.1.cell (i := 1) rfl
            have hf0 := HS.out.1.free 0
            have hf1 := HS.out.1.free 1
            by_cases h0 : y < 0
            · have ty : decide (y < 0) = true := decide_eq_true h0
              go_wp2_with fail
              exact bodyPost_ret (results_cell_row rfl _ _ B 36 #[.slice none 0 0, .int .i64 1] (0, 0) _ rfl ((HS.out.1.set 0 _).set 1 _) Try.underlying36 rfl (by kernel_rfl)) rfl ⟨rfl, by rw [← HB.out]; exact (HS.out.2.setCell (p := ⟨B, 0, none⟩) (Nat.le_refl _) _).setCell (p := ⟨B, 1, none⟩) (Nat.le_refl _) _⟩
            · have ty : decide (y < 0) = false := decide_eq_false h0
              by_cases hz : 16777216 < y
              · have tz : decide (16777216 < y) = true := decide_eq_true hz
                go_wp2_with fail
                exact bodyPost_ret (results_cell_row rfl _ _ B 36 #[.slice none 0 0, .int .i64 1] (0, 0) _ rfl ((HS.out.1.set 0 _).set 1 _) Try.underlying36 rfl (by kernel_rfl)) rfl ⟨rfl, by rw [← HB.out]; exact (HS.out.2.setCell (p := ⟨B, 0, none⟩) (Nat.le_refl _) _).setCell (p := ⟨B, 1, none⟩) (Nat.le_refl _) _⟩
              · have tz : decide (16777216 < y) = false := decide_eq_false hz
                go_wp2_with fail
                go_roundw
                case rel => exact ⟨i + 1, by omega, by go_num, trivial⟩
                case measure => simp [intOf]; omega
  · have t65 : ((n0 : Int) != 65) = true := by simp; omega
    clear hR hb hl h65
    go_enter Try.func14, Try.ntmps14
    go_wp2_with fail
    exact bodyPost_ret (results_cell_row rfl _ _ w.heap.size 36 #[.slice none 0 0, .int .i64 1] (0, 0) _ rfl (Blk.fresh _ _ _) Try.underlying36 rfl (by kernel_rfl)) rfl ⟨rfl, (Below.refl _ _).alloc (Nat.le_refl _) _⟩
end Go.Proofs.Ytkplcibmhibjjaa

-- ---- Rf
/- wringerref7.Lengths: the memory on the way. Conditions: those that each theorem names. -/
namespace Go.Proofs.Ytkplcibmhibjjaa
set_option linter.unusedSimpArgs false
set_option linter.unusedVariables false
open Go.RowKit Mix _root_.Go.Proofs.Ytkplcibmhibjjaa.Own Dp Ol

/-- On the way: the result's block, the lengths at g, the order at g7, the maker at p with its rows. -/
structure StB (B : Nat) (w wr : World) (g g7 c7 : Nat) (l : List Int) (m p : Nat) (vf vk vs : Value) (xs F K S : List Int) : Prop where
  res : Blk wr B #[.slice none 0 0, .int .i64 0] 36
  low : Below B w wr
  pB : B ≤ p
  blk : Blk wr p #[vf, .int .i64 (m : Int), vk, vs] 60
  many : Many B wr 3 [(.slice (some ⟨g, 0, none⟩) 65 65, ints .i64 xs), (.slice (some ⟨g7, 0, none⟩) (ordL l).length c7, idx (ordL l)), (vk, ints .i64 K), (vs, ints .i64 S), (vf, ints .i64 F)]

section
variable {B : Nat} {w wr : World} {g g7 c7 : Nat} {l : List Int} {m p : Nat} {vf vk vs : Value} {xs F K S : List Int}
theorem StB.sz (h : StB B w wr g g7 c7 l m p vf vk vs xs F K S) : B ≤ wr.heap.size := Nat.le_of_lt h.res.lt
theorem StB.later {w' : World} (h : StB B w wr g g7 c7 l m p vf vk vs xs F K S) (hb : Below wr.heap.size wr w') : StB B w w' g g7 c7 l m p vf vk vs xs F K S :=
  ⟨(hb.block B h.res.lt).trans h.res, h.low.trans (hb.mono h.sz), h.pB, (hb.block p h.blk.lt).trans h.blk, h.many.later hb⟩
theorem StB.out (h : StB B w wr g g7 c7 l m p vf vk vs xs F K S) : Owns wr 3 (.slice (some ⟨g, 0, none⟩) 65 65) (ints .i64 xs) := h.many.own 0 _ _ rfl
theorem StB.ord (h : StB B w wr g g7 c7 l m p vf vk vs xs F K S) : Owns wr 3 (.slice (some ⟨g7, 0, none⟩) (ordL l).length c7) (idx (ordL l)) := h.many.own 1 _ _ rfl
theorem StB.ordAt (h : StB B w wr g g7 c7 l m p vf vk vs xs F K S) (i : Nat) (hi : i < (ordL l).length) : wr.cell? ⟨g7, i, none⟩ = some (.int .i64 (((ordL l).getD i 0 : Nat) : Int)) := h.ord.cell (idx_at _ i hi)
theorem StB.storeOut (h : StB B w wr g g7 c7 l m p vf vk vs xs F K S) (j : Nat) (v : Int) : StB B w (wr.setCell ⟨g, j, none⟩ (.int .i64 v)) g g7 c7 l m p vf vk vs (xs.set j v) F K S := by
  have hc : Chg (fun k => some k = (Value.slice (some ⟨g, 0, none⟩) 65 65).ownBlock) wr (wr.setCell ⟨g, j, none⟩ (.int .i64 v)) := (Chg.setCell wr ⟨g, j, none⟩ (.int .i64 v)).mono fun k _ hk => by rw [hk]; rfl
  refine ⟨h.many.other 0 rfl hc h.res (by decide), h.low.trans (h.many.below 0 rfl hc h.sz), h.pB, h.many.other 0 rfl hc h.blk (by decide), ?_⟩
  have := h.many.store 0 rfl j (.int .i64 v) h.sz
  rw [← ints_set] at this; exact this
theorem StB.tab (h : StB B w wr g g7 c7 l m p vf vk vs xs F K (sums F)) (hK : KGood m F K) : Tab wr p vf vk vs m F K :=
  ⟨h.blk, h.many.own 4 _ _ rfl, h.many.own 2 _ _ rfl, h.many.own 3 _ _ rfl, fun b hb => h.many.sep 2 4 _ _ _ _ (by decide) rfl rfl b hb, fun b hb => h.many.sep 2 3 _ _ _ _ (by decide) rfl rfl b hb, hK⟩
theorem StB.costed {w' : World} {K' : List Int} (h : StB B w wr g g7 c7 l m p vf vk vs xs F K (sums F)) (hT : Tab w' p vf vk vs m F K') (hc : Chg (fun b => some b = vk.ownBlock) wr w') : StB B w w' g g7 c7 l m p vf vk vs xs F K' (sums F) :=
  ⟨h.many.other 2 rfl hc h.res (by decide), h.low.trans (h.many.below 2 rfl hc h.sz), h.pB, hT.blk, h.many.set 2 rfl hc hT.rk (fun b hb => .inl hb.symm) h.sz⟩
/-- A number behind the frequencies, and the field laid anew. -/
theorem StB.push {w' : World} {v2 : Value} {x : Int} (h : StB B w wr g g7 c7 l m p vf vk vs xs F K S) (ho : Owns w' 3 v2 (ints .i64 (F ++ [x]))) (hc : Chg (fun b => some b = vf.ownBlock) wr w') (hn : ∀ b, v2.ownBlock = some b → some b = vf.ownBlock ∨ wr.heap.size ≤ b) :
    StB B w (w'.setCell ⟨p, 0, none⟩ v2) g g7 c7 l m p v2 vk vs xs (F ++ [x]) K S ∧ w'.frozen? ⟨p, 0, none⟩ = false ∧ w'.cell? ⟨p, 0, none⟩ = some vf := by
  have h1 := h.many.set 4 rfl hc ho hn h.sz
  have hb : Blk w' p #[vf, .int .i64 (m : Int), vk, vs] 60 := h.many.other 4 rfl hc h.blk (by decide)
  have hr : Blk w' B #[.slice none 0 0, .int .i64 0] 36 := h.many.other 4 rfl hc h.res (by decide)
  have hl := h.low.trans (h.many.below 4 rfl hc h.sz)
  exact ⟨⟨hr.setOther (hr.ne hb (by decide)) _, hl.setCell h.pB _, h.pB, hb.set 0 _, h1.setBlk hb (by decide) 0 v2⟩, hb.free 0, hb.cell rfl⟩
theorem StB.storeSum {gs cs n : Nat} (h : StB B w wr g g7 c7 l m p vf vk (.slice (some ⟨gs, 0, none⟩) n cs) xs F K S) (j : Nat) (v : Int) : StB B w (wr.setCell ⟨gs, j, none⟩ (.int .i64 v)) g g7 c7 l m p vf vk (.slice (some ⟨gs, 0, none⟩) n cs) xs F K (S.set j v) := by
  have hc : Chg (fun k => some k = (Value.slice (some ⟨gs, 0, none⟩) n cs).ownBlock) wr (wr.setCell ⟨gs, j, none⟩ (.int .i64 v)) := (Chg.setCell wr ⟨gs, j, none⟩ (.int .i64 v)).mono fun k _ hk => by rw [hk]; rfl
  refine ⟨h.many.other 3 rfl hc h.res (by decide), h.low.trans (h.many.below 3 rfl hc h.sz), h.pB, h.many.other 3 rfl hc h.blk (by decide), ?_⟩
  have := h.many.store 3 rfl j (.int .i64 v) h.sz
  rw [← ints_set] at this; exact this
end

theorem Own.Many.sub {B : Nat} {w : World} {e : TypeId} {R R' : List (Value × List Value)} (h : Many B w e R) (f : Nat → Nat) (h1 : ∀ i, i < R'.length → R[f i]? = R'[i]?) (h2 : ∀ i j, i < R'.length → j < R'.length → f i = f j → i = j) : Many B w e R' := by
  have lt : ∀ (i : Nat) r, R'[i]? = some r → i < R'.length := fun i r hi => (List.getElem?_eq_some_iff.1 hi).1
  exact ⟨fun i v xs hi => h.own (f i) v xs (by rw [h1 i (lt i _ hi)]; exact hi), fun i v xs hi => h.new (f i) v xs (by rw [h1 i (lt i _ hi)]; exact hi),
    fun i j a xs b ys hij hi hj => h.sep (f i) (f j) a xs b ys (fun e => hij (h2 i j (lt i _ hi) (lt j _ hj) e)) (by rw [h1 i (lt i _ hi)]; exact hi) (by rw [h1 j (lt j _ hj)]; exact hj)⟩
theorem Own.Many.swap {B : Nat} {w : World} {e : TypeId} {a b c d : Value × List Value} (h : Many B w e [a, b, c, d]) : Many B w e [a, b, d, c] := by
  refine h.sub (fun i => if i = 2 then 3 else if i = 3 then 2 else i) (fun i hi => ?_) (fun i j hi hj he => ?_)
  · have : i = 0 ∨ i = 1 ∨ i = 2 ∨ i = 3 := by simp at hi; omega
    rcases this with rfl | rfl | rfl | rfl <;> rfl
  · simp at hi hj he
    split at he <;> split at he <;> (try split at he) <;> (try split at he) <;> omega
/-- The maker is laid. -/
theorem StB.make {B : Nat} {w x : World} {g g7 c7 : Nat} {l : List Int} {m : Nat} {vk vs : Value} {xs K S : List Int} (h1 : Blk x B #[.slice none 0 0, .int .i64 0] 36) (h2 : Below B w x)
    (h3 : Many B x 3 [(.slice (some ⟨g, 0, none⟩) 65 65, ints .i64 xs), (.slice (some ⟨g7, 0, none⟩) (ordL l).length c7, idx (ordL l)), (vk, ints .i64 K), (vs, ints .i64 S)]) :
    StB B w (x.alloc (.cells #[.slice none 0 0, .int .i64 (m : Int), vk, vs] 60)) g g7 c7 l m x.heap.size (.slice none 0 0) vk vs xs [] K S := by
  have hb : Below x.heap.size x (x.alloc (.cells #[.slice none 0 0, .int .i64 (m : Int), vk, vs] 60)) := (Below.refl _ _).alloc (Nat.le_refl _) _
  refine ⟨(hb.block B h1.lt).trans h1, h2.trans (hb.mono (Nat.le_of_lt h1.lt)), Nat.le_of_lt h1.lt, Blk.fresh _ _ _, ?_⟩
  exact h3.add hb (Owns.nil _ _) (fun b hb => by simp [Value.ownBlock] at hb) (Nat.le_of_lt h1.lt)

/-- The sums from j on, noughts ahead of them. -/
def sumsN (F : List Int) (j : Nat) : List Int := (List.range (F.length + 1)).map fun i => if j ≤ i then (F.drop i).sum else 0
theorem length_sumsN (F : List Int) (j : Nat) : (sumsN F j).length = F.length + 1 := by simp [sumsN]
theorem sumsN_all (F : List Int) : sumsN F 0 = sums F := by unfold sumsN sums; exact List.map_congr_left fun i _ => by rw [if_pos (Nat.zero_le _)]
theorem sumsN_none (F : List Int) : sumsN F F.length = List.replicate (F.length + 1) 0 := by
  apply List.ext_getElem
  · simp [sumsN]
  · intro i h1 h2
    rw [length_sumsN] at h1
    simp only [sumsN, List.getElem_map, List.getElem_range, List.getElem_replicate]
    split
    · rw [List.drop_eq_nil_of_le (by omega)]; rfl
    · rfl
theorem sumsN_at (F : List Int) (j : Nat) (h : j ≤ F.length) : (sumsN F j).getD j 0 = (F.drop j).sum := by
  unfold sumsN; simp [List.getD_eq_getElem?_getD, show j < F.length + 1 by omega]
theorem sumsN_set (F : List Int) (j : Nat) (h : j + 1 ≤ F.length) : (sumsN F (j + 1)).set j ((F.drop (j + 1)).sum + F.getD j 0) = sumsN F j := by
  apply List.ext_getElem
  · simp [sumsN]
  · intro i h1 h2
    rw [length_sumsN] at h2
    rw [List.getElem_set]
    by_cases e : j = i
    · subst e
      rw [if_pos rfl]
      simp only [sumsN, List.getElem_map, List.getElem_range]
      rw [if_pos (Nat.le_refl _)]
      have e2 : F.drop j = F.getD j 0 :: F.drop (j + 1) := by rw [List.drop_eq_getElem_cons (by omega)]; simp [List.getD_eq_getElem?_getD, show j < F.length by omega]
      rw [e2, List.sum_cons]; omega
    · rw [if_neg e]
      simp only [sumsN, List.getElem_map, List.getElem_range]
      by_cases h3 : j ≤ i
      · rw [if_pos (by omega), if_pos h3]
      · rw [if_neg (by omega), if_neg h3]
theorem kgood_zero (m : Nat) (F : List Int) (hm : m ≤ 15) : KGood m F (List.replicate 166600 0) := by
  refine ⟨List.length_replicate, fun d j o h1 h2 h3 h4 => .inl ?_⟩
  rw [getD_rep]
/-- Which of the candidates is taken: the greatest that costs what is wanted. -/
theorem take_is {r o t : Nat} {g : List Int} {x : Int} (h : dp (r + 1) g o = some x) (hg : g ≠ []) (ht : t ≤ o) (h1 : ∀ k, t < k → k ≤ o → cand r g o k ≠ some x) (h2 : t = 0 ∨ cand r g o t = some x) : take r g o = t := by
  obtain ⟨ho1, ho2, _⟩ := dp_some h hg
  have hs := best_spec (cand r g o) o
  rw [dp_in hg ho1 ho2] at h
  unfold take
  cases hb : best (cand r g o) o with
  | none => rw [hb] at h; cases h
  | some q =>
    obtain ⟨y, k⟩ := q
    rw [hb] at h hs
    simp only [Option.map_some, Option.some.injEq] at h
    subst h
    obtain ⟨_, h3, h4, h5⟩ := hs
    show k = t
    rcases Nat.lt_trichotomy k t with h6 | h6 | h6
    · rcases h2 with h7 | h7
      · omega
      · have := (h5 t y (by omega) ht h7).2 h6; omega
    · exact h6
    · exact absurd h4 (h1 k h6 h3)
theorem scat_take (out : List Int) (cs ns : List Nat) (i : Nat) (h1 : i < cs.length) (h2 : i < ns.length) : scat out (cs.take (i + 1)) (ns.take (i + 1)) = (scat out (cs.take i) (ns.take i)).set (cs.getD i 0) ((ns.getD i 0 : Nat) : Int) := by
  have e1 : cs.take (i + 1) = cs.take i ++ [cs.getD i 0] := by rw [List.take_succ_eq_append_getElem h1]; simp [List.getD_eq_getElem?_getD, h1]
  have e2 : ns.take (i + 1) = ns.take i ++ [ns.getD i 0] := by rw [List.take_succ_eq_append_getElem h2]; simp [List.getD_eq_getElem?_getD, h2]
  rw [e1, e2]
  exact scat_snoc _ _ _ _ _ (by simp; omega)
end Go.Proofs.Ytkplcibmhibjjaa

-- ---- Mo
/- A region that draws its order, of which the order is forced but for a fork. No program in sight. -/
namespace Go.Proofs.Ytkplcibmhibjjaa.Mix
set_option linter.unusedSimpArgs false
set_option linter.unusedVariables false
set_option linter.unusedSectionVars false
open Go Go.RowKit

section
variable {P : Program} {md : Region.Mode} {ops : Array Oper} {Q : Exit → Act → World → Prop} {C : World → Prop}

/-- The orders in which the rest may come: a chain, or one of two first. -/
inductive Tr where
  | seq (ts : List Nat)
  | one (i : Nat) (t : Tr)
  | two (i : Nat) (t : Tr) (j : Nat) (u : Tr)
  | three (i : Nat) (t : Tr) (j : Nat) (u : Tr) (k : Nat) (v : Tr)
def Tr.len : Tr → Nat
  | .seq ts => ts.length
  | .one _ t => t.len + 1
  | .two _ t _ _ => t.len + 1
  | .three _ t _ _ _ _ => t.len + 1
def Tr.all (p : Nat → Bool) : Tr → Bool
  | .seq ts => ts.all p
  | .one i t => p i && t.all p
  | .two i t j u => p i && p j && t.all p && u.all p
  | .three i t j u k v => p i && p j && p k && t.all p && u.all p && v.all p
def treeB (md : Region.Mode) (ops : Array Oper) : Tr → Array Bool → Bool
  | .seq ts, listed => seqL md ops ts listed
  | .one i t, listed => decide (Region.ready md ops listed = [i]) && treeB md ops t (listed.setIfInBounds i true)
  | .two i t j u, listed => decide (Region.ready md ops listed = [i, j]) && decide (u.len = t.len) && treeB md ops t (listed.setIfInBounds i true) && treeB md ops u (listed.setIfInBounds j true)
  | .three i t j u k v, listed => decide (Region.ready md ops listed = [i, j, k]) && decide (u.len = t.len) && decide (v.len = t.len) && treeB md ops t (listed.setIfInBounds i true) && treeB md ops u (listed.setIfInBounds j true) && treeB md ops v (listed.setIfInBounds k true)
def wpTr (P : Program) (l : List Oper) (K : Act → World → Prop) : Tr → Act → World → Prop
  | .seq ts, a, w => wpList P l.toArray (Only K) (pick l ts) a w
  | .one i t, a, w => wpList P l.toArray (Only (wpTr P l K t)) (pick l [i]) a w
  | .two i t j u, a, w => wpList P l.toArray (Only (wpTr P l K t)) (pick l [i]) a w ∧ wpList P l.toArray (Only (wpTr P l K u)) (pick l [j]) a w
  | .three i t j u k v, a, w => wpList P l.toArray (Only (wpTr P l K t)) (pick l [i]) a w ∧ wpList P l.toArray (Only (wpTr P l K u)) (pick l [j]) a w ∧ wpList P l.toArray (Only (wpTr P l K v)) (pick l [k]) a w

theorem wp_only {o : Oper} {a : Act} {w : World} {K K' A B : Act → World → Prop} (h : ∀ a w, K a w → K' a w) (hh : o.wp P a w K (Only A)) : o.wp P a w K' (Only B) := by
  unfold Oper.wp at *
  generalize (execOp a.eval o).run P w = r at *
  cases r with
  | ok n w' =>
    cases n <;> simp only [Oper.upon] at hh ⊢ <;>
      first
        | exact h _ _ hh
        | exact Calls.mono hh (fun e w'' he => by
            cases e with
            | returned v => exact h _ _ he
            | panicked c => exact he.elim
            | outgrown => obtain ⟨a1, w1, h1⟩ := he; exact h1.elim)
        | exact Rows.mono hh (fun _ _ he => h _ _ he)
  | halt x w' => cases x <;> simp only [Oper.upon] at hh ⊢ <;> exact hh
theorem wpOp_only {i : Nat} {o : Oper} (ho : ops[i]? = some o) {a : Act} {w : World} {K A B : Act → World → Prop} (h : ∀ a w, A a w → K a w) (hh : wpList P ops (Only A) [o] a w) : wpOp P ops (Only B) i K a w := by
  unfold wpOp
  simp only [ho]
  unfold wpList at hh
  split
  · rename_i hw
    rw [if_pos hw] at hh
    rcases hh with hh | ⟨_, a1, w1, h1⟩
    · exact .inl (wp_only (fun a w h1 => h a w h1) hh)
    · exact h1.elim
  · rename_i hw
    rw [if_neg hw] at hh
    exact h _ _ hh

theorem wpM_tree {l : List Oper} {h1 h2 : List Nat} {K : Act → World → Prop} : ∀ (t : Tr) (listed : Array Bool) (a : Act) (w : World), t.all (fun i => !h1.contains i && !h2.contains i) = true → treeB md l.toArray t listed = true →
    wpTr P l K t a w → wpM P md l.toArray (Only K) C h1 h2 t.len listed a w := by
  intro t
  induction t with
  | seq ts =>
    intro listed a w hm hB h
    have hts : ∀ i ∈ ts, i ∉ h1 ∧ i ∉ h2 := fun i hi => by simpa using List.all_eq_true.1 hm i hi
    exact wpM_seq ts (pick l ts) listed a w hts (pick_map ts (by have := seqL_lt ts listed hB; simpa using this)) hB h
  | one i t iht =>
    intro listed a w hm hB h
    simp only [Tr.all, Bool.and_eq_true, Bool.not_eq_true', List.contains_eq_mem, decide_eq_false_iff_not] at hm
    simp only [treeB, Bool.and_eq_true, decide_eq_true_eq] at hB
    obtain ⟨hi, hmt⟩ := hm
    obtain ⟨hr, hbt⟩ := hB
    have h1 : i ∈ Region.ready md l.toArray listed := by rw [hr]; simp
    obtain ⟨_, o, ho, _⟩ := mem_ready.1 h1
    have h2 : l[i]? = some o := by simpa using ho
    have hp : pick l [i] = [o] := by simp [pick, h2]
    refine ⟨fun h1 => (by rw [hr] at h1; cases h1), fun k hk => ?_⟩
    rw [hr] at hk
    have hki : k = i := by simpa using hk
    subst hki
    rw [if_neg hi.1, if_neg hi.2]
    have h3 : wpList P l.toArray (Only (wpTr P l K t)) (pick l [k]) a w := h
    rw [hp] at h3
    exact wpOp_only ho (fun a' w' h' => iht _ a' w' (by simpa using hmt) hbt h') h3
  | two i t j u iht ihu =>
    intro listed a w hm hB h
    simp only [Tr.all, Bool.and_eq_true, Bool.not_eq_true', List.contains_eq_mem, decide_eq_false_iff_not] at hm
    simp only [treeB, Bool.and_eq_true, decide_eq_true_eq] at hB
    obtain ⟨⟨⟨hi, hj⟩, hmt⟩, hmu⟩ := hm
    obtain ⟨⟨⟨hr, hlen⟩, hbt⟩, hbu⟩ := hB
    have at_ : ∀ k, k ∈ [i, j] → ∃ o, l.toArray[k]? = some o ∧ pick l [k] = [o] := fun k hk => by
      have h1 : k ∈ Region.ready md l.toArray listed := by rw [hr]; exact hk
      obtain ⟨_, o, ho, _⟩ := mem_ready.1 h1
      refine ⟨o, ho, ?_⟩
      have h2 : l[k]? = some o := by simpa using ho
      simp [pick, h2]
    refine ⟨fun h1 => (by rw [hr] at h1; cases h1), fun k hk => ?_⟩
    rw [hr] at hk
    obtain ⟨o, ho, hp⟩ := at_ k hk
    rcases List.mem_cons.1 hk with rfl | hk
    · rw [if_neg hi.1, if_neg hi.2]
      have h2 := h.1
      rw [hp] at h2
      exact wpOp_only ho (fun a' w' h' => iht _ a' w' (by simpa using hmt) hbt h') h2
    · have hkj : k = j := by simpa using hk
      subst hkj
      rw [if_neg hj.1, if_neg hj.2]
      have h3 := h.2
      rw [hp] at h3
      have hu : ∀ a' w', wpTr P l K u a' w' → wpM P md l.toArray (Only K) C h1 h2 t.len (listed.setIfInBounds k true) a' w' := fun a' w' h' => by
        have := ihu (listed.setIfInBounds k true) a' w' (by simpa using hmu) hbu h'
        rwa [hlen] at this
      exact wpOp_only ho hu h3
  | three i t j u m v iht ihu ihv =>
    intro listed a w hm hB h
    simp only [Tr.all, Bool.and_eq_true, Bool.not_eq_true', List.contains_eq_mem, decide_eq_false_iff_not] at hm
    simp only [treeB, Bool.and_eq_true, decide_eq_true_eq] at hB
    obtain ⟨⟨⟨⟨⟨hi, hj⟩, hmm⟩, hmt⟩, hmu⟩, hmv⟩ := hm
    obtain ⟨⟨⟨⟨⟨hr, hlen⟩, hlenv⟩, hbt⟩, hbu⟩, hbv⟩ := hB
    have at_ : ∀ k, k ∈ [i, j, m] → ∃ o, l.toArray[k]? = some o ∧ pick l [k] = [o] := fun k hk => by
      have h1 : k ∈ Region.ready md l.toArray listed := by rw [hr]; exact hk
      obtain ⟨_, o, ho, _⟩ := mem_ready.1 h1
      refine ⟨o, ho, ?_⟩
      have h2 : l[k]? = some o := by simpa using ho
      simp [pick, h2]
    refine ⟨fun h1 => (by rw [hr] at h1; cases h1), fun k hk => ?_⟩
    rw [hr] at hk
    obtain ⟨o, ho, hp⟩ := at_ k hk
    rcases List.mem_cons.1 hk with rfl | hk
    · rw [if_neg hi.1, if_neg hi.2]
      have h2 := h.1
      rw [hp] at h2
      exact wpOp_only ho (fun a' w' h' => iht _ a' w' (by simpa using hmt) hbt h') h2
    · rcases List.mem_cons.1 hk with rfl | hk
      · rw [if_neg hj.1, if_neg hj.2]
        have h3 := h.2.1
        rw [hp] at h3
        have hu : ∀ a' w', wpTr P l K u a' w' → wpM P md l.toArray (Only K) C h1 h2 t.len (listed.setIfInBounds k true) a' w' := fun a' w' h' => by
          have := ihu (listed.setIfInBounds k true) a' w' (by simpa using hmu) hbu h'
          rwa [hlen] at this
        exact wpOp_only ho hu h3
      · have hkm : k = m := by simpa using hk
        subst hkm
        rw [if_neg hmm.1, if_neg hmm.2]
        have h3 := h.2.2
        rw [hp] at h3
        have hu : ∀ a' w', wpTr P l K v a' w' → wpM P md l.toArray (Only K) C h1 h2 t.len (listed.setIfInBounds k true) a' w' := fun a' w' h' => by
          have := ihv (listed.setIfInBounds k true) a' w' (by simpa using hmv) hbv h'
          rwa [hlenv] at this
        exact wpOp_only ho hu h3

def mixTB (md : Region.Mode) (ops : Array Oper) (h1 h2 : List Nat) (t : Tr) : Bool :=
  Region.noSelect ops && h2.all (fun i => !h1.contains i) && t.all (fun i => !h1.contains i && !h2.contains i) &&
  (List.range ops.size).all (fun t => h1.contains t || h2.contains t || (match ops[t]? with | some o => newOp o.op | none => false) || h2.all fun i => anc md ops ops.size t i) &&
  hoistB md ops (h1 ++ h2) (Array.replicate ops.size false) && treeB md ops t (marked (Array.replicate ops.size false) (h1 ++ h2)) && (decide (h1.length + h2.length + t.len = ops.size))

/-- Some operations first (those of h1 look at no memory), then a tree of orders. -/
theorem wp_region_treeL {id : Nat} {a : Act} {w : World} {l : List Oper} (h1 h2 : List Nat) (t : Tr) (hm : P.follows .mixedOrders = true) (hB : mixTB .any l.toArray h1 h2 t = true)
    (h : ∀ K : Act → World → Prop, (∀ a w, Q .normal a w → K a w) → wpQuiet P l.toArray (fun _ => True) (fun a1 => wpQuiet P l.toArray (fun w' => ∃ n : Lat w, w' = n.w) (fun a2 => wpTr P l K t a2 w.drew) (pick l h2) a1) (pick l h1) a) :
    (Code.region id l.toArray true).wp P Q a w := by
  have H := h (fun a w => Q .normal a w) fun _ _ h => h
  simp only [mixTB, Bool.and_eq_true, decide_eq_true_eq] at hB
  obtain ⟨⟨⟨⟨⟨⟨hsel, h12⟩, hts⟩, htail⟩, hh⟩, hseq⟩, hlen⟩ := hB
  have hC : ∀ w1 w2 : World, (∃ n : Lat w, w1 = n.w) → Below w1.heap.size w1 w2 → ∃ n : Lat w, w2 = n.w := fun _ w2 ⟨n, e⟩ hb => by subst e; exact ⟨⟨w2, n.below.trans (hb.mono n.below.size)⟩, rfl⟩
  have hw : ∃ n : Lat w, ({ w with drawn := w.drawn + 1 } : World) = n.w := ⟨Lat.drew w, rfl⟩
  have h12' : ∀ i ∈ h2, i ∉ h1 := fun i hi => by simpa using List.all_eq_true.1 h12 i hi
  have htail' : ∀ j oj, l.toArray[j]? = some oj → j ∉ h1 → j ∉ h2 → newOp oj.op = true ∨ ∀ i ∈ h2, anc .any l.toArray l.toArray.size j i = true := fun j oj hj n1 n2 => by
    have h3 := List.all_eq_true.1 htail j (List.mem_range.2 (Array.getElem?_eq_some_iff.1 hj).1)
    simp only [hj, Bool.or_eq_true, List.contains_iff_mem, n1, n2, false_or] at h3
    rcases h3 with h3 | h3
    · exact .inl h3
    · exact .inr fun i hi => List.all_eq_true.1 h3 i hi
  rw [hoistB_append, Bool.and_eq_true] at hh
  rw [marked_append] at hseq
  have lt1 := hoistB_lt _ _ hh.1
  have lt2 := hoistB_lt _ _ hh.2
  have hQ' : ∀ c a w d v, Only (fun a w => Q .normal a w) (.panic c) (a.put d v) w → Only (fun a w => Q .normal a w) (.panic c) a w := fun _ _ _ _ _ h => h
  have cl0 : Closed .any l.toArray (Array.replicate l.toArray.size false) := fun j oj _ hl => by rw [getD_replicate_false] at hl; cases hl
  have cl1 := closed_marked _ _ hh.1 cl0
  refine Code.wp_mono (Q := Only fun a w => Q .normal a w) (fun e a w h => by cases e <;> first | exact h | exact h.elim) ?_
  refine wp_region_any hm (wpAny_of_M (C := fun w' => ∃ n : Lat w, w' = n.w) (h1 := h1) (h2 := h2) _ _ _ _ ?_)
  have key : wpM P .any l.toArray (Only fun a w => Q .normal a w) (fun w' => ∃ n : Lat w, w' = n.w) h1 h2 (t.len + h2.length + h1.length) (Array.replicate l.toArray.size false) a { w with drawn := w.drawn + 1 } := ?_
  · have e2 : ∀ n, n = t.len + h2.length + h1.length → wpM P .any l.toArray (Only fun a w => Q .normal a w) (fun w' => ∃ n : Lat w, w' = n.w) h1 h2 n (Array.replicate l.toArray.size false) a { w with drawn := w.drawn + 1 } := fun n hn => hn ▸ key
    exact e2 _ (by omega)
  refine hoist1 hsel hQ' h1 (pick l h1) _ a (fun i hi => hi) (pick_map h1 (by simpa using lt1)) hh.1 (fun a1 H1 => ?_) H
  refine hoist2 hsel hQ' hC h12' htail' hw h2 (pick l h2) _ a1 (fun i hi => hi) (pick_map h2 (by simpa using lt2)) hh.2 cl1 (fun a2 H2 => ?_) H1
  exact wpM_tree t _ a2 _ hts hseq H2
end
end Go.Proofs.Ytkplcibmhibjjaa.Mix

-- ---- Rg
/- wringerref7.Lengths: what the call answers for what may be asked. Conditions: the list reads as the argument does. -/
namespace Go.Proofs.Ytkplcibmhibjjaa
set_option linter.unusedSimpArgs false
set_option linter.unusedVariables false
open Go.RowKit Mix _root_.Go.Proofs.Ytkplcibmhibjjaa.Own Dp Ol
attribute [local go_sem] Own.max_int Own.min_int

theorem sliceX {w : World} {v : Value} {l : List Nat} (h : Owns w 3 v (idx l)) : ∃ a c, v = .slice a l.length c ∧ (l ≠ [] → ∃ g, a = some ⟨g, 0, none⟩) := by
  obtain ⟨a, c, e, hr⟩ := h.slice
  refine ⟨a, c, by rw [e, length_idx], fun hl => hr fun e => hl ?_⟩
  have := congrArg List.length e
  rw [length_idx] at this
  exact List.length_eq_zero_iff.1 this
theorem Own.Many.rest {B : Nat} {w : World} {e : TypeId} {r : Value × List Value} {R : List (Value × List Value)} (h : Many B w e (r :: R)) : Many B w e [r] :=
  ⟨fun i v xs hi => by
    match i, hi with
    | 0, hi => exact h.own 0 v xs hi
    | i + 1, hi => simp at hi, fun i v xs hi => by
    match i, hi with
    | 0, hi => exact h.new 0 v xs hi
    | i + 1, hi => simp at hi, fun i j a xs b ys hij hi hj => by
    have h1 : i = 0 := by have := (List.getElem?_eq_some_iff.1 hi).1; simpa using this
    have h2 : j = 0 := by have := (List.getElem?_eq_some_iff.1 hj).1; simpa using this
    omega⟩
/-- The end: the block of the result told. -/
theorem rlen_end {B : Nat} {w wr : World} {g : Nat} {xs : List Int} (h1 : Blk wr B #[.slice none 0 0, .int .i64 0] 36) (h2 : Below B w wr) (h3 : Many B wr 3 [(.slice (some ⟨g, 0, none⟩) 65 65, ints .i64 xs)]) :
    Blk ((wr.setCell ⟨B, 0, none⟩ (.slice (some ⟨g, 0, none⟩) 65 65)).setCell ⟨B, 1, none⟩ (.int .i64 0)) B #[.slice (some ⟨g, 0, none⟩) 65 65, .int .i64 0] 36 ∧
    Owns ((wr.setCell ⟨B, 0, none⟩ (.slice (some ⟨g, 0, none⟩) 65 65)).setCell ⟨B, 1, none⟩ (.int .i64 0)) 3 (.slice (some ⟨g, 0, none⟩) 65 65) (ints .i64 xs) ∧
    (∀ b, (Value.slice (some ⟨g, 0, none⟩) 65 65).ownBlock = some b → B ≤ b) ∧ Below B w ((wr.setCell ⟨B, 0, none⟩ (.slice (some ⟨g, 0, none⟩) 65 65)).setCell ⟨B, 1, none⟩ (.int .i64 0)) := by
  have hb1 := h1.set 0 (.slice (some ⟨g, 0, none⟩) 65 65)
  have m1 := h3.setBlk h1 (by decide) 0 (.slice (some ⟨g, 0, none⟩) 65 65)
  have m2 := m1.setBlk hb1 (by decide) 1 (.int .i64 0)
  exact ⟨hb1.set 1 _, m2.own 0 _ _ rfl, h3.new 0 _ _ rfl, (h2.setCell (p := ⟨B, 0, none⟩) (Nat.le_refl _) _).setCell (p := ⟨B, 1, none⟩) (Nat.le_refl _) _⟩

set_option maxRecDepth 100000 in
set_option maxHeartbeats 4000000 in
theorem rlen_ok (A0 : Option Addr) (c0 : Nat) (l0 : List Int) (m : Nat) (w : World) (hR : Rd w (.slice A0 65 65) (ints .i64 l0)) (hf : Fq l0 m) :
    Calls Try.prog 14 #[.slice A0 65 c0, .int .i64 (m : Int)] w fun e w' => ∃ v, e = .returned (.agg #[v, .int .i64 0]) ∧ Owns w' 3 v (ints .i64 (lenL l0 m)) ∧ (∀ g, v.ownBlock = some g → w.heap.size ≤ g) ∧ Below w.heap.size w w' := by
  obtain ⟨i0, hi, hz0, hz1, hz2⟩ := info_partsI infoI64
  have h65 := hf.len
  obtain ⟨B, hB⟩ : ∃ B, B = w.heap.size := ⟨_, rfl⟩
  have hro := fun w1 (h : Below w.heap.size w w1) => rorder_calls A0 65 c0 l0 w1 (hR.later h) (by omega)
  rw [← hB]
  have t7 : decide ((m : Int) < 7) = false := decide_eq_false (by have := hf.lo; omega)
  have t15 : decide (15 < (m : Int)) = false := decide_eq_false (by have := hf.hi; omega)
  have HB := kept hB
  have HF := kept hf
  have HR := kept hR
  have HL := kept h65
  have HRo := kept hro
  clear hB hf hR h65 hro
  go_enter Try.func14, Try.ntmps14
  go_wp2_with fail
  rw [show w.heap.size = B from HB.out.symm]
  generalize hw1 : World.alloc w _ = w1
  have HS1 : Kept (Blk w1 B #[.slice none 0 0, .int .i64 0] 36 ∧ Below B w w1) := kept (by rw [← hw1, HB.out]; exact ⟨Blk.fresh _ _ _, (Below.refl _ _).alloc (Nat.le_refl _) _⟩)
  have HR1 := kept (HR.out.later (show Below w.heap.size w w1 by rw [← HB.out]; exact HS1.out.2))
  clear hw1
  go_loopw [5] (fun s5 wr => ∃ i : Nat, i ≤ 65 ∧ s5 = .int .i64 (i : Int) ∧ wr = w1) (fun s5 _ => 65 - (intOf s5).toNat)
  case atStart => exact ⟨0, by omega, rfl, rfl⟩
  case round =>
    obtain ⟨i, hi65, rfl, rfl⟩ := hrel
    by_cases hlt : i < 65
    · have hil : i < l0.length := by rw [HL.out]; exact hlt
      obtain ⟨x, rfl, hc⟩ := HR1.out.at (Own.ints_at .i64 l0 i hil)
      have hy := HF.out.each (l0.getD i 0) (by simp [List.getD_eq_getElem?_getD, hil])
      obtain ⟨y, hye⟩ : ∃ y, y = l0.getD i 0 := ⟨_, rfl⟩
      rw [← hye] at hc hy
      obtain ⟨hy0, hy1⟩ := hy
      have ty : decide (y < 0) = false := decide_eq_false (by omega)
      have tz : decide (16777216 < y) = false := decide_eq_false (by omega)
      clear hye hil
      go_wp2_with fail
      go_roundw
      case rel => exact ⟨i + 1, by omega, by go_num, trivial⟩
      case measure => simp [intOf]; omega
    · have hie : i = 65 := by omega
      subst hie
      go_wp2_with (first | (refine wpList_mk1 rfl _ _ 22 rfl 3 i0 (.int .i64 0) 8 Try.underlying22 hi hz0 hz1 hz2 rfl .i64 .i64 _ _ 65 rfl rfl rfl rfl (by decide) (by decide) ?_))
      intro w2 hO hb hlt2
      obtain ⟨g, hg⟩ : ∃ g, g = wr.heap.size := ⟨_, rfl⟩
      have hM2 : Many B w2 3 [(.slice (some ⟨g, 0, none⟩) 65 65, ints .i64 (List.replicate 65 0))] := by
        have := (Many.nil B wr 3).add (v := .slice (some ⟨wr.heap.size, 0, none⟩) 65 65) hb hO (fun b hb => by simp [Value.ownBlock] at hb; omega) (Nat.le_of_lt HS1.out.1.lt)
        rw [hg]; simpa [ints] using this
      have HS2 : Kept (Blk w2 B #[.slice none 0 0, .int .i64 0] 36 ∧ Below B w w2) := kept ⟨(hb.block B HS1.out.1.lt).trans HS1.out.1, HS1.out.2.trans (hb.mono (Nat.le_of_lt HS1.out.1.lt))⟩
      have HM2 := kept hM2
      rw [← hg]
      have HC := kept (HRo.out w2 (by rw [← HB.out]; exact HS2.out.2))
      clear hO hb hlt2 hg hM2 hlt HS1 HR1
      go_wp2_with fail
      refine HC.out.mono ?_
      rintro e w3 ⟨v7, rfl, ho⟩
      have hM3 := HM2.out.add ho.low ho.own ho.new (Nat.le_of_lt HS2.out.1.lt)
      have HS3 : Kept (Blk w3 B #[.slice none 0 0, .int .i64 0] 36 ∧ Below B w w3) := kept ⟨(ho.low.block B HS2.out.1.lt).trans HS2.out.1, HS2.out.2.trans (ho.low.mono (Nat.le_of_lt HS2.out.1.lt))⟩
      obtain ⟨a7, c7, rfl, ha7⟩ := sliceX ho.own
      have HM3 := kept hM3
      have hnl := length_ordL l0
      rw [HL.out] at hnl
      obtain ⟨n, hn⟩ : ∃ n, n = (ordL l0).length := ⟨_, rfl⟩
      rw [← hn] at HM3 hnl ⊢
      have HN := kept hn
      have HA7 := kept ha7
      clear ho hM3 hn ha7 HC HM2 HS2
      have d0 := HS3.out.1.cell (i := 0) rfl
      have d1 := HS3.out.1.cell (i := 1) rfl
      have f0 := HS3.out.1.free 0
      have f1 := HS3.out.1.free 1
      by_cases hn1 : n = 1
      · subst hn1
        have hlen1 : (ordL l0).length = 1 := HN.out.symm
        obtain ⟨k, hk⟩ : ∃ k, ordL l0 = [k] := List.length_eq_one_iff.1 hlen1
        obtain ⟨g7, rfl⟩ := HA7.out (by rw [hk]; simp)
        have hk65 : k < 65 := by have h := (mem_ordL (f := l0) (i := k)).1 (by rw [hk]; simp); rw [← HL.out]; exact h.1
        have hcell7 : w3.cell? ⟨g7, 0, none⟩ = some (.int .i64 (k : Int)) := by
          have := (HM3.out.own 1 _ _ rfl).cell (j := 0) (idx_at _ 0 (by rw [hlen1]; decide))
          rw [hk] at this; exact this
        have co := (HM3.out.own 0 _ _ rfl).cell (j := k) (Own.ints_at .i64 (List.replicate 65 0) k (by simpa using hk65))
        have fo := (HM3.out.own 0 _ _ rfl).free k
        have HLen : Kept (lenL l0 m = (List.replicate 65 0).set k 1) := kept (by
          have e : lensOf l0 m = [1] := by unfold lensOf; rw [if_pos hlen1]
          unfold lenL; rw [e, hk]; rfl)
        have hM4 := (HM3.out.store 0 rfl k (.int .i64 1) (Nat.le_of_lt HS3.out.1.lt)).rest
        rw [← ints_set] at hM4
        have HM4 : Kept (Many B (w3.setCell ⟨g, k, none⟩ (.int .i64 1)) 3 [(.slice (some ⟨g, 0, none⟩) 65 65, ints .i64 (lenL l0 m))]) := kept (by rw [HLen.out]; exact hM4)
        have hc4 : Chg (fun b => some b = (Value.slice (some ⟨g, 0, none⟩) 65 65).ownBlock) w3 (w3.setCell ⟨g, k, none⟩ (.int .i64 1)) := (Chg.setCell w3 ⟨g, k, none⟩ (.int .i64 1)).mono fun b _ hb => by rw [hb]; rfl
        have HS4 : Kept (Blk (w3.setCell ⟨g, k, none⟩ (.int .i64 1)) B #[.slice none 0 0, .int .i64 0] 36 ∧ Below B w (w3.setCell ⟨g, k, none⟩ (.int .i64 1))) := kept ⟨HM3.out.other 0 rfl hc4 HS3.out.1 (by decide), HS3.out.2.trans (HM3.out.below 0 rfl hc4 (Nat.le_of_lt HS3.out.1.lt))⟩
        have HE := kept (rlen_end HS4.out.1 HS4.out.2 HM4.out)
        have e0 := HS4.out.1.cell (i := 0) rfl
        have e1 := HS4.out.1.cell (i := 1) rfl
        have g0 := HS4.out.1.free 0
        have g1 := HS4.out.1.free 1
        clear hk hlen1 hM4 hc4 d0 d1 f0 f1
        go_wp2_with fail
        exact bodyPost_ret (results_cell_row rfl _ _ B 36 #[.slice (some ⟨g, 0, none⟩) 65 65, .int .i64 0] (0, 0) _ rfl HE.out.1 Try.underlying36 rfl (by kernel_rfl)) rfl ⟨_, rfl, HE.out.2⟩
      · by_cases hn0 : n = 0
        · subst hn0
          have HE := kept (rlen_end HS3.out.1 HS3.out.2 HM3.out.rest)
          have HLen : Kept (lenL l0 m = List.replicate 65 0) := kept (by
            have e : ordL l0 = [] := List.length_eq_zero_iff.1 HN.out.symm
            unfold lenL; rw [e, scat_nil])
          clear hn1
          go_wp2_with fail
          exact bodyPost_ret (results_cell_row rfl _ _ B 36 #[.slice (some ⟨g, 0, none⟩) 65 65, .int .i64 0] (0, 0) _ rfl HE.out.1 Try.underlying36 rfl (by kernel_rfl)) rfl ⟨_, rfl, by rw [HLen.out]; exact HE.out.2⟩
        · obtain ⟨g7, rfl⟩ := HA7.out (by intro e; apply hn0; rw [HN.out, e]; rfl)
          have tn1 : ((n : Int) == 1) = false := by rw [beq_eq_false_iff_ne]; omega
          have hn2 : 2 ≤ n := by omega
          clear hn0 hn1 d0 d1 f0 f1
          go_upto_region 14 with (fail)
          go_cut [8] from 65 to 72 (fun s8 wx => ∃ p vk vs, s8 = .pointer (some ⟨p, 0, none⟩) ∧ StB B w wx g g7 c7 l0 m p (.slice none 0 0) vk vs (List.replicate 65 0) [] (List.replicate 166600 0) (List.replicate (n + 1) 0))
          case first =>
            refine wp_region_treeL [0,2,3,4] [] (.two 1 (.seq [5,6,7,8]) 5 (.seq [1,6,7,8])) (by kernel_rfl) (by kernel_rfl) ?_
            intro K hK
            simp only [pick, List.filterMap_cons, List.filterMap_nil, List.getElem?_cons_zero, List.getElem?_cons_succ]
            repeat (show wpQuiet _ _ _ _ (_ :: _) _; go_big_quiet_step (fail))
            refine wpQuiet_nil (wpQuiet_nil ?_)
            generalize hwd : World.drew w3 = x0
            have HS4 : Kept (Blk x0 B #[.slice none 0 0, .int .i64 0] 36 ∧ Below B w x0) := kept (by rw [← hwd]; exact ⟨HS3.out.1, HS3.out.2.drew⟩)
            have HM4 : Kept (Many B x0 3 ([(.slice (some ⟨g, 0, none⟩) 65 65, ints .i64 (List.replicate 65 0))] ++ [(.slice (some ⟨g7, 0, none⟩) n c7, idx (ordL l0))])) := kept (by rw [← hwd]; exact HM3.out.later (Below.refl _ _).drew)
            clear hwd
            refine (show _ ∧ _ from ⟨?_, ?_⟩)
            · show wpList _ _ _ [_] _ _
              refine wpList_mk1 rfl _ _ 22 rfl 3 i0 (.int .i64 0) 8 Try.underlying22 hi hz0 hz1 hz2 rfl .i64 .i64 166600 166600 166600 rfl rfl rfl rfl (by decide) (by decide) ?_
              intro x1 hO hb hlt2
              obtain ⟨g1, hg1⟩ : ∃ g1, g1 = x0.heap.size := ⟨_, rfl⟩
              have hm1 := HM4.out.add hb hO (fun b hb => by simp [Value.ownBlock] at hb; omega) (Nat.le_of_lt HS4.out.1.lt)
              rw [← hg1] at hm1 ⊢
              have HS5 : Kept (Blk x1 B #[.slice none 0 0, .int .i64 0] 36 ∧ Below B w x1) := kept ⟨(hb.block B HS4.out.1.lt).trans HS4.out.1, HS4.out.2.trans (hb.mono (Nat.le_of_lt HS4.out.1.lt))⟩
              have HM5 := kept hm1
              clear hO hb hlt2 hg1 hm1
              change wpTr _ _ _ _ _ _
              unfold wpTr
              show wpList _ _ _ [_, _, _, _] _ _
              refine wpList_mk1 rfl _ _ 22 rfl 3 i0 (.int .i64 0) 8 Try.underlying22 hi hz0 hz1 hz2 rfl .i64 .i64 _ _ (n + 1) rfl rfl (by omega) (by omega) (by omega) (by simp [maxLen]; omega) ?_
              intro x2 hO hb hlt2
              obtain ⟨g2, hg2⟩ : ∃ g2, g2 = x1.heap.size := ⟨_, rfl⟩
              have hm2 := HM5.out.add hb hO (fun b hb => by simp [Value.ownBlock] at hb; omega) (Nat.le_of_lt HS5.out.1.lt)
              rw [← hg2] at hm2 ⊢
              have HS6 : Kept (Blk x2 B #[.slice none 0 0, .int .i64 0] 36 ∧ Below B w x2) := kept ⟨(hb.block B HS5.out.1.lt).trans HS5.out.1, HS5.out.2.trans (hb.mono (Nat.le_of_lt HS5.out.1.lt))⟩
              rw [HN.out] at hm2
              have hm3 := StB.make (g := g) (g7 := g7) (c7 := c7) (l := l0) (m := m) (xs := List.replicate 65 0) (K := List.replicate 166600 0) (S := List.replicate (n + 1) 0) HS6.out.1 HS6.out.2 (by
                have h := hm2
                have e1 : List.replicate 166600 (Value.int .i64 0) = ints .i64 (List.replicate 166600 0) := by unfold ints; rw [List.map_replicate]
                have e2 : List.replicate (n + 1) (Value.int .i64 0) = ints .i64 (List.replicate (n + 1) 0) := by unfold ints; rw [List.map_replicate]
                rw [← HN.out, e1, e2] at h
                rw [← HN.out]
                exact h)
              have HB3 := kept hm3
              clear hO hb hlt2 hg2 hm2 hm3
              go_wp2_with fail
              refine hK _ _ ?_
              go_wp2_with fail
              go_meet
              case rel => exact ⟨_, _, _, rfl, HB3.out⟩
            · show wpList _ _ _ [_] _ _
              refine wpList_mk1 rfl _ _ 22 rfl 3 i0 (.int .i64 0) 8 Try.underlying22 hi hz0 hz1 hz2 rfl .i64 .i64 _ _ (n + 1) rfl rfl (by omega) (by omega) (by omega) (by simp [maxLen]; omega) ?_
              intro x1 hO hb hlt2
              obtain ⟨g1, hg1⟩ : ∃ g1, g1 = x0.heap.size := ⟨_, rfl⟩
              have hm1 := HM4.out.add hb hO (fun b hb => by simp [Value.ownBlock] at hb; omega) (Nat.le_of_lt HS4.out.1.lt)
              rw [← hg1] at hm1 ⊢
              have HS5 : Kept (Blk x1 B #[.slice none 0 0, .int .i64 0] 36 ∧ Below B w x1) := kept ⟨(hb.block B HS4.out.1.lt).trans HS4.out.1, HS4.out.2.trans (hb.mono (Nat.le_of_lt HS4.out.1.lt))⟩
              have HM5 := kept hm1
              clear hO hb hlt2 hg1 hm1
              change wpTr _ _ _ _ _ _
              unfold wpTr
              show wpList _ _ _ [_, _, _, _] _ _
              refine wpList_mk1 rfl _ _ 22 rfl 3 i0 (.int .i64 0) 8 Try.underlying22 hi hz0 hz1 hz2 rfl .i64 .i64 _ _ 166600 rfl rfl rfl rfl (by decide) (by decide) ?_
              intro x2 hO hb hlt2
              obtain ⟨g2, hg2⟩ : ∃ g2, g2 = x1.heap.size := ⟨_, rfl⟩
              have hm2 := HM5.out.add hb hO (fun b hb => by simp [Value.ownBlock] at hb; omega) (Nat.le_of_lt HS5.out.1.lt)
              rw [← hg2] at hm2 ⊢
              have HS6 : Kept (Blk x2 B #[.slice none 0 0, .int .i64 0] 36 ∧ Below B w x2) := kept ⟨(hb.block B HS5.out.1.lt).trans HS5.out.1, HS5.out.2.trans (hb.mono (Nat.le_of_lt HS5.out.1.lt))⟩
              rw [HN.out] at hm2
              have hm3 := StB.make (g := g) (g7 := g7) (c7 := c7) (l := l0) (m := m) (xs := List.replicate 65 0) (K := List.replicate 166600 0) (S := List.replicate (n + 1) 0) HS6.out.1 HS6.out.2 (by
                have h := hm2.swap
                have e1 : List.replicate 166600 (Value.int .i64 0) = ints .i64 (List.replicate 166600 0) := by unfold ints; rw [List.map_replicate]
                have e2 : List.replicate (n + 1) (Value.int .i64 0) = ints .i64 (List.replicate (n + 1) 0) := by unfold ints; rw [List.map_replicate]
                rw [← HN.out, e1, e2] at h
                rw [← HN.out]
                exact h)
              have HB3 := kept hm3
              clear hO hb hlt2 hg2 hm2 hm3
              go_wp2_with fail
              refine hK _ _ ?_
              go_wp2_with fail
              go_meet
              case rel => exact ⟨_, _, _, rfl, HB3.out⟩
          case rest =>
            obtain ⟨p, vk, vs, rfl, hst⟩ := hcut
            obtain ⟨w4, rfl⟩ : ∃ w4, w4 = wc := ⟨wc, rfl⟩
            obtain ⟨G, hG⟩ : ∃ G, G = ofs l0 := ⟨_, rfl⟩
            have hGl : G.length = n := by rw [hG, length_ofs]; exact HN.out.symm
            have HG := kept hG
            have HGl := kept hGl
            have HS4 := kept hst
            clear hG hGl hst HS3 HM3 HA7
            go_wp2_with fail
            go_loopw [9] (fun s9 wr => ∃ i : Nat, i ≤ n ∧ s9 = .int .i64 (i : Int) ∧ ∃ vf, StB B w wr g g7 c7 l0 m p vf vk vs (List.replicate 65 0) (G.take i) (List.replicate 166600 0) (List.replicate (n + 1) 0)) (fun s9 _ => n - (intOf s9).toNat)
            case atStart => exact ⟨0, by omega, rfl, _, HS4.out⟩
            case round =>
              obtain ⟨i, hin, rfl, vf, hst⟩ := hrel
              obtain ⟨wq, rfl⟩ : ∃ wq, wq = wr := ⟨wr, rfl⟩
              by_cases hlt : i < n
              · have hio : i < (ordL l0).length := by rw [← HN.out]; exact hlt
                obtain ⟨q, hq⟩ : ∃ q, q = (ordL l0).getD i 0 := ⟨_, rfl⟩
                have hqm : q ∈ ordL l0 := by rw [hq]; simp [List.getD_eq_getElem?_getD, hio]
                have hq65 : q < 65 := by have h := (mem_ordL.1 hqm).1; rw [HL.out] at h; exact h
                have c7i := hst.ordAt i hio
                rw [← hq] at c7i
                have cp := hst.blk.cell (i := 0) rfl
                have hrd := HR.out.later (show Below w.heap.size w wq by rw [← HB.out]; exact hst.low)
                obtain ⟨x, rfl, hcq⟩ := hrd.at (Own.ints_at .i64 l0 q (by rw [HL.out]; exact hq65))
                obtain ⟨y, hy⟩ : ∃ y, y = l0.getD q 0 := ⟨_, rfl⟩
                rw [← hy] at hcq
                have hGi : G.take (i + 1) = G.take i ++ [y] := by
                  have hiG : i < G.length := by rw [HGl.out]; exact hlt
                  have h := ofs_at l0 i hio
                  rw [← HG.out, ← hq, ← hy] at h
                  rw [List.take_succ_eq_append_getElem hiG, ← h]; simp [List.getD_eq_getElem?_getD, hiG]
                have HGi := kept hGi
                have HS := kept hst
                have l1 := lat_cell c7i
                have l2 := lat_cell cp
                have l3 := lat_cell hcq
                clear hGi hst hrd hy hq hqm hio c7i cp hcq
                go_wp2_with fail
                refine wp_region_mixL [0] [1,2,3,4,5,6,7,8,9,10,11] [12,13,14,15,16] (by kernel_rfl) (by kernel_rfl) ?_
                intro K hK
                simp only [pick, List.filterMap_cons, List.filterMap_nil, List.getElem?_cons_zero, List.getElem?_cons_succ]
                repeat (show wpQuiet _ _ _ _ (_ :: _) _; go_big_quiet_step (fail))
                show wpList _ _ _ [_, _, _, _, _] _ _
                generalize hwd : World.drew wq = wd
                have HSd := kept (show StB B w wd g g7 c7 l0 m p vf vk vs (List.replicate 65 0) (G.take i) (List.replicate 166600 0) (List.replicate (n + 1) 0) by rw [← hwd]; exact HS.out.later (Below.refl _ _).drew)
                clear hwd l1 l2 l3
                have hgl : (G.take i).length ≤ 65 := by rw [List.length_take]; omega
                have hov := HSd.out.many.own 4 _ _ rfl
                go_wp2_with (first | (at_builtin; go_loud (refine wpList_app1 rfl _ _ 22 rfl 3 i0 (.int .i64 0) 8 Try.underlying22 hi hz0 hz1 hz2 rfl vf _ (.int .i64 y) rfl hov rfl rfl ?_ ?_ ?_)))
                · simp [maxLen]; omega
                · simp; omega
                intro v5 w5 O5 C5 F5
                have e5 : ints .i64 (G.take i) ++ [.int .i64 y] = ints .i64 (G.take i ++ [y]) := by simp [ints]
                rw [e5] at O5
                obtain ⟨a5, c5, hv5⟩ := sliceI O5
                rw [← HGi.out, show (G.take (i + 1)).length = i + 1 by rw [List.length_take, HGl.out]; omega] at hv5
                subst hv5
                obtain ⟨hp1, hp2, hp3⟩ := HSd.out.push O5 C5 F5
                rw [← HGi.out] at hp1
                have HS5 := kept hp1
                clear O5 C5 F5 e5 hp1 hov
                go_wp2_with fail
                refine hK _ _ ?_
                go_wp2_with fail
                go_roundw
                case rel => exact ⟨i + 1, by omega, by go_num, _, HS5.out⟩
                case measure => simp [intOf]; omega
              · have hie : i = n := by omega
                subst hie
                have hGt : G.take i = G := List.take_of_length_le (by rw [HGl.out]; exact Nat.le_refl _)
                rw [hGt] at hst
                obtain ⟨gf, cf, hvf, _, _⟩ := rowI (hst.many.own 4 _ _ rfl) (by intro e; have := HGl.out; rw [e] at this; simp at this; omega)
                obtain ⟨gs, cs, hvs, _, _⟩ := rowI (hst.many.own 3 _ _ rfl) (by intro e; have := congrArg List.length e; simp at this)
                rw [HGl.out] at hvf
                rw [List.length_replicate] at hvs
                subst hvf hvs
                have HGs : Kept (Gs G) := kept ⟨by rw [HGl.out]; omega, fun x hx => by
                  rw [HG.out] at hx
                  obtain ⟨j, hj, rfl⟩ := List.mem_map.1 hx
                  have h2 := HF.out.each (l0.getD j 0) (by have h := (mem_ordL.1 hj).1; simp [List.getD_eq_getElem?_getD, h])
                  exact h2⟩
                have HS5 : Kept (StB B w wq g g7 c7 l0 m p (.slice (some ⟨gf, 0, none⟩) i cf) vk (.slice (some ⟨gs, 0, none⟩) (i + 1) cs) (List.replicate 65 0) G (List.replicate 166600 0) (sumsN G i)) := kept (by
                  have h := sumsN_none G
                  rw [HGl.out] at h
                  rw [h]; exact hst)
                clear hst hGt hlt HS4
                go_wp2_with fail
                go_loopw [10] (fun s10 wr => ∃ j : Nat, j ≤ i ∧ s10 = .int .i64 ((j : Int) - 1) ∧ StB B w wr g g7 c7 l0 m p (.slice (some ⟨gf, 0, none⟩) i cf) vk (.slice (some ⟨gs, 0, none⟩) (i + 1) cs) (List.replicate 65 0) G (List.replicate 166600 0) (sumsN G j)) (fun s10 _ => (intOf s10 + 1).toNat)
                case atStart => exact ⟨i, Nat.le_refl _, rfl, HS5.out⟩
                case round =>
                  obtain ⟨j, hjn, rfl, hst⟩ := hrel
                  obtain ⟨wl, rfl⟩ : ∃ wl, wl = wr := ⟨wr, rfl⟩
                  by_cases hj0 : 0 < j
                  · obtain ⟨k, rfl⟩ : ∃ k, j = k + 1 := ⟨j - 1, by omega⟩
                    rw [show (((k + 1 : Nat) : Int) - 1) = (k : Int) by omega]
                    have cp0 := hst.blk.cell (i := 0) rfl
                    have cp3 := hst.blk.cell (i := 3) rfl
                    have hsl : (sumsN G (k + 1)).length = i + 1 := by rw [length_sumsN, HGl.out]
                    have cs1 := (hst.many.own 3 _ _ rfl).cell (j := k + 1) (Own.ints_at .i64 (sumsN G (k + 1)) (k + 1) (by rw [hsl]; omega))
                    rw [sumsN_at G (k + 1) (by rw [HGl.out]; omega)] at cs1
                    have cs0 := (hst.many.own 3 _ _ rfl).cell (j := k) (Own.ints_at .i64 (sumsN G (k + 1)) k (by rw [hsl]; omega))
                    have fs0 := (hst.many.own 3 _ _ rfl).free k
                    have cf0 := (hst.many.own 4 _ _ rfl).cell (j := k) (Own.ints_at .i64 G k (by rw [HGl.out]; omega))
                    have hset := sumsN_set G k (by rw [HGl.out]; omega)
                    have hb1 := HGs.out.sum (k + 1)
                    have hb2 := HGs.out.each (G.getD k 0) (by have : k < G.length := by rw [HGl.out]; omega
                                                              simp [List.getD_eq_getElem?_getD, this])
                    obtain ⟨S1, hS1⟩ : ∃ S1, S1 = (G.drop (k + 1)).sum := ⟨_, rfl⟩
                    obtain ⟨y, hy⟩ : ∃ y, y = G.getD k 0 := ⟨_, rfl⟩
                    rw [← hS1] at cs1 hset hb1
                    rw [← hy] at cf0 hset hb2
                    obtain ⟨hb1a, hb1b⟩ := hb1
                    obtain ⟨hb2a, hb2b⟩ := hb2
                    obtain ⟨z0, hz0e⟩ : ∃ z0, z0 = (sumsN G (k + 1)).getD k 0 := ⟨_, rfl⟩
                    rw [← hz0e] at cs0
                    have HSet := kept hset
                    have HSo := kept hst
                    have l0' := lat_cell cp0
                    have l1' := lat_cell cp3
                    have l2' := lat_cell cs1
                    have l3' := lat_cell cf0
                    clear hset hst hsl hS1 hy hz0e cp0 cp3 cs1 cf0 hj0
                    go_wp2_with fail
                    refine wp_region_mixL [] [0,1,2,3,4,5,6,7,8,9,10,11,12,13,14,15,16,17,18,19,20,21] [22] (by kernel_rfl) (by kernel_rfl) ?_
                    intro K hK
                    simp only [pick, List.filterMap_cons, List.filterMap_nil, List.getElem?_cons_zero, List.getElem?_cons_succ]
                    refine wpQuiet_nil ?_
                    repeat (show wpQuiet _ _ _ _ (_ :: _) _; go_big_quiet_step (fail))
                    refine wpQuiet_nil ?_
                    show wpList _ _ _ [_] _ _
                    generalize hwd : World.drew wl = wd
                    have hcd : wd.cell? ⟨gs, k, none⟩ = some (.int .i64 z0) := by rw [← hwd]; exact cs0
                    have hfd : wd.frozen? ⟨gs, k, none⟩ = false := by rw [← hwd]; exact fs0
                    have HNd : Kept (StB B w (wd.setCell ⟨gs, k, none⟩ (.int .i64 (S1 + y))) g g7 c7 l0 m p (.slice (some ⟨gf, 0, none⟩) i cf) vk (.slice (some ⟨gs, 0, none⟩) (i + 1) cs) (List.replicate 65 0) G (List.replicate 166600 0) (sumsN G k)) := kept (by
                      have h := (HSo.out.later (Below.refl _ _).drew).storeSum k (S1 + y)
                      rw [HSet.out] at h
                      rw [← hwd]; exact h)
                    clear hwd l0' l1' l2' l3' cs0 fs0
                    go_wp2_with fail
                    refine hK _ _ ?_
                    go_wp2_with fail
                    go_roundw
                    case rel => exact ⟨k, by omega, by go_num, HNd.out⟩
                    case measure => simp [intOf]
                  · have hj : j = 0 := by omega
                    subst hj
                    rw [show (((0 : Nat) : Int) - 1) = -1 from rfl]
                    rw [sumsN_all] at hst
                    have HS6 := kept hst
                    clear hst HS5 hj0 hjn
                    obtain ⟨L, hL⟩ : ∃ L, L = lensOf l0 m := ⟨_, rfl⟩
                    obtain ⟨x0, hx0⟩ := HF.out.can (by rw [← HN.out]; exact hn2)
                    rw [← HG.out] at hx0
                    have hLe : L = lens m 1 G 2 := by rw [hL, HG.out]; unfold lensOf; rw [if_neg (by rw [← HN.out]; omega)]
                    have hLl : L.length = i := by rw [hL, HF.out.spec.1]; exact HN.out.symm
                    have HLe := kept hLe
                    have HLl := kept hLl
                    have HLL := kept hL
                    have HX0 := kept hx0
                    have hm15 := HF.out.hi
                    clear hLe hLl hL hx0
                    go_wp2_with fail
                    go_loopw [11, 12, 13] (fun s11 s12 s13 wr => ∃ (d j o r : Nat) (x : Int) (K : List Int), s11 = .int .i64 (j : Int) ∧ s12 = .int .i64 (o : Int) ∧ s13 = .int .i64 (d : Int) ∧ d + r = m + 1 ∧ 1 ≤ d ∧ j ≤ i ∧ o ≤ 130 ∧ dp r (G.drop j) o = some x ∧ L.drop j = lens r d (G.drop j) o ∧ KGood m G K ∧
                        StB B w wr g g7 c7 l0 m p (.slice (some ⟨gf, 0, none⟩) i cf) vk (.slice (some ⟨gs, 0, none⟩) (i + 1) cs) (scat (List.replicate 65 0) ((ordL l0).take j) (L.take j)) G K (sums G)) (fun _ _ s13 _ => m + 1 - (intOf s13).toNat)
                    case atStart =>
                      refine ⟨1, 0, 2, m, x0, _, rfl, rfl, rfl, by omega, Nat.le_refl _, Nat.zero_le _, by decide, HX0.out, by rw [List.drop_zero, List.drop_zero]; exact HLe.out, kgood_zero m G hm15, ?_⟩
                      rw [List.take_zero, scat_nil]; exact HS6.out
                    case round =>
                      obtain ⟨d, j, o, r, x, K, rfl, rfl, rfl, hdr, hd1, hji, ho130, hdp, hLd, hK, hst⟩ := hrel
                      obtain ⟨wl, rfl⟩ : ∃ wl, wl = wr := ⟨wr, rfl⟩
                      by_cases hlt : j < i
                      · have hne : G.drop j ≠ [] := by intro e; have := congrArg List.length e; rw [List.length_drop, HGl.out] at this; simp at this; omega
                        obtain ⟨r, rfl⟩ : ∃ r', r = r' + 1 := by
                          cases r with
                          | zero => rw [dp_out hne (by omega)] at hdp; cases hdp
                          | succ r => exact ⟨r, rfl⟩
                        obtain ⟨ho1, hol, y, hy, hxy⟩ := dp_some hdp hne
                        rw [List.length_drop, HGl.out] at hol
                        obtain ⟨k, hk⟩ : ∃ k, k = Dp.take r (G.drop j) o := ⟨_, rfl⟩
                        have hko : k ≤ o := by rw [hk]; exact take_le _ _ _
                        rw [lens_cons hne, ← hk] at hLd
                        rw [← hk] at hy hxy
                        have hxb := dp_le _ _ _ _ (HGs.out.drop j) hdp
                        obtain ⟨hx1, hx2⟩ := hxb
                        have hx3 : x ≤ 20000000000 := by omega
                        have hcall := cost_calls G m p _ _ _ HGs.out hm15 (r + 1) d j o K wl (hst.tab hK) (by rw [HGl.out]; omega) ho130 hd1 hdr
                        unfold CostE at hcall
                        rw [hdp] at hcall
                        simp only [enc] at hcall
                        have HC1 := kept hcall
                        have HSt := kept hst
                        have HK := kept hk
                        have HLd := kept hLd
                        have HY := kept hy
                        have HDp := kept hdp
                        have HNe := kept hne
                        clear hcall hst hk hLd hy hdp hne hxy hx2 hK HS6
                        go_upto_block 8 with (first | (go_at_call 27; refine HC1.out.mono ?_; rintro e w5 ⟨rfl, K2, hT2, hC2⟩; have HK2 := kept hT2.good; have HS2 := kept (HSt.out.costed hT2 hC2); clear hT2 hC2))
                        go_cut [15] from 136 to 167 (fun s15 wx => s15 = .int .i64 (k : Int) ∧ ∃ K', KGood m G K' ∧ StB B w wx g g7 c7 l0 m p (.slice (some ⟨gf, 0, none⟩) i cf) vk (.slice (some ⟨gs, 0, none⟩) (i + 1) cs) (scat (List.replicate 65 0) ((ordL l0).take j) (L.take j)) G K' (sums G))
                        case first =>
                          go_wp2_with fail
                          go_loopw [15] (fun s15 wr => ∃ (t : Nat) (K' : List Int), t ≤ o ∧ s15 = .int .i64 (t : Int) ∧ (∀ t', t < t' → t' ≤ o → cand r (G.drop j) o t' ≠ some x) ∧ KGood m G K' ∧
                            StB B w wr g g7 c7 l0 m p (.slice (some ⟨gf, 0, none⟩) i cf) vk (.slice (some ⟨gs, 0, none⟩) (i + 1) cs) (scat (List.replicate 65 0) ((ordL l0).take j) (L.take j)) G K' (sums G)) (fun s15 _ => (intOf s15).toNat)
                          case atStart => exact ⟨o, _, Nat.le_refl _, rfl, fun t' h1 h2 => by omega, HK2.out, HS2.out⟩
                          case round =>
                            obtain ⟨t, K3, hto, rfl, hbig, hK3, hst3⟩ := hrel
                            obtain ⟨wk, rfl⟩ : ∃ wk, wk = wr := ⟨wr, rfl⟩
                            by_cases ht0 : 0 < t
                            · have hcall := cost_calls G m p _ _ _ HGs.out hm15 r (d + 1) (j + t) (2 * (o - t)) K3 wk (hst3.tab hK3) (by rw [HGl.out]; omega) (by omega) (by omega) (by omega)
                              rw [show ((d + 1 : Nat) : Int) = (d : Int) + 1 by omega, show ((j + t : Nat) : Int) = (j : Int) + (t : Int) by omega, show ((2 * (o - t) : Nat) : Int) = 2 * ((o : Int) - (t : Int)) by omega] at hcall
                              unfold CostE at hcall
                              have hcand : cand r (G.drop j) o t = (dp r (G.drop (j + t)) (2 * (o - t))).map (· + (G.drop (j + t)).sum) := by unfold cand; rw [List.drop_drop]
                              have hSb := HGs.out.sum (j + t)
                              have hsAt := sums_at G (j + t) (by rw [HGl.out]; omega)
                              have hsl := length_sums G
                              obtain ⟨S, hS⟩ : ∃ S, S = (G.drop (j + t)).sum := ⟨_, rfl⟩
                              rw [← hS] at hcand hSb hsAt
                              obtain ⟨hSb1, hSb2⟩ := hSb
                              have HSt3 := kept hst3
                              have HBig := kept hbig
                              have HSAt := kept hsAt
                              have HSl := kept hsl
                              clear hst3 hbig hS hsAt hsl
                              cases hdt : dp r (G.drop (j + t)) (2 * (o - t)) with
                              | none =>
                                rw [hdt] at hcall hcand
                                simp only [enc] at hcall
                                have HC3 := kept hcall
                                have HCa := kept hcand
                                clear hcall hcand hdt
                                go_wp2_with (first | (go_at_call 27; refine HC3.out.mono ?_; rintro e w6 ⟨rfl, K4, hT4, hC4⟩; have HK4 := kept hT4.good; have HS4 := kept (HSt3.out.costed hT4 hC4); clear hT4 hC4))
                                go_roundw
                                case rel =>
                                  refine ⟨t - 1, K4, by omega, by go_num, fun t' h1 h2 => ?_, HK4.out, HS4.out⟩
                                  by_cases e : t' = t
                                  · rw [e, HCa.out]; simp
                                  · exact HBig.out t' (by omega) h2
                                case measure => simp [intOf]; omega
                              | some z =>
                                rw [hdt] at hcall hcand
                                simp only [enc, Option.map_some] at hcall hcand
                                have hzb := dp_le _ _ _ _ (HGs.out.drop (j + t)) hdt
                                obtain ⟨hz1', hz2'⟩ := hzb
                                have hz3' : z ≤ 20000000000 := by omega
                                have tz : decide (0 ≤ z) = true := decide_eq_true hz1'
                                have HC3 := kept hcall
                                have HCa := kept hcand
                                clear hcall hcand hdt hz2'
                                by_cases heq : z + S = x
                                · have teq : (z + S == x) = true := by rw [beq_iff_eq]; exact heq
                                  have HTk : Kept (k = t) := kept (by rw [HK.out]; exact take_is HDp.out HNe.out hto HBig.out (.inr (by rw [HCa.out, heq])))
                                  have HEq := kept heq
                                  clear heq
                                  go_wp2_with (first | (go_at_call 27; refine HC3.out.mono ?_; rintro e w6 ⟨rfl, K4, hT4, hC4⟩; have HK4 := kept hT4.good; have HS4 := kept (HSt3.out.costed hT4 hC4); have d3 := hT4.blk.cell (i := 3) rfl; have dsum := (by have := (hT4.rs.cell (j := j + t) (Own.ints_at .i64 (sums G) (j + t) (by rw [HSl.out, HGl.out]; omega))); rw [HSAt.out] at this; exact this : w6.cell? ⟨gs, j + t, none⟩ = some (.int .i64 S)); clear hT4 hC4))
                                  go_meet
                                  case rel => exact ⟨by rw [HTk.out], K4, HK4.out, HS4.out⟩
                                · have teq : (z + S == x) = false := by rw [beq_eq_false_iff_ne]; exact heq
                                  have HEq := kept heq
                                  clear heq
                                  go_wp2_with (first | (go_at_call 27; refine HC3.out.mono ?_; rintro e w6 ⟨rfl, K4, hT4, hC4⟩; have HK4 := kept hT4.good; have HS4 := kept (HSt3.out.costed hT4 hC4); have d3 := hT4.blk.cell (i := 3) rfl; have dsum := (by have := (hT4.rs.cell (j := j + t) (Own.ints_at .i64 (sums G) (j + t) (by rw [HSl.out, HGl.out]; omega))); rw [HSAt.out] at this; exact this : w6.cell? ⟨gs, j + t, none⟩ = some (.int .i64 S)); clear hT4 hC4))
                                  go_roundw
                                  case rel =>
                                    refine ⟨t - 1, K4, by omega, by go_num, fun t' h1 h2 => ?_, HK4.out, HS4.out⟩
                                    by_cases e : t' = t
                                    · rw [e, HCa.out]; intro h; exact HEq.out (Option.some.inj h)
                                    · exact HBig.out t' (by omega) h2
                                  case measure => simp [intOf]; omega
                            · have ht : t = 0 := by omega
                              subst ht
                              have HTk : Kept (k = 0) := kept (by rw [HK.out]; exact take_is HDp.out HNe.out (Nat.zero_le _) hbig (.inl rfl))
                              have HS7 := kept hst3
                              have HK7 := kept hK3
                              clear hst3 hK3 hbig ht0
                              go_wp2_with fail
                              go_meet
                              case rel => exact ⟨by rw [HTk.out], K3, HK7.out, HS7.out⟩
                        case rest =>
                          obtain ⟨rfl, K5, hK5, hst5⟩ := hcut
                          obtain ⟨w8, rfl⟩ : ∃ w8, w8 = wc := ⟨wc, rfl⟩
                          have HK5 := kept hK5
                          have HS5' := kept hst5
                          have hkj : j + k ≤ i := by omega
                          have HLat : Kept (∀ q, q < k → L.getD (j + q) 0 = d) := kept (fun q hq => by
                            have e : L.getD (j + q) 0 = (L.drop j).getD q 0 := by simp [List.getD_eq_getElem?_getD]
                            rw [e, HLd.out]
                            have hq2 : q < (List.replicate k d).length := by rw [List.length_replicate]; exact hq
                            rw [List.getD_eq_getElem?_getD, List.getElem?_append_left hq2]
                            simp [hq])
                          have HLdr : Kept (L.drop (j + k) = lens r (d + 1) (G.drop (j + k)) (2 * (o - k))) := kept (by
                            have e : L.drop (j + k) = (L.drop j).drop k := by rw [List.drop_drop]
                            rw [e, HLd.out, List.drop_drop, List.drop_left' (by rw [List.length_replicate])])
                          have HY2 : Kept (dp r (G.drop (j + k)) (2 * (o - k)) = some y) := kept (by rw [← HY.out, List.drop_drop])
                          clear hK5 hst5 HSt HK2 HS2 HC1
                          go_wp2_with fail
                          go_loopw [17] (fun s17 wr => ∃ q : Nat, q ≤ k ∧ s17 = .int .i64 (q : Int) ∧ StB B w wr g g7 c7 l0 m p (.slice (some ⟨gf, 0, none⟩) i cf) vk (.slice (some ⟨gs, 0, none⟩) (i + 1) cs) (scat (List.replicate 65 0) ((ordL l0).take (j + q)) (L.take (j + q))) G K5 (sums G)) (fun s17 _ => k - (intOf s17).toNat)
                          case atStart => exact ⟨0, Nat.zero_le _, rfl, HS5'.out⟩
                          case round =>
                            obtain ⟨q, hqk, rfl, hst6⟩ := hrel
                            obtain ⟨wm, rfl⟩ : ∃ wm, wm = wr := ⟨wr, rfl⟩
                            by_cases hq : q < k
                            · have hjq : j + q < (ordL l0).length := by rw [← HN.out]; omega
                              obtain ⟨c, hc⟩ : ∃ c, c = (ordL l0).getD (j + q) 0 := ⟨_, rfl⟩
                              have hcm : c ∈ ordL l0 := by rw [hc]; simp [List.getD_eq_getElem?_getD, hjq]
                              have hc65 : c < 65 := by have h := (mem_ordL.1 hcm).1; rw [HL.out] at h; exact h
                              have c7i := hst6.ordAt (j + q) hjq
                              rw [← hc] at c7i
                              have hsc := scat_take (List.replicate 65 0) (ordL l0) L (j + q) hjq (by rw [HLl.out]; omega)
                              rw [← hc, HLat.out q hq] at hsc
                              obtain ⟨xs, hxs⟩ : ∃ xs, xs = scat (List.replicate 65 0) ((ordL l0).take (j + q)) (L.take (j + q)) := ⟨_, rfl⟩
                              have hxl : xs.length = 65 := by rw [hxs, length_scat]; simp
                              rw [← hxs] at hsc hst6
                              have co := hst6.out.cell (j := c) (Own.ints_at .i64 xs c (by rw [hxl]; exact hc65))
                              have fo := hst6.out.free c
                              have hst7 := hst6.storeOut c (d : Int)
                              rw [← hsc] at hst7
                              obtain ⟨z0, hz0e⟩ : ∃ z0, z0 = xs.getD c 0 := ⟨_, rfl⟩
                              rw [← hz0e] at co
                              have HS7 := kept hst7
                              clear hst6 hst7 hsc hxs hxl hz0e hc hcm hjq
                              go_wp2_with fail
                              go_roundw
                              case rel => exact ⟨q + 1, by omega, by go_num, HS7.out⟩
                              case measure => simp [intOf]; omega
                            · have hqe : q = k := by omega
                              subst hqe
                              have HS7 := kept hst6
                              clear hst6 hq
                              go_wp2_with fail
                              go_roundw
                              case rel =>
                                exact ⟨d + 1, j + q, 2 * (o - q), r, y, K5, by go_num, by go_num, by go_num, by omega, by omega, hkj, by omega, HY2.out, HLdr.out, HK5.out, HS7.out⟩
                              case measure => simp [intOf]; omega
                      · have hje : j = i := by omega
                        subst hje
                        rw [List.take_of_length_le (by rw [← HN.out]; exact Nat.le_refl _), List.take_of_length_le (by rw [HLl.out]; exact Nat.le_refl _), HLL.out] at hst
                        have HLn : Kept (scat (List.replicate 65 0) (ordL l0) (lensOf l0 m) = lenL l0 m) := kept rfl
                        rw [HLn.out] at hst
                        have HE := kept (rlen_end hst.res hst.low hst.many.rest)
                        have d0 := hst.res.cell (i := 0) rfl
                        have d1 := hst.res.cell (i := 1) rfl
                        have f0 := hst.res.free 0
                        have f1 := hst.res.free 1
                        clear hst hdp hLd hK HS6
                        go_wp2_with fail
                        exact bodyPost_ret (results_cell_row rfl _ _ B 36 #[.slice (some ⟨g, 0, none⟩) 65 65, .int .i64 0] (0, 0) _ rfl HE.out.1 Try.underlying36 rfl (by kernel_rfl)) rfl ⟨_, rfl, HE.out.2⟩
end Go.Proofs.Ytkplcibmhibjjaa

-- ---- Le
/- The answer of both lengths. No program in sight. -/
namespace Go.Proofs.Ytkplcibmhibjjaa.PA
/-- The answer. -/
def lenE (l : List Int) (a : Int) : List Int × Int := if fqB l a = true then (Dp.lenL l a.toNat, 0) else ([], 1)
/-- A cost, as both reckon it: of the first i. -/
def costA (a b : List Int) : Nat → Int
  | 0 => 0
  | i + 1 => Go.RowKit.wrap64 (costA a b i + Go.RowKit.wrap64 (a.getD i 0 * b.getD i 0))
def costW (a b : List Int) : Int := costA a b (min a.length b.length)
end Go.Proofs.Ytkplcibmhibjjaa.PA

-- ---- PAx20
/- The document's lengths: what the call answers, for every list and limit. Conditions: the list's length fits a slice. -/
namespace Go.Proofs.Ytkplcibmhibjjaa.PA
open Go.RowKit Go.Proofs.YtkplcibmhibjjaaW.PrintWords Go.Proofs.YtkplcibmhibjjaaW.PrintLast Go.Proofs.YtkplcibmhibjjaaW.PrintMore
set_option linter.unusedVariables false
set_option linter.unusedSimpArgs false

def wringerref7_Lengths.f (l0 : List Int) (a1 : Int) : Option (List Int × Int) := if l0.length < 200000000000000 then some (lenE l0 a1) else none
theorem wringerref7_Lengths.calls (A0 : Option Addr) (c0 : Nat) (l0 : List Int) (a1 : Int) (r1 : List Int) (r2 : Int) (w : World) (hr0 : Kd.C (Kd.int .i64) w A0 l0.length l0) (hc0 : l0.length ≤ c0) (h : wringerref7_Lengths.f l0 a1 = some (r1, r2)) :
    Calls Try.prog 14 #[.slice A0 l0.length c0, .int .i64 a1] w fun e w' => ∃ v0_ : Value, e = .returned (.agg #[v0_, .int .i64 r2]) ∧ Kd.R (Kd.int .i64) 3 w' w.heap.size (fun _ => True) v0_ r1 ∧ Below w.heap.size w w' := by
  unfold wringerref7_Lengths.f at h
  split at h
  · rename_i hn
    have h := Option.some.inj h
    unfold lenE at h
    have hR := Own.rd_of_C hr0
    split at h
    · rename_i hg
      obtain ⟨rfl, rfl⟩ := Prod.mk.inj h
      obtain ⟨m, rfl, hf⟩ := (fqB_iff l0 a1).1 hg
      have h65 := hf.len
      rw [h65] at hR ⊢
      refine (rlen_ok A0 c0 l0 m w hR hf).mono ?_
      rintro e w' ⟨v, rfl, ho, hnew, hb⟩
      exact ⟨v, rfl, Own.R_of_owns (by rw [Int.toNat_natCast]; exact ho) hnew, hb⟩
    · rename_i hg
      obtain ⟨rfl, rfl⟩ := Prod.mk.inj h
      refine (rlen_bad A0 l0.length c0 l0 a1 w hR hn hg).mono ?_
      rintro e w' ⟨rfl, hb⟩
      exact ⟨_, rfl, Kd.R_nil _ _ _ _ _, hb⟩
  · cases h
end Go.Proofs.Ytkplcibmhibjjaa.PA

-- ---- LensBack
/- LensBack: lengths by numbers are told again, wherever they stand; cut more is needed; with a byte turned they are others, or none: what the call answers, for every input. Conditions: the list reads as the argument does. -/
namespace Go.Proofs.Ytkplcibmhibjjaa
set_option linter.unusedSimpArgs false
set_option linter.unusedVariables false
open Go.RowKit Mix _root_.Go.Proofs.Ytkplcibmhibjjaa.Own PA Dp Lp By Go.Proofs.YtkplcibmhibjjaaW.PrintWords
attribute [local go_sem] _root_.Go.Proofs.Ytkplcibmhibjjaa.Own.max_int _root_.Go.Proofs.Ytkplcibmhibjjaa.Own.min_int

theorem u8_atL {a : Int} (h : (Lit.int .u8 a).wf = true) : ∃ v : Nat, a = (v : Int) ∧ v ≤ 255 := by
  simp only [Lit.wf, Bool.and_eq_true, decide_eq_true_eq] at h
  have h1 : IntKind.u8.min = 0 := rfl
  have h2 : IntKind.u8.max = 255 := rfl
  exact ⟨a.toNat, by omega, by omega⟩
/-- A text with a byte turned. -/
def turned (s : ByteArray) (j by_ : Nat) : ByteArray := ⟨(s.data.toList.set j (UInt8.ofNat ((s.data.toList.getD j 0).toNat ^^^ by_))).toArray⟩
theorem turned_size (s : ByteArray) (j by_ : Nat) : (turned s j by_).size = s.size := by
  show (s.data.toList.set j _).toArray.size = s.data.size
  simp
theorem turned_ne (s : ByteArray) (j by_ : Nat) (hj : j < s.size) (h0 : by_ ≠ 0) (h1 : by_ < 256) : turned s j by_ ≠ s := by
  intro h
  have h2 : s.data.toList.set j (UInt8.ofNat ((s.data.toList.getD j 0).toNat ^^^ by_)) = s.data.toList := by
    have := congrArg (fun x : ByteArray => x.data.toList) h
    simpa [turned] using this
  have hl : j < s.data.toList.length := by simpa using hj
  have h3 := congrArg (fun l : List UInt8 => l.getD j 0) h2
  simp only [List.getD_eq_getElem?_getD, List.getElem?_set_self hl, Option.getD_some] at h3
  have h4 := congrArg UInt8.toNat h3
  obtain ⟨b, hb⟩ : ∃ b : Nat, b = (s.data.toList[j]?.getD 0).toNat := ⟨_, rfl⟩
  have hb2 : b < 256 := by rw [hb]; exact UInt8.toNat_lt _
  rw [← hb] at h4
  have hx : b ^^^ by_ < 2 ^ 8 := Nat.xor_lt_two_pow hb2 h1
  have h5 : (UInt8.ofNat (b ^^^ by_)).toNat = b ^^^ by_ := by rw [UInt8.toNat_ofNat']; exact Nat.mod_eq_of_lt hx
  rw [h5] at h4
  have h6 : by_ = 0 := by
    have h7 := congrArg (fun x => b ^^^ x) h4
    simp only [← Nat.xor_assoc, Nat.xor_self, Nat.zero_xor] at h7
    exact h7
  exact h0 h6
theorem getL_ok_len {s : ByteArray} {a : Int} {n : List Int} {x : Int} (h : getL s a = (n, x, 0)) : n.length = 65 := by
  unfold getL at h
  split at h
  · simp only [Prod.mk.injEq] at h; omega
  · split at h
    · simp only [Prod.mk.injEq] at h; omega
    · split at h
      · rename_i hc
        simp only [Prod.mk.injEq] at h
        rw [← h.1]; exact hc.1
      · simp only [Prod.mk.injEq] at h; omega
theorem field_lens (v0 v1 : Value) (w_ : World) : (Instr.field 36 (.agg #[v0, v1]) 0).run Try.prog w_ = .ok v0 w_ := by
  unfold Instr.field
  rw [Sem.run_bind, run_underlying Try.underlying36 w_]
  simp [part, asAgg, Sem.run_bind, isAgg, run_underlying Try.underlying22, run_underlying Try.underlying3, Result.andThen]

set_option maxRecDepth 20000 in
set_option maxHeartbeats 8000000 in
theorem back_calls (A0 : Option Addr) (c0 : Nat) (ns : List Int) (t : Nat) (s2 s3 : ByteArray) (cu at_ by_ : Nat) (w : World) (h0 : Kd.C (Kd.int .u16) w A0 ns.length ns) (hc0 : ns.length ≤ c0) (hw : ∀ x ∈ ns, (Lit.int .u16 x).wf = true) (ht : t ≤ 255) (hcu : cu ≤ 255) (hat : at_ ≤ 255) (hby : by_ ≤ 255)
    (hn : ns.length ≤ 140) (hs2 : s2.size ≤ 20) (hs3 : s3.size ≤ 20) :
    Calls Try.prog 4 #[.slice A0 ns.length c0, .int .u8 (t : Int), .string s2, .string s3, .int .u8 (cu : Int), .int .u8 (at_ : Int), .int .u8 (by_ : Int)] w fun e w' => e = .returned (.bool true) ∧ Below w.heap.size w w' := by
  have HA := kept (fun wx => wringerlaw10_awake.calls true wx awake10)
  have HE := kept (fun x wx => wringerlaw1_Err.calls x x wx rfl)
  obtain ⟨f, hf, hok⟩ := freq_is ns hw (by omega)
  obtain ⟨kf, hkf⟩ := hf.rounds
  have HFr := kept (wringerlaw8_Freq.calls kf A0 c0 ns f w h0 hc0 hkf)
  obtain ⟨m, hm⟩ : ∃ m : Nat, m = 7 + t % 9 := ⟨_, rfl⟩
  have hq : Fq f m := ⟨hok.len, fun x hx => by have := hok.each x hx; omega, by omega, by omega⟩
  have hmay := hq.may
  have hll := length_lenL f m
  have hlen := wringerref7_Lengths.calls
  obtain ⟨l, hl⟩ : ∃ l, l = lenL f m := ⟨_, rfl⟩
  have hLf : wringerref7_Lengths.f f (m : Int) = some (l, 0) := by
    unfold wringerref7_Lengths.f lenE; rw [if_pos (by rw [hok.len]; decide), if_pos ((fqB_iff f m).2 ⟨m, rfl, hq⟩), Int.toNat_natCast, hl]
  rw [← hl] at hmay hll
  have hl65 := hok.len
  have HLe := kept (fun A c wx (hC : Kd.C (Kd.int .i64) wx A f.length f) (hc : f.length ≤ c) => wringerref7_Lengths.calls A c f (m : Int) l 0 wx hC hc hLf)
  rw [hl65] at HLe
  obtain ⟨s, hs⟩ : ∃ s, s = putL l := ⟨_, rfl⟩
  have HPu := kept (fun A c wx (hC : Kd.C (Kd.int .i64) wx A l.length l) (hc : l.length ≤ c) => lens_Put.calls A c l s wx hC hc (by unfold lens_Put.f; rw [hs]))
  rw [hll] at HPu
  obtain ⟨hsz, hz9, hz130⟩ := putL_size hmay
  rw [← hs] at hsz
  have hs5 : 5 ≤ s.size := by omega
  have hs65 : s.size ≤ 65 := by omega
  have hg1 := get_put hmay s2 s3
  rw [← hs] at hg1
  have HG1 := kept (fun wx => lens_Get.calls (s2 ++ s ++ s3) (s2.size : Int) l _ 0 wx (by unfold lens_Get.f; rw [if_pos (by rw [size_app, size_app]; omega), hg1]))
  have hg2 := get_cut hmay (cu % s.size) (by rw [← hs]; exact Nat.mod_lt _ (by omega))
  rw [← hs] at hg2
  have HG2 := kept (fun wx => lens_Get.calls (s.extract 0 (cu % s.size)) 0 [] 0 2 wx (by unfold lens_Get.f; rw [if_pos (by simp [ByteArray.size_extract]; omega), hg2]))
  obtain ⟨j, hj⟩ : ∃ j, j = at_ % s.size := ⟨_, rfl⟩
  have hjs : j < s.size := by rw [hj]; exact Nat.mod_lt _ (by omega)
  obtain ⟨n3, x3, e3, hg3⟩ : ∃ n3 x3 e3, getL (turned s j by_) 0 = (n3, x3, e3) := ⟨_, _, _, rfl⟩
  have HG3 := kept (fun wx => lens_Get.calls (turned s j by_) 0 n3 x3 e3 wx (by unfold lens_Get.f; rw [if_pos (by rw [turned_size]; omega), hg3]))
  have hother : by_ ≠ 0 → e3 = 0 → n3 ≠ l := fun hb he hn => by
    have h1 : getL (turned s j by_) 0 = (l, x3, 0) := by rw [hg3, hn, he]
    have h2 := get_other hmay (by rw [turned_size, hs]) h1
    rw [← hs] at h2
    exact turned_ne s j by_ hjs hb (by omega) h2
  have HOt := kept hother
  have HLn : Kept (e3 = 0 → n3.length = 65) := kept (fun he => getL_ok_len (by rw [hg3, he]))
  obtain ⟨k1, hk1⟩ := (same_self l (by omega)).rounds
  have HS1 := kept (fun A c B d wx (hC : Kd.C (Kd.int .i64) wx A l.length l) (hc : l.length ≤ c) (hD : Kd.C (Kd.int .i64) wx B l.length l) (hd : l.length ≤ d) => wringerref7_SameInts.calls k1 A c l B d l true wx hC hc hD hd hk1)
  rw [hll] at HS1
  -- the numbers of the walk
  have em : (7 : Int) + (t : Int) % 9 = (m : Int) := by omega
  obtain ⟨cs, hcs⟩ : ∃ cs, cs = cu % s.size := ⟨_, rfl⟩
  have ecu : (cu : Int) % (s.size : Int) = (cs : Int) := by rw [hcs]; omega
  have eat : (at_ : Int) % (s.size : Int) = (j : Int) := by rw [hj]; omega
  rw [← hcs] at HG2
  have hcs2 : cs < s.size := by rw [hcs]; exact Nat.mod_lt _ (by omega)
  obtain ⟨n0, hn0⟩ : ∃ n, n = ns.length := ⟨_, rfl⟩
  rw [← hn0] at HFr hn ⊢
  have hsum : s2.size + s.size + s3.size ≤ 1000 := by omega
  have HF65 := kept hl65
  have HL65 := kept hll
  clear h0 hc0 hw hf hkf hq hmay hl hll hlen hLf hsz hz9 hz130 hg1 hg2 hg3 hother hk1 hok hs hj hcs hl65 hm hn0
  go_enter Try.func4, Try.ntmps4
  go_wp2_with fail
  refine HFr.out.mono ?_
  rintro e w1 ⟨v1, rfl, hr1, hb1⟩
  obtain ⟨A1, c1, rfl⟩ := Kd.R_slice hr1
  rw [HF65.out] at hr1 ⊢
  have hq1 := Kd.R_reads' hr1
  rw [HF65.out] at hq1
  have HLe1 := kept (HLe.out A1 c1 w1 hq1.2.2 hq1.2.1)
  have HB1 := kept hb1
  clear hr1 hb1 hq1
  go_wp2_with fail
  refine HLe1.out.mono ?_
  rintro e w2 ⟨v2, rfl, hr2, hb2⟩
  obtain ⟨A2, c2, rfl⟩ := Kd.R_slice hr2
  rw [HL65.out] at hr2 ⊢
  have hq2 := Kd.R_reads' hr2
  rw [HL65.out] at hq2
  have HC2 := kept hq2.2.2
  have HD2 := kept hq2.2.1
  have HB2 := kept (HB1.out.trans (hb2.mono HB1.out.size))
  have hfl := field_lens (.slice A2 65 c2) (.int .i64 0)
  clear hr2 hb2 hq2
  go_wp2_with fail
  refine (HPu.out A2 c2 _ HC2.out HD2.out).mono ?_
  rintro e w3 ⟨rfl, hb3⟩
  have HB3 := kept hb3
  clear hb3 hfl
  go_wp2_with fail
  refine (HG1.out _).mono ?_
  rintro e w4 ⟨v4, rfl, hr4, hb4⟩
  obtain ⟨A4, c4, rfl⟩ := Kd.R_slice hr4
  rw [HL65.out] at hr4 ⊢
  have hq4 := Kd.R_reads' hr4
  rw [HL65.out] at hq4
  have HC4 := kept hq4.2.2
  have HD4 := kept hq4.2.1
  have HB4 := kept (HB3.out.trans (hb4.mono HB3.out.size))
  have HB34 := kept hb4
  clear hr4 hb4 hq4
  go_wp2_with fail
  refine (HE.out _ _).mono ?_
  rintro e w5 ⟨rfl, hd5⟩
  have HB5 := kept (HB4.out.trans (hd5.below.mono HB4.out.size))
  have HB45 := kept hd5.below
  clear hd5
  go_wp2_with fail
  refine (HS1.out A4 c4 A2 c2 _ (Kd.C_below HC4.out HB45.out) HD4.out (Kd.C_below HC2.out HB5.out) HD2.out).mono ?_
  rintro e w6 ⟨rfl, hd6⟩
  have HB6 := kept (HB5.out.trans (hd6.below.mono HB5.out.size))
  clear hd6
  go_wp2_with fail
  refine (HG2.out _).mono ?_
  rintro e w7 ⟨v7, rfl, _, hb7⟩
  have HB7 := kept (HB6.out.trans (hb7.mono HB6.out.size))
  clear hb7
  go_wp2_with fail
  rw [bytes_run w7 s]
  simp only [Result.andThen]
  rw [Oper.upon_value]
  have hBs := Bs.fresh w7 s (grownCap w7 s.size 0 5)
  have hbf := below_fresh w7 s (grownCap w7 s.size 0 5) w2.heap.size HB7.out.size
  obtain ⟨g, hg⟩ : ∃ g, g = w7.heap.size := ⟨_, rfl⟩
  rw [← hg] at hBs ⊢
  generalize World.alloc _ _ = w8 at hBs hbf ⊢
  generalize grownCap w7 s.size 0 5 = cap8
  have hgB : w2.heap.size ≤ g := by rw [hg]; exact HB7.out.size
  have hjl : j < s.data.toList.length := by simpa using hjs
  obtain ⟨b, hb⟩ : ∃ b : Nat, b = (s.data.toList.getD j 0).toNat := ⟨_, rfl⟩
  have hb2 : b < 256 := by rw [hb]; exact UInt8.toNat_lt _
  have hcb := hBs.cell j hjl
  have ebj : ((s.data.toList[j]'hjl).toNat : Int) = (b : Int) := by rw [hb, List.getD_eq_getElem?_getD, List.getElem?_eq_getElem hjl]; rfl
  rw [ebj] at hcb
  have hfb := hBs.free j hjl
  obtain ⟨X, hX⟩ : ∃ X, X = b ^^^ by_ := ⟨_, rfl⟩
  have hX2 : X < 2 ^ 8 := by rw [hX]; exact Nat.xor_lt_two_pow hb2 (by omega)
  have hxor : Go.bits .xor .u8 (b : Int) (by_ : Int) = (X : Int) := by rw [hX]; exact u8_xor_nat b by_ hb2 (by omega)
  have hset := hBs.set j hjl (UInt8.ofNat X)
  have eX : ((UInt8.ofNat X).toNat : Int) = (X : Int) := by rw [UInt8.toNat_ofNat', Nat.mod_eq_of_lt hX2]
  rw [eX] at hset
  have htx := hset.text s.size cap8 (by simp)
  have etx : (⟨(s.data.toList.set j (UInt8.ofNat X)).toArray⟩ : ByteArray) = turned s j by_ := by unfold turned; rw [hX, hb]
  rw [etx] at htx
  have HTx := kept htx
  have HB9 := kept ((HB7.out.trans hbf).setCell (p := ⟨g, j, none⟩) hgB (.int .u8 (X : Int)))
  have HB2w := HB2
  clear hBs hbf hg hgB hb ebj hX hX2 hset eX htx etx hjl
  go_wp2_with fail
  rw [HTx.out]
  simp only [Result.andThen]
  rw [Oper.upon_value]
  clear hcb hfb hxor HTx
  generalize World.setCell w8 _ _ = w9 at HB9 ⊢
  go_wp2_with fail
  refine (HG3.out _).mono ?_
  rintro e w10 ⟨v10, rfl, hr10, hb10⟩
  obtain ⟨A10, c10, rfl⟩ := Kd.R_slice hr10
  have hq10 := Kd.R_reads' hr10
  have HC10 := kept hq10.2.2
  have HD10 := kept hq10.2.1
  have HB10 := kept (HB9.out.trans (hb10.mono HB9.out.size))
  have HZz := kept (Below.refl w10.heap.size w10)
  clear hr10 hb10 hq10
  have hby0 : by_ = 0 ∨ (by_ ≠ 0 ∧ e3 ≠ 0) ∨ (by_ ≠ 0 ∧ e3 = 0) := by omega
  rcases hby0 with rfl | ⟨hb0, he0⟩ | ⟨hb0, rfl⟩
  · go_wp2_with (first
      | (go_at_call 13; refine (HE.out _ _).mono ?_; rintro e wz ⟨rfl, hd⟩; have HBy := kept (HB10.out.trans (hd.below.mono HB10.out.size)); clear hd HB10; have HB10 := HBy; clear HBy)
      | (go_at_call 7; refine (HA.out _).mono ?_; rintro e wz ⟨rfl, hd⟩; have HBy := kept (HB10.out.trans (hd.mono HB10.out.size)); clear hd HB10; have HB10 := HBy; clear HBy))
    go_ret
    exact ⟨rfl, HB2w.out.trans (HB10.out.mono HB2w.out.size)⟩
  · have tb : ((by_ : Int) == 0) = false := by rw [beq_eq_false_iff_ne]; omega
    have te : (e3 != 0) = true := by rw [bne_iff_ne]; exact he0
    clear hb0 he0
    go_wp2_with (first
      | (go_at_call 13; refine (HE.out _ _).mono ?_; rintro e wz ⟨rfl, hd⟩; have HBy := kept (HB10.out.trans (hd.below.mono HB10.out.size)); clear hd HB10; have HB10 := HBy; clear HBy)
      | (go_at_call 7; refine (HA.out _).mono ?_; rintro e wz ⟨rfl, hd⟩; have HBy := kept (HB10.out.trans (hd.mono HB10.out.size)); clear hd HB10; have HB10 := HBy; clear HBy))
    go_ret
    exact ⟨rfl, HB2w.out.trans (HB10.out.mono HB2w.out.size)⟩
  · have tb : ((by_ : Int) == 0) = false := by rw [beq_eq_false_iff_ne]; omega
    have hne := HOt.out hb0 rfl
    have hn65 := HLn.out rfl
    obtain ⟨k2, hk2⟩ := (same_is n3 l (by omega)).rounds
    rw [decide_eq_false hne] at hk2
    have hl65 := HL65.out
    have HS2 := kept (fun wx (hb : Below w2.heap.size w2 wx) (hb3 : Below w10.heap.size w10 wx) => wringerref7_SameInts.calls k2 A10 c10 n3 A2 c2 l false wx (Kd.C_below HC10.out hb3) HD10.out (by rw [hl65]; exact Kd.C_below HC2.out hb) (by rw [hl65]; exact HD2.out) hk2)
    rw [hl65, hn65] at HS2
    rw [hn65]
    clear hb0 hne hn65 hk2 hl65
    go_wp2_with (first
      | (go_at_call 13; refine (HE.out _ _).mono ?_; rintro e wz ⟨rfl, hd⟩; have HBy := kept (HB10.out.trans (hd.below.mono HB10.out.size)); have HZy := kept (HZz.out.trans (hd.below.mono HZz.out.size)); clear hd HB10 HZz; have HB10 := HBy; have HZz := HZy; clear HBy HZy)
      | (go_at_call 12; refine (HS2.out _ HB10.out HZz.out).mono ?_; rintro e wz ⟨rfl, hd⟩; have HBy := kept (HB10.out.trans (hd.below.mono HB10.out.size)); clear hd HB10 HZz; have HB10 := HBy; clear HBy)
      | (go_at_call 7; refine (HA.out _).mono ?_; rintro e wz ⟨rfl, hd⟩; have HBy := kept (HB10.out.trans (hd.mono HB10.out.size)); clear hd HB10; have HB10 := HBy; clear HBy))
    go_ret
    exact ⟨rfl, HB2w.out.trans (HB10.out.mono HB2w.out.size)⟩

set_option maxRecDepth 20000 in
set_option maxHeartbeats 2000000 in
theorem big_calls (A0 : Option Addr) (c0 n0 : Nat) (a1 a4 a5 a6 : Int) (s2 s3 : ByteArray) (w : World) (hbig : 140 < n0 ∨ 20 < s2.size ∨ 20 < s3.size) :
    Calls Try.prog 4 #[.slice A0 n0 c0, .int .u8 a1, .string s2, .string s3, .int .u8 a4, .int .u8 a5, .int .u8 a6] w fun e w' => e = .returned (.bool true) ∧ Below w.heap.size w w' := by
  have HA := kept (fun wx => wringerlaw10_awake.calls true wx awake10)
  by_cases h1 : 140 < n0
  · clear hbig
    go_enter Try.func4, Try.ntmps4
    go_wp2_with fail
    refine (HA.out _).mono ?_
    rintro e w1 ⟨rfl, hb⟩
    go_wp2_with fail
    go_ret
    exact ⟨rfl, hb⟩
  · by_cases h2 : 20 < s2.size
    · clear hbig
      go_enter Try.func4, Try.ntmps4
      go_wp2_with fail
      refine (HA.out _).mono ?_
      rintro e w1 ⟨rfl, hb⟩
      go_wp2_with fail
      go_ret
      exact ⟨rfl, hb⟩
    · have h3 : 20 < s3.size := by omega
      clear hbig
      go_enter Try.func4, Try.ntmps4
      go_wp2_with fail
      refine (HA.out _).mono ?_
      rintro e w1 ⟨rfl, hb⟩
      go_wp2_with fail
      go_ret
      exact ⟨rfl, hb⟩

theorem LensBack_walk (a0 : Option Addr) (len0 cap0 : Nat) (z0 : List Int) (a1 : Int) (a2 a3 : ByteArray) (a4 a5 a6 : Int) (w : World)
    (w0 : _root_.Go.Proofs.Ytkplcibmhibjjaa.Own.Arg .u16 w a0 len0 cap0 z0) (y0 : len0 * 2 ≤ 140737488351232) (w1 : (Lit.int .u8 a1).wf = true) (w2 : a2.size ≤ 140737488351232) (w3 : a3.size ≤ 140737488351232) (w4 : (Lit.int .u8 a4).wf = true) (w5 : (Lit.int .u8 a5).wf = true) (w6 : (Lit.int .u8 a6).wf = true) :
    Calls Try.prog 4 #[.slice a0 len0 cap0, .int .u8 a1, .string a2, .string a3, .int .u8 a4, .int .u8 a5, .int .u8 a6] w fun e w' => e = .returned (.bool true) ∧ Below w.heap.size w w' := by
  obtain ⟨l0, rfl, hr0, hm0, hw0, hc0⟩ := ReadsInt.ofRowC w0
  by_cases hbig : 140 < l0.length ∨ 20 < a2.size ∨ 20 < a3.size
  · exact big_calls a0 cap0 l0.length a1 a4 a5 a6 a2 a3 w hbig
  · obtain ⟨t, rfl, ht⟩ := u8_atL w1
    obtain ⟨cu, rfl, hcu⟩ := u8_atL w4
    obtain ⟨at_, rfl, hat⟩ := u8_atL w5
    obtain ⟨by_, rfl, hby⟩ := u8_atL w6
    exact back_calls a0 cap0 l0 t a2 a3 cu at_ by_ w (Kd.C_of_reads (d := (0 : Int)) (h1 := fun _ => rfl) hr0) hc0 hw0 ht hcu hat hby (by omega) (by omega) (by omega)
end Go.Proofs.Ytkplcibmhibjjaa

-- ---- LawLensBack
/- The law LensBack holds of the program, for every input; each argument reads behind the call as it read before. Conditions: none. -/
namespace Go.Proofs.Ytkplcibmhibjjaa.lensBack
open Go.ChangeShapes Go.WideShapes Go.ChangeAt Go.RowKit
open Go.ChangeMaps (open_string shut_string)
set_option linter.unusedVariables false
theorem own : ownKnob Try.prog.godebug = none := by kernel_rfl
theorem laidOut : laidOutB Try.prog = true := by kernel_rfl
set_option maxRecDepth 100000 in
theorem lifted (os : Os) (started : os.Started) (H : Type) (enc : TypeId × Value → H) :
    ReturnsInHanded {} Try.checked os 4 .any (Rows.lensBackSpec.pre6 enc Try.prog Try.f4 Rows.lensBackRow.domain false) (Rows.lensBackSpec.post enc Try.prog Try.f4 false true false false) := by
  refine returnsInHanded_of_change_sized (C := Try.checked) own started (by kernel_rfl) Try.func4
    (ChangeSpec.witness6 (enc := enc) (C := Try.checked) false ⟨#[], #[.slice none 0 0, .int .u8 0, .string ByteArray.empty, .string ByteArray.empty, .int .u8 0, .int .u8 0, .int .u8 0], []⟩ 8 (by kernel_rfl) (by kernel_rfl) (by kernel_rfl) (by kernel_rfl)) ?_
  intro W base args ds gs before hval0 hW hcnd hsz0 _
  have hsz : (DataW.weightsEach Try.prog (Try.f4.params.toList ++ Rows.lensBackSpec.plain.varTypes Try.prog) (ds ++ gs)).all (· ≤ reachBytes) = true := hsz0
  have hval : ∀ (j : Nat) t v, Try.f4.params[j]? = some t → args[j]? = some v → Value.okWide Try.prog W .any base t v := hval0
  have hW' := hW
  obtain ⟨p, q, hA0, hV, rfl, hfz, hnd⟩ := hW
  have hA : DataW.TrodAll enc Try.prog W 0 (fun _ => true) true Try.f4.params.toList args.toList ds p := hA0
  rw [Try.params4] at hA hval hsz
  obtain ⟨v0, vs0, d0, ds0, p0, q0, hargs, rfl, rfl, h0, r0⟩ := trodAll_cons hA
  obtain ⟨v1, vs1, d1, ds1, p1, q1, rfl, rfl, rfl, h1, r1⟩ := trodAll_cons r0
  obtain ⟨v2, vs2, d2, ds2, p2, q2, rfl, rfl, rfl, h2, r2⟩ := trodAll_cons r1
  obtain ⟨v3, vs3, d3, ds3, p3, q3, rfl, rfl, rfl, h3, r3⟩ := trodAll_cons r2
  obtain ⟨v4, vs4, d4, ds4, p4, q4, rfl, rfl, rfl, h4, r4⟩ := trodAll_cons r3
  obtain ⟨v5, vs5, d5, ds5, p5, q5, rfl, rfl, rfl, h5, r5⟩ := trodAll_cons r4
  obtain ⟨v6, vs6, d6, ds6, p6, q6, rfl, rfl, rfl, h6, r6⟩ := trodAll_cons r5
  obtain ⟨rfl, rfl, rfl⟩ := trodAll_nil r6
  obtain rfl : args = #[v0, v1, v2, v3, v4, v5, v6] := by cases args; simp_all
  obtain ⟨rfl, rfl⟩ := trodVars_none hV
  obtain ⟨a0, len0, cap0, rfl⟩ := okWide_slice Try.underlying34 (hval 0 34 v0 rfl rfl)
  have k0 := h0
  have lt0 : ∀ x ∈ p0, x.block < W.heap.size := by obtain ⟨m, hm⟩ := k0; exact DataW.trod_lt m _ _ _ hm
  obtain ⟨z0, w0⟩ : ∃ zs, Own.Arg .u16 W a0 len0 cap0 zs := by
    obtain ⟨fuel, hf⟩ := h0
    rcases open_ints Try.underlying34 Try.underlying62 (by kernel_rfl) hf with ⟨hcs, _⟩ | ⟨x, l, c, zs, hcs, _, hl, hm, hz, _, hcell, hwz⟩
    · simp [Value.cells] at hcs
      obtain ⟨rfl, rfl, rfl⟩ := hcs
      exact ⟨[], .inl ⟨rfl, rfl, rfl, rfl⟩⟩
    · simp [Value.cells] at hcs
      obtain ⟨rfl, rfl, rfl⟩ := hcs
      exact ⟨zs, .inr ⟨_, rfl, hl, hm, by simpa using hz, hcell, hwz⟩⟩
  have y0 : len0 * 2 ≤ 140737488351232 := Own.sized_ints hsz (j := 0) (t := 34) rfl rfl Try.underlying34 Try.underlying62 (by kernel_rfl) (by kernel_rfl) h0
  obtain ⟨a1, rfl, rfl, rfl, w1⟩ := open_int Try.underlying5 (hval 1 5 v1 rfl rfl) h1
  obtain ⟨a2, rfl, rfl, rfl, y2⟩ := open_string Try.underlying9 (hval 2 9 v2 rfl rfl) h2
  have w2 : a2.size ≤ 140737488351232 := by
    have z := sized_string hsz (j := 2) (t := 9) rfl rfl
    rw [Array.length_toList] at z
    exact z
  obtain ⟨a3, rfl, rfl, rfl, y3⟩ := open_string Try.underlying9 (hval 3 9 v3 rfl rfl) h3
  have w3 : a3.size ≤ 140737488351232 := by
    have z := sized_string hsz (j := 3) (t := 9) rfl rfl
    rw [Array.length_toList] at z
    exact z
  obtain ⟨a4, rfl, rfl, rfl, w4⟩ := open_int Try.underlying5 (hval 4 5 v4 rfl rfl) h4
  obtain ⟨a5, rfl, rfl, rfl, w5⟩ := open_int Try.underlying5 (hval 5 5 v5 rfl rfl) h5
  obtain ⟨a6, rfl, rfl, rfl, w6⟩ := open_int Try.underlying5 (hval 6 5 v6 rfl rfl) h6
  clear hA0 hval0 hsz0 hsz
  refine (LensBack_walk a0 len0 cap0 z0 a1 a2 a3 a4 a5 a6 W w0 y0 w1 w2 w3 w4 w5 w6).mono fun e W' ⟨he, bel⟩ => ?_
  subst he
  exact ⟨_, rfl, _, _, _, [], _, [], hW', trodAll_mk1 (shut_bool Try.underlying4 _), (trodAll_cons_mk (Below.trod laidOut (by kernel_rfl) (of_decide_eq_true (by kernel_rfl)) k0 bel lt0) (trodAll_cons_mk (shut_int Try.underlying5 w1) (trodAll_cons_mk (shut_string Try.underlying9 y2) (trodAll_cons_mk (shut_string Try.underlying9 y3) (trodAll_cons_mk (shut_int Try.underlying5 w4) (trodAll_cons_mk (shut_int Try.underlying5 w5) (trodAll_cons_mk (shut_int Try.underlying5 w6) trodAll_mk0))))))), rfl, bel.frame _, fun h => by cases h⟩
theorem over : Rows.lensBackRow.holds Try.pinned (OpenSpec.ofChange Rows.lensBackSpec) :=
  OpenClaim.holds_of_wide 4 Try.f4 rfl rfl rfl rfl rfl rfl rfl ⟨rfl, rfl, rfl, rfl, rfl⟩ rfl rfl rfl rfl rfl (by kernel_rfl) Try.func4 (by kernel_rfl)
    (of_decide_eq_true (by kernel_rfl)) (by unfold Func.isWrapper; first | (rw [if_pos (by decide +kernel)]; kernel_rfl) | (rw [if_neg (by decide +kernel)]; exact ⟨rfl, rfl⟩))
    (fun os started H enc _ => lifted os started H enc)
theorem proved : Rows.LensBackSaid := over
#print axioms proved
end Go.Proofs.Ytkplcibmhibjjaa.lensBack
namespace Go.Proofs.Ytkplcibmhibjjaa
/-- The row, under a short name. -/
theorem lensBack_holds : Rows.LensBackSaid := lensBack.proved
end Go.Proofs.Ytkplcibmhibjjaa
