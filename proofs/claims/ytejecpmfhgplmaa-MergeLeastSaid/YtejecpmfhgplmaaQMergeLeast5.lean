/- Part MergeLeast5 of what the layer's laws stand on: Tr, Lz, PureMergeLeast, LawMergeLeast. Written by a program (merge.py) out of this session's own texts and of what the kit's print wrote over stand-ins (sp.py). Conditions: those that each theorem names. -/
import Derived.Test.YtejecpmfhgplmaaQMergeLeast1
import Derived.Test.YtejecpmfhgplmaaQMergeLeast2
import Derived.Test.YtejecpmfhgplmaaQMergeLeast4
import Derived.Test.YtejecpmfhgplmaaRows
import Derived.WalkKit
import Derived.ProofKit
import Derived.OpenShut
import Derived.ShutString
import Derived.ChangeOld
import Derived.Below
import Derived.SizedLaws
import Derived.Test.YtejecpmfhgplmaaWSized
-- ---- Tr
/- The least cost over all lengths up to four: plain facts. No program in sight. -/
namespace Go.Proofs.Ytejecpmfhgplmaa.Dp
set_option linter.unusedSimpArgs false
set_option linter.unusedVariables false
open Ol

def insN (a : Nat) : List Nat → List Nat
  | [] => [a]
  | b :: t => if a ≤ b then a :: b :: t else b :: insN a t
def sortN : List Nat → List Nat
  | [] => []
  | a :: t => insN a (sortN t)
theorem perm_insN (a : Nat) : ∀ l : List Nat, (insN a l).Perm (a :: l) := by
  intro l
  induction l with
  | nil => exact .refl _
  | cons b t ih =>
    show (if a ≤ b then a :: b :: t else b :: insN a t).Perm (a :: b :: t)
    split
    · exact .refl _
    · exact (List.Perm.cons b ih).trans (List.Perm.swap a b t)
theorem perm_sortN : ∀ l : List Nat, (sortN l).Perm l := by
  intro l
  induction l with
  | nil => exact .refl _
  | cons a t ih => exact (perm_insN a _).trans (List.Perm.cons a ih)
theorem sorted_insN (a : Nat) : ∀ l : List Nat, l.Pairwise (· ≤ ·) → (insN a l).Pairwise (· ≤ ·) := by
  intro l
  induction l with
  | nil => intro _; simp [insN]
  | cons b t ih =>
    intro h
    show (if a ≤ b then a :: b :: t else b :: insN a t).Pairwise (· ≤ ·)
    rw [List.pairwise_cons] at h
    split
    · rw [List.pairwise_cons, List.pairwise_cons]
      refine ⟨fun c hc => ?_, h⟩
      rcases List.mem_cons.1 hc with rfl | hc
      · assumption
      · have := h.1 c hc; omega
    · rw [List.pairwise_cons]
      refine ⟨fun c hc => ?_, ih h.2⟩
      rcases List.mem_cons.1 ((perm_insN a t).mem_iff.1 hc) with rfl | hc
      · omega
      · exact h.1 c hc
theorem sorted_sortN : ∀ l : List Nat, (sortN l).Pairwise (· ≤ ·) := by
  intro l
  induction l with
  | nil => simp [sortN]
  | cons a t ih => exact sorted_insN a _ ih
theorem swap_le (x y a b d : Int) (h1 : y ≤ x) (h2 : b ≤ a) : x * (b - d) + y * (a - d) ≤ x * (a - d) + y * (b - d) := by
  have h : 0 ≤ (x - y) * (a - b) := Int.mul_nonneg (by omega) (by omega)
  grind
theorem cost_insN (d a : Nat) : ∀ (l : List Nat) (x : Int) (g : List Int), g.length = l.length → (x :: g).Pairwise (· ≥ ·) → cost d (x :: g) (insN a l) ≤ x * ((a : Int) - d) + cost d g l := by
  intro l
  induction l with
  | nil => intro x g hg _; cases g with
    | nil => simp [insN, cost]
    | cons y g => simp at hg
  | cons b t ih =>
    intro x g hg hs
    cases g with
    | nil => simp at hg
    | cons y g =>
      rw [List.pairwise_cons] at hs
      have hxy := hs.1 y (by simp)
      show cost d (x :: y :: g) (if a ≤ b then a :: b :: t else b :: insN a t) ≤ _
      split
      · simp only [cost]; omega
      · have h := ih y g (by simpa using hg) hs.2
        have h2 := swap_le x y (a : Int) (b : Int) (d : Int) hxy (by omega)
        simp only [cost] at h ⊢
        omega
theorem length_sortN (l : List Nat) : (sortN l).length = l.length := (perm_sortN l).length_eq
theorem cost_sortN (d : Nat) : ∀ (l : List Nat) (g : List Int), g.length = l.length → g.Pairwise (· ≥ ·) → cost d g (sortN l) ≤ cost d g l := by
  intro l
  induction l with
  | nil => intro g hg _; cases g <;> simp [sortN]
  | cons a t ih =>
    intro g hg hs
    cases g with
    | nil => simp at hg
    | cons x g =>
      have hs2 := hs
      rw [List.pairwise_cons] at hs2
      have hl : g.length = t.length := by simpa using hg
      have h1 := cost_insN d a (sortN t) x g (by rw [length_sortN]; exact hl) hs
      have h2 := ih g hl hs2.2
      show cost d (x :: g) (insN a (sortN t)) ≤ cost d (x :: g) (a :: t)
      simp only [cost] at h1 ⊢
      omega
theorem wsum_perm (L : Nat) {a b : List Nat} (h : a.Perm b) : wsum L a = wsum L b := (h.map _).sum_nat
theorem sumI_perm {a b : List Int} (h : a.Perm b) : a.sum = b.sum := by
  induction h with
  | nil => rfl
  | cons x _ ih => simp only [List.sum_cons, ih]
  | swap x y l => simp only [List.sum_cons]; omega
  | trans _ _ h1 h2 => exact h1.trans h2
theorem wsum_up : ∀ l : List Nat, (∀ n ∈ l, n ≤ 4) → wsum 15 l = 2048 * wsum 4 l := by
  intro l
  induction l with
  | nil => intro _; rfl
  | cons n t ih =>
    intro h
    have h1 := h n (by simp)
    rw [wsum_cons, wsum_cons, ih (fun m hm => h m (by simp [hm])), Nat.mul_add]
    congr 1
    rw [show 15 - n = 11 + (4 - n) by omega, Nat.pow_add]
def sumC (f : List Int) (q : Nat → Nat) (cs : List Nat) : Int := (cs.map fun c => f.getD c 0 * (q c : Int)).sum
theorem sumC_perm (f : List Int) (q : Nat → Nat) {a b : List Nat} (h : a.Perm b) : sumC f q a = sumC f q b := sumI_perm (h.map _)
theorem cost_map (f : List Int) (q : Nat → Nat) : ∀ cs : List Nat, cost 0 (cs.map fun i => f.getD i 0) (cs.map q) = sumC f q cs := by
  intro cs
  induction cs with
  | nil => rfl
  | cons c t ih => simp only [List.map_cons, cost, ih, sumC, List.sum_cons]; simp [sumC]
/-- A class's length. -/
def lenN (f : List Int) (m c : Nat) : Nat := ((lenL f m).getD c 0).toNat
theorem Fq.lensOf_map {f : List Int} {m : Nat} (h : Fq f m) : lensOf f m = (ordL f).map (lenN f m) := by
  have hl := h.spec.1
  apply List.ext_getElem
  · rw [List.length_map, hl]
  · intro i h1 h2
    have h3 := h.at i (by omega)
    rw [List.getElem_map]
    unfold lenN
    have e1 : (ordL f).getD i 0 = (ordL f)[i]'(by omega) := by simp [List.getD_eq_getElem?_getD, show i < (ordL f).length by omega]
    have e2 : (lensOf f m).getD i 0 = (lensOf f m)[i] := by simp [List.getD_eq_getElem?_getD, h1]
    rw [e1, e2] at h3
    rw [h3, Int.toNat_natCast]
theorem Fq.tried_least {f : List Int} {m : Nat} (h : Fq f m) (h2 : 2 ≤ (ordL f).length) (q : Nat → Nat) (hq : ∀ c ∈ ordL f, 1 ≤ q c ∧ q c ≤ 4) (hw : wsum 4 ((ordL f).map q) = 16) :
    sumC f (lenN f m) (ordL f) ≤ sumC f q (ordL f) := by
  obtain ⟨h3, h4, h5, h6⟩ := h.spec
  obtain ⟨h7, h8⟩ := h6 h2
  have hlo := h.lo
  have hhi := h.hi
  have hm : ∀ n ∈ (ordL f).map q, 1 ≤ n ∧ n ≤ 4 := fun n hn => by obtain ⟨c, hc, rfl⟩ := List.mem_map.1 hn; exact hq c hc
  obtain ⟨x, hx, hx2⟩ := dp_least 15 m 1 (ofs f) 2 (sortN ((ordL f).map q)) (by omega) (by rw [length_sortN, List.length_map, length_ofs]) (fun n hn => by have := hm n ((perm_sortN _).mem_iff.1 hn); omega) (sorted_sortN _)
    (by rw [wsum_perm 15 (perm_sortN _), wsum_up _ (fun n hn => (hm n hn).2), hw])
  rw [h8] at hx
  have hxe : cost 1 (ofs f) (lensOf f m) = x := Option.some.inj hx
  have h9 := cost_sortN 1 ((ordL f).map q) (ofs f) (by rw [length_ofs, List.length_map]) (ofs_fall f)
  have e1 := cost_next 0 (ofs f) (lensOf f m) (by rw [h3, length_ofs])
  have e2 := cost_next 0 (ofs f) ((ordL f).map q) (by rw [length_ofs, List.length_map])
  have e3 := cost_map f q (ordL f)
  have e4 := cost_map f (lenN f m) (ordL f)
  rw [← h.lensOf_map] at e4
  have e5 : ((ordL f).map fun i => f.getD i 0) = ofs f := rfl
  rw [e5] at e3 e4
  rw [← e3, ← e4]
  simp only [Nat.zero_add] at e1 e2
  omega
theorem Fq.tried_is {f : List Int} {m : Nat} (h : Fq f m) (h2 : 2 ≤ (ordL f).length) (h5 : (ordL f).length ≤ 5) : (∀ c ∈ ordL f, 1 ≤ lenN f m c ∧ lenN f m c ≤ 4) ∧ wsum 4 ((ordL f).map (lenN f m)) = 16 := by
  have hlo := h.lo
  have hhi := h.hi
  obtain ⟨x, hx⟩ := h.can h2
  obtain ⟨s1, s2, s3, s4, s5⟩ := lens_spec 15 m 1 (ofs f) 2 x (by omega) hx
  have e : lensOf f m = lens m 1 (ofs f) 2 := by unfold lensOf; rw [if_neg (by omega)]
  rw [← e, h.lensOf_map] at s2 s4
  rw [length_ofs] at s2
  have h9 : ∀ n ∈ (ordL f).map (lenN f m), n ≤ 4 := fun n hn => by have := s2 n hn; omega
  refine ⟨fun c hc => ?_, ?_⟩
  · have := s2 _ (List.mem_map_of_mem hc)
    omega
  · rw [wsum_up _ h9] at s4
    omega
theorem sumC_posL (f : List Int) (q : Nat → Nat) (h0 : ∀ c, 0 ≤ f.getD c 0) : ∀ n : Nat, sumC f q (posL f n) = sumC f q (List.range n) := by
  intro n
  induction n with
  | zero => rfl
  | succ n ih =>
    rw [posL_succ, List.range_succ]
    unfold sumC at ih ⊢
    rw [List.map_append, List.map_append, List.sum_append, List.sum_append, ih]
    congr 1
    by_cases h : 0 < f.getD n 0
    · rw [if_pos h]
    · have := h0 n
      rw [if_neg h]; simp only [List.map_nil, List.sum_nil, List.map_cons, List.sum_cons]
      rw [show f.getD n 0 = 0 by omega]; simp
end Go.Proofs.Ytejecpmfhgplmaa.Dp

-- ---- Lz
/- Costs of lengths changed for one another, and by a greater limit: plain facts. No program in sight. -/
namespace Go.Proofs.Ytejecpmfhgplmaa.PA
set_option linter.unusedSimpArgs false
set_option linter.unusedVariables false
open Ol Dp Go.RowKit Go.Proofs.YtejecpmfhgplmaaW.PrintWords Go.Proofs.YtejecpmfhgplmaaW.PrintLast Go.Proofs.YtejecpmfhgplmaaW.PrintMore

/-- A cost without wrapping. -/
def dotI (f l : List Int) : Nat → Int
  | 0 => 0
  | i + 1 => dotI f l i + f.getD i 0 * l.getD i 0
theorem dot_set (f l : List Int) (x : Nat) (v : Int) (hx : x < l.length) : ∀ i : Nat, dotI f (l.set x v) i = dotI f l i + if x < i then f.getD x 0 * (v - l.getD x 0) else 0 := by
  intro i
  induction i with
  | zero => rfl
  | succ i ih =>
    show dotI f (l.set x v) i + f.getD i 0 * (l.set x v).getD i 0 = dotI f l i + f.getD i 0 * l.getD i 0 + _
    rw [ih]
    by_cases h : x = i
    · subst h
      have e : (l.set x v).getD x 0 = v := by simp [List.getD_eq_getElem?_getD, hx]
      rw [e, if_neg (by omega), if_pos (by omega), Int.mul_sub]; omega
    · have e : (l.set x v).getD i 0 = l.getD i 0 := by simp only [List.getD_eq_getElem?_getD, List.getElem?_set_ne h]
      rw [e]
      by_cases h2 : x < i
      · rw [if_pos h2, if_pos (by omega)]; omega
      · rw [if_neg h2, if_neg (by omega)]; omega
theorem dot_swap (f l : List Int) (x y : Nat) (hx : x < l.length) (hy : y < l.length) (hf : x < 65) (hg : y < 65) (hm : ∀ a b, f.getD a 0 > f.getD b 0 → f.getD b 0 > 0 → l.getD a 0 ≤ l.getD b 0) (h1 : f.getD x 0 > 0) (h2 : f.getD y 0 > 0) :
    dotI f l 65 ≤ dotI f ((l.set x (l.getD y 0)).set y (l.getD x 0)) 65 := by
  rw [dot_set f _ y _ (by rw [List.length_set]; exact hy), dot_set f l x _ hx, if_pos hf, if_pos hg]
  by_cases h : x = y
  · subst h
    have e : (l.set x (l.getD x 0)).getD x 0 = l.getD x 0 := by simp [List.getD_eq_getElem?_getD, hx]
    rw [e]; simp
  · have e : (l.set x (l.getD y 0)).getD y 0 = l.getD y 0 := by simp only [List.getD_eq_getElem?_getD, List.getElem?_set_ne h]
    rw [e]
    have k : 0 ≤ (f.getD x 0 - f.getD y 0) * (l.getD y 0 - l.getD x 0) := by
      rcases Int.lt_trichotomy (f.getD x 0) (f.getD y 0) with h3 | h3 | h3
      · have := hm y x h3 h1
        rw [← Int.neg_mul_neg]
        exact Int.mul_nonneg (by omega) (by omega)
      · rw [h3]; simp
      · have := hm x y h3 h2
        exact Int.mul_nonneg (by omega) (by omega)
    generalize f.getD x 0 = p at *
    generalize f.getD y 0 = q at *
    generalize l.getD x 0 = s at *
    generalize l.getD y 0 = t at *
    grind
theorem costA_dot (f l : List Int) (hf : ∀ c, 0 ≤ f.getD c 0 ∧ f.getD c 0 ≤ 65535) (hl : ∀ c, 0 ≤ l.getD c 0 ∧ l.getD c 0 ≤ 15) : ∀ i : Nat, i ≤ 65 → costA f l i = dotI f l i ∧ 0 ≤ dotI f l i ∧ dotI f l i ≤ 983025 * i := by
  intro i
  induction i with
  | zero => intro _; exact ⟨rfl, Int.le_refl _, Int.le_refl _⟩
  | succ i ih =>
    intro hi
    obtain ⟨h1, h2, h3⟩ := ih (by omega)
    have k1 := Int.mul_nonneg (hf i).1 (hl i).1
    have k2 := Int.mul_le_mul (hf i).2 (hl i).2 (hl i).1 (by decide)
    show wrap64 (costA f l i + wrap64 (f.getD i 0 * l.getD i 0)) = dotI f l i + f.getD i 0 * l.getD i 0 ∧ _ ≤ dotI f l i + f.getD i 0 * l.getD i 0 ∧ dotI f l i + f.getD i 0 * l.getD i 0 ≤ _
    rw [h1]
    generalize f.getD i 0 * l.getD i 0 = p at *
    rw [w64 (x := p) (by omega) (by omega), w64 (by omega) (by omega)]
    omega
theorem dot_sumC (f : List Int) (l : List Int) (q : Nat → Nat) (h : ∀ c, l.getD c 0 = (q c : Int)) : ∀ i : Nat, dotI f l i = sumC f q (List.range i) := by
  intro i
  induction i with
  | zero => rfl
  | succ i ih =>
    show dotI f l i + f.getD i 0 * l.getD i 0 = _
    rw [ih, h i]
    unfold sumC; rw [List.range_succ, List.map_append, List.sum_append]; simp
theorem getD_bd (f : List Int) (b : Int) (hb : 0 ≤ b) (h : ∀ x ∈ f, 0 ≤ x ∧ x ≤ b) (c : Nat) : 0 ≤ f.getD c 0 ∧ f.getD c 0 ≤ b := by
  by_cases hc : c < f.length
  · have e : f.getD c 0 = f[c] := by simp [List.getD_eq_getElem?_getD, hc]
    rw [e]; exact h _ (List.getElem_mem hc)
  · have e : f.getD c 0 = 0 := by simp [List.getD_eq_getElem?_getD, Nat.le_of_not_lt hc]
    rw [e]; omega
theorem dot_lens {f : List Int} {m : Nat} (h : Fq f m) : dotI f (lenL f m) 65 = cost 0 (ofs f) (lensOf f m) := by
  have hb : ∀ c, 0 ≤ f.getD c 0 := fun c => (getD_bd f 16777216 (by decide) h.each c).1
  rw [dot_sumC f (lenL f m) (lenN f m) (fun c => by have := (h.pos c).2.1; unfold lenN; omega) 65, ← sumC_posL f _ hb]
  have e := ordL_perm f
  rw [h.len] at e
  rw [← sumC_perm _ _ e, ← cost_map, ← h.lensOf_map]
  rfl
theorem more_cost {f : List Int} {k : Nat} (h : Fq f k) (h2 : Fq f (k + 1)) : dotI f (lenL f (k + 1)) 65 ≤ dotI f (lenL f k) 65 := by
  rw [dot_lens h, dot_lens h2]
  obtain ⟨a1, a2, a3, a4⟩ := h.spec
  obtain ⟨b1, b2, b3, b4⟩ := h2.spec
  by_cases hn : 2 ≤ (ordL f).length
  · obtain ⟨a5, a6⟩ := a4 hn
    obtain ⟨b5, b6⟩ := b4 hn
    have hhi := h2.hi
    obtain ⟨x, hx, hx2⟩ := dp_least 15 (k + 1) 1 (ofs f) 2 (lensOf f k) (by omega) (by rw [a1, length_ofs]) (fun n hn => by have := a2 n hn; omega) a3 (by rw [a5])
    rw [b6] at hx
    have hxe := Option.some.inj hx
    have e1 := cost_next 0 (ofs f) (lensOf f k) (by rw [a1, length_ofs])
    have e2 := cost_next 0 (ofs f) (lensOf f (k + 1)) (by rw [b1, length_ofs])
    simp only [Nat.zero_add] at e1 e2
    omega
  · by_cases h1 : (ordL f).length = 1
    · have e1 : lensOf f k = [1] := by unfold lensOf; rw [if_pos h1]
      have e2 : lensOf f (k + 1) = [1] := by unfold lensOf; rw [if_pos h1]
      rw [e1, e2]; exact Int.le_refl _
    · have : ofs f = [] := List.length_eq_zero_iff.1 (by rw [length_ofs]; omega)
      rw [this]
      cases lensOf f k <;> cases lensOf f (k + 1) <;> exact Int.le_refl _
end Go.Proofs.Ytejecpmfhgplmaa.PA

-- ---- PureMergeLeast
/- Lengths may be, none is above its limit, more frequent classes have no longer ones, and no change of two costs less: the plain statement of MergeLeast holds for every input. Conditions: none. -/
namespace Go.Proofs.Ytejecpmfhgplmaa.Pure
open Go.RowKit Go.Proofs.Ytejecpmfhgplmaa.PA Go.Proofs.YtejecpmfhgplmaaW.PrintWords Go.Proofs.YtejecpmfhgplmaaW.PrintLast Go.Proofs.YtejecpmfhgplmaaW.PrintMore Dp Ol
set_option linter.unusedVariables false
set_option linter.unusedSimpArgs false
set_option linter.unusedSectionVars false

attribute [local irreducible] Dp.lenL Dp.lensOf PA.costW
section
variable (f : List Int) (k : Nat) (a2 a3 : Int) (x y : Nat) (hf : FreqOk f) (h : Fq f k) (h2 : Fq f (k + 1)) (hx : Int.tmod (wrap64 a2) 65 = (x : Int)) (hy : Int.tmod (wrap64 a3) 65 = (y : Int)) (hx65 : x < 65) (hy65 : y < 65)
include hf h h2 hx hy hx65 hy65
theorem least_costs : costW f (lenL f (k + 1)) ≤ costW f (lenL f k) ∧ (f.getD x 0 ≠ 0 → f.getD y 0 ≠ 0 → costW f (lenL f k) ≤ costW f (((lenL f k).set x ((lenL f k).getD y 0)).set y ((lenL f k).getD x 0))) := by
  have hhi := h2.hi
  have hb := getD_bd f 65535 (by decide) hf.each
  have hb1 : ∀ c, 0 ≤ (lenL f k).getD c 0 ∧ (lenL f k).getD c 0 ≤ 15 := fun c => by have := (h.pos c).2; omega
  have hb2 : ∀ c, 0 ≤ (lenL f (k + 1)).getD c 0 ∧ (lenL f (k + 1)).getD c 0 ≤ 15 := fun c => by have := (h2.pos c).2; omega
  have hl := length_lenL f k
  have hb3 : ∀ c, 0 ≤ (((lenL f k).set x ((lenL f k).getD y 0)).set y ((lenL f k).getD x 0)).getD c 0 ∧ (((lenL f k).set x ((lenL f k).getD y 0)).set y ((lenL f k).getD x 0)).getD c 0 ≤ 15 := by
    refine getD_bd _ 15 (by decide) (fun z hz => ?_)
    rcases List.mem_or_eq_of_mem_set hz with hz | rfl
    · rcases List.mem_or_eq_of_mem_set hz with hz | rfl
      · obtain ⟨i, hi, rfl⟩ := List.getElem_of_mem hz
        have h := hb1 i
        have e : (lenL f k).getD i 0 = (lenL f k)[i] := by simp [List.getD_eq_getElem?_getD, hi]
        rw [e] at h; exact h
      · exact hb1 y
    · exact hb1 x
  unfold costW
  rw [List.length_set, List.length_set, hl, length_lenL, hf.len, Nat.min_self]
  rw [(costA_dot f _ hb hb1 65 (Nat.le_refl _)).1, (costA_dot f _ hb hb2 65 (Nat.le_refl _)).1, (costA_dot f _ hb hb3 65 (Nat.le_refl _)).1]
  refine ⟨more_cost h h2, fun h3 h4 => dot_swap f (lenL f k) x y (by omega) (by omega) hx65 hy65 (fun a b => h.mono a b) ?_ ?_⟩
  · have := (hb x).1; omega
  · have := (hb y).1; omega
set_option maxHeartbeats 2000000 in
theorem least_end : Ev (fun n => wringerlaw8_MergeLeast.l0 n a2 a3 f (k : Int) (lenL f k) (lenL f (k + 1)) ((65 : Nat) : Int)) true := by
  obtain ⟨hc1, hc2⟩ := least_costs f k a2 a3 x y hf h h2 hx hy hx65 hy65
  have hl := length_lenL f k
  have hl2 := length_lenL f (k + 1)
  have hfl := hf.len
  have e1 := mcost_f f (lenL f (k + 1)) (by omega)
  have e2 := mcost_f f (lenL f k) (by omega)
  have e3 := mcost_f f (((lenL f k).set x ((lenL f k).getD y 0)).set y ((lenL f k).getD x 0)) (by omega)
  refine Ev.step (f := fun _ => some true) (fun n => ?_) (Ev.now _)
  simp only [wringerlaw8_MergeLeast.l0]
  rw [if_neg (by omega), hx, hy]
  simp only [Option.bind_some, List.nil_append, List.length_nil, rd_nat, Int.toNat_natCast]
  rw [if_pos (by omega), if_pos (by omega), if_pos (by omega), if_pos (by omega), if_pos (by omega), if_pos (by omega)]
  try simp only [List.length_set]
  rw [if_pos (by omega), if_pos (by omega), awake8, e1, e2, e3]
  simp only [Option.bind_some]
  by_cases h3 : f.getD x 0 = 0
  · rw [if_pos h3, if_pos hc1]
  · rw [if_neg h3, if_pos (by omega)]
    by_cases h4 : f.getD y 0 = 0
    · rw [if_pos h4, if_pos hc1]
    · rw [if_neg h4, if_pos (hc2 h3 h4), if_pos hc1]

theorem least_l1 (i : Nat) (hi : i < 65) (hE : Ev (fun n => wringerlaw8_MergeLeast.l0 n a2 a3 f (k : Int) (lenL f k) (lenL f (k + 1)) ((i + 1 : Nat) : Int)) true) : ∀ (d j : Nat), j + d = 65 → Ev (fun n => wringerlaw8_MergeLeast.l1 n a2 a3 f (k : Int) (lenL f k) (lenL f (k + 1)) (i : Int) (j : Int)) true := by
  have hl := length_lenL f k
  have hfl := hf.len
  intro d
  induction d with
  | zero =>
    intro j hj
    have w1 : wrap64 ((i : Int) + 1) = ((i + 1 : Nat) : Int) := by rw [w64 (by omega) (by omega)]; rfl
    exact Ev.step (f := fun n => wringerlaw8_MergeLeast.l0 n a2 a3 f (k : Int) (lenL f k) (lenL f (k + 1)) ((i + 1 : Nat) : Int)) (fun n => by simp only [wringerlaw8_MergeLeast.l1]; rw [if_neg (by omega), w1]) hE
  | succ d ih =>
    intro j hj
    have w1 : wrap64 ((j : Int) + 1) = ((j + 1 : Nat) : Int) := by rw [w64 (by omega) (by omega)]; rfl
    have hm := h.mono i j
    refine Ev.step (f := fun n => wringerlaw8_MergeLeast.l1 n a2 a3 f (k : Int) (lenL f k) (lenL f (k + 1)) (i : Int) ((j + 1 : Nat) : Int)) (fun n => ?_) (ih (j + 1) (by omega))
    simp only [wringerlaw8_MergeLeast.l1]
    rw [if_pos (by omega), if_pos (by omega), if_pos (by omega), if_pos (by omega), if_pos (by omega), rd_nat, rd_nat, rd_nat, rd_nat, w1]
    by_cases h3 : f.getD i 0 > f.getD j 0
    · rw [if_pos h3]
      by_cases h4 : f.getD j 0 > 0
      · have := hm h3 h4
        rw [if_pos h4, if_pos (by omega), if_pos (by omega), if_neg (by omega)]
      · rw [if_neg h4]
    · rw [if_neg h3]
theorem least_l0 : ∀ (d i : Nat), i + d = 65 → Ev (fun n => wringerlaw8_MergeLeast.l0 n a2 a3 f (k : Int) (lenL f k) (lenL f (k + 1)) (i : Int)) true := by
  have hl := length_lenL f k
  have hl2 := length_lenL f (k + 1)
  have hfl := hf.len
  have hhi := h2.hi
  intro d
  induction d with
  | zero =>
    intro i hi
    rw [show i = 65 by omega]
    exact least_end f k a2 a3 x y hf h h2 hx hy hx65 hy65
  | succ d ih =>
    intro i hi
    have hi65 : (i : Int) < ((65 : Nat) : Int) := by omega
    have hp := h.pos i
    have hp2 := (h2.pos i).2
    have w2 : wrap64 ((k : Int) + 1) = ((k + 1 : Nat) : Int) := by rw [w64 (by omega) (by omega)]; rfl
    have e : (decide ((lenL f k).getD i 0 > 0) != decide (f.getD i 0 > 0)) = false := by
      by_cases h3 : 0 < f.getD i 0
      · rw [decide_eq_true (show (lenL f k).getD i 0 > 0 from hp.1.2 h3), decide_eq_true (show f.getD i 0 > 0 from h3)]; rfl
      · rw [decide_eq_false (show ¬ (lenL f k).getD i 0 > 0 from fun h4 => h3 (hp.1.1 h4)), decide_eq_false (show ¬ f.getD i 0 > 0 from h3)]; rfl
    refine Ev.step (f := fun n => wringerlaw8_MergeLeast.j2 n a2 a3 f (k : Int) (lenL f k) (lenL f (k + 1)) (i : Int) false) (fun n => ?_) (Ev.step (f := fun n => wringerlaw8_MergeLeast.l1 n a2 a3 f (k : Int) (lenL f k) (lenL f (k + 1)) (i : Int) ((0 : Nat) : Int)) (fun n => ?_) (least_l1 f k a2 a3 x y hf h h2 hx hy hx65 hy65 i (by omega) (ih (i + 1) (by omega)) 65 0 (by omega)))
    · simp only [wringerlaw8_MergeLeast.l0]
      rw [if_pos (by omega), if_pos (by omega), if_pos (by omega), rd_nat, rd_nat, rd_nat, if_neg (Int.not_lt.2 hp.2.2), if_pos (by rw [hl2]; exact hi65), w2, if_neg (Int.not_lt.2 hp2.2), if_pos (by rw [hfl]; exact hi65), e]
    · simp only [wringerlaw8_MergeLeast.j2]
      rw [if_neg (by simp)]; rfl
end

theorem MergeLeast : wringerlaw8_MergeLeast.Pure := by
  intro l0 a1 a2 a3 _ _ hw ha1 ha2 ha3
  apply Ev.rounds
  unfold wringerlaw8_MergeLeast.f
  by_cases h0 : (l0.length : Int) > 140
  · exact Ev.ite_pos h0 (Ev.bind0 awake8 (Ev.now _))
  · refine Ev.ite_neg h0 ?_
    obtain ⟨f, hf, hok⟩ := freq_is l0 hw (by omega)
    simp only [Lit.wf, Bool.and_eq_true, decide_eq_true_eq] at ha1 ha2 ha3
    have b1 : IntKind.u8.min = 0 := rfl
    have b2 : IntKind.u8.max = 255 := rfl
    obtain ⟨u, hu⟩ : ∃ u : Nat, a1 = (u : Int) := ⟨a1.toNat, by omega⟩
    obtain ⟨v, hv⟩ : ∃ v : Nat, a2 = (v : Int) := ⟨a2.toNat, by omega⟩
    obtain ⟨z, hz⟩ : ∃ z : Nat, a3 = (z : Int) := ⟨a3.toNat, by omega⟩
    subst hu hv hz
    obtain ⟨m, hm⟩ : ∃ m, m = 7 + u % 8 := ⟨_, rfl⟩
    have hq : Dp.Fq f m := ⟨hok.len, fun x hx => by have := hok.each x hx; omega, by omega, by omega⟩
    have hq2 : Dp.Fq f (m + 1) := ⟨hok.len, fun x hx => by have := hok.each x hx; omega, by omega, by omega⟩
    have hmw : wrap64 (7 + Int.tmod (wrap64 (u : Int)) 8) = (m : Int) := by
      rw [w64 (x := (u : Int)) (by omega) (by omega), show Int.tmod (u : Int) 8 = ((u % 8 : Nat) : Int) from tmod_nat u 8, w64 (by omega) (by omega)]; omega
    have hmw1 : wrap64 ((m : Int) + 1) = ((m + 1 : Nat) : Int) := by rw [w64 (by omega) (by omega)]; rfl
    have hx : Int.tmod (wrap64 (v : Int)) 65 = ((v % 65 : Nat) : Int) := by rw [w64 (by omega) (by omega)]; exact tmod_nat v 65
    have hy : Int.tmod (wrap64 (z : Int)) 65 = ((z % 65 : Nat) : Int) := by rw [w64 (by omega) (by omega)]; exact tmod_nat z 65
    have hlE := lenE_ok hq
    have hlE2 := lenE_ok hq2
    rw [hmw, hmw1]
    have hl := hok.len
    have hM := rmay_is (lenL f m)
    have hM2 := rmay_is (lenL f (m + 1))
    rw [hq.may] at hM
    rw [hq2.may] at hM2
    refine Ev.bind hf (Ev.bind0 (a := (Dp.lenL f m, 0)) (by rw [mlen_f f _ (by omega), hlE]) (Ev.bind0 (a := (Dp.lenL f (m + 1), 0)) (by rw [mlen_f f _ (by omega), hlE2]) (Ev.bind0 (a := (0 : Int)) rfl (Ev.bind0 (a := (0 : Int)) rfl (Ev.ite_pos (by rw [w64 (by decide) (by decide)]; rfl) (Ev.ite_pos (by simp only [length_lenL]; rfl) (Ev.ite_pos (by simp only [length_lenL]; rfl) (Ev.bind hM (Ev.ite_pos rfl (Ev.bind hM2 ?_))))))))))
    refine Ev.step (f := fun n => wringerlaw8_MergeLeast.l0 n (v : Int) (z : Int) f (m : Int) (lenL f m) (lenL f (m + 1)) ((0 : Nat) : Int)) (fun n => ?_) (least_l0 f m (v : Int) (z : Int) (v % 65) (z % 65) hok hq hq2 hx hy (Nat.mod_lt _ (by decide)) (Nat.mod_lt _ (by decide)) 65 0 (by omega))
    simp only [wringerlaw8_MergeLeast.j0]
    rw [if_neg (by simp)]; rfl
end Go.Proofs.Ytejecpmfhgplmaa.Pure

-- ---- LawMergeLeast

namespace Go.Proofs.Ytejecpmfhgplmaa.mergeLeast
open Go.ChangeShapes Go.WideShapes Go.ChangeAt Go.RowKit
open Go.ChangeMaps (open_string shut_string)
set_option linter.unusedVariables false
theorem own : ownKnob Try.prog.godebug = none := by kernel_rfl
theorem laidOut : laidOutB Try.prog = true := by kernel_rfl
def IsRow (k : IntKind) (w : World) (a : Option Addr) (len cap : Nat) (zs : List Int) : Prop :=
  (a = none ∧ len = 0 ∧ cap = 0 ∧ zs = []) ∨
  ∃ x, a = some x ∧ len ≤ cap ∧ cap ≤ maxLen ∧ zs.length = cap ∧ (∀ i, i < zs.length → w.cell? (x.add i) = some (.int k (zs.getD i 0))) ∧ ∀ n ∈ zs, (Lit.int k n).wf = true
set_option maxRecDepth 100000 in
theorem lifted (os : Os) (started : os.Started) (H : Type) (enc : TypeId × Value → H) :
    ReturnsInHanded {} Try.checked os 5 .any (Rows.mergeLeastSpec.pre6 enc Try.prog Try.f5 Rows.mergeLeastRow.domain false) (Rows.mergeLeastSpec.post enc Try.prog Try.f5 false true false false) := by
  refine returnsInHanded_of_change_sized (C := Try.checked) own started (by kernel_rfl) Try.func5
    (ChangeSpec.witness6 (enc := enc) (C := Try.checked) false ⟨#[], #[.slice none 0 0, .int .u8 0, .int .u8 0, .int .u8 0], []⟩ 8 (by kernel_rfl) (by kernel_rfl) (by kernel_rfl) (by kernel_rfl)) ?_
  intro W base args ds gs before hval0 hW hcnd hsz0 _
  have hsz : (DataW.weightsEach Try.prog (Try.f5.params.toList ++ Rows.mergeLeastSpec.plain.varTypes Try.prog) (ds ++ gs)).all (· ≤ reachBytes) = true := hsz0
  have hval : ∀ (j : Nat) t v, Try.f5.params[j]? = some t → args[j]? = some v → Value.okWide Try.prog W .any base t v := hval0
  have hW' := hW
  obtain ⟨p, q, hA0, hV, rfl, hfz, hnd⟩ := hW
  have hA : DataW.TrodAll enc Try.prog W 0 (fun _ => true) true Try.f5.params.toList args.toList ds p := hA0
  rw [Try.params5] at hA hval hsz
  obtain ⟨v0, vs0, d0, ds0, p0, q0, hargs, rfl, rfl, h0, r0⟩ := trodAll_cons hA
  obtain ⟨v1, vs1, d1, ds1, p1, q1, rfl, rfl, rfl, h1, r1⟩ := trodAll_cons r0
  obtain ⟨v2, vs2, d2, ds2, p2, q2, rfl, rfl, rfl, h2, r2⟩ := trodAll_cons r1
  obtain ⟨v3, vs3, d3, ds3, p3, q3, rfl, rfl, rfl, h3, r3⟩ := trodAll_cons r2
  obtain ⟨rfl, rfl, rfl⟩ := trodAll_nil r3
  obtain rfl : args = #[v0, v1, v2, v3] := by cases args; simp_all
  obtain ⟨rfl, rfl⟩ := trodVars_none hV
  obtain ⟨a0, len0, cap0, rfl⟩ := okWide_slice Try.underlying34 (hval 0 34 v0 rfl rfl)
  have k0 := h0
  have lt0 : ∀ x ∈ p0, x.block < W.heap.size := by obtain ⟨m, hm⟩ := k0; exact DataW.trod_lt m _ _ _ hm
  obtain ⟨z0, w0⟩ : ∃ zs, IsRow .u16 W a0 len0 cap0 zs := by
    obtain ⟨fuel, hf⟩ := h0
    rcases open_ints Try.underlying34 Try.underlying41 (by kernel_rfl) hf with ⟨hcs, _⟩ | ⟨x, l, c, zs, hcs, _, hl, hm, hz, _, hcell, hwz⟩
    · simp [Value.cells] at hcs
      obtain ⟨rfl, rfl, rfl⟩ := hcs
      exact ⟨[], .inl ⟨rfl, rfl, rfl, rfl⟩⟩
    · simp [Value.cells] at hcs
      obtain ⟨rfl, rfl, rfl⟩ := hcs
      exact ⟨zs, .inr ⟨_, rfl, hl, hm, by simpa using hz, hcell, hwz⟩⟩
  have y0 : len0 * 2 ≤ 140737488351232 := Go.Proofs.YtejecpmfhgplmaaW.PrintWords.sized_ints hsz (j := 0) (t := 34) rfl rfl Try.underlying34 Try.underlying41 (by kernel_rfl) (by kernel_rfl) h0
  obtain ⟨a1, rfl, rfl, rfl, w1⟩ := open_int Try.underlying5 (hval 1 5 v1 rfl rfl) h1
  obtain ⟨a2, rfl, rfl, rfl, w2⟩ := open_int Try.underlying5 (hval 2 5 v2 rfl rfl) h2
  obtain ⟨a3, rfl, rfl, rfl, w3⟩ := open_int Try.underlying5 (hval 3 5 v3 rfl rfl) h3
  clear hA0 hval0 hsz0 hsz
  refine (PA.wringerlaw8_MergeLeast.walk Pure.MergeLeast a0 len0 cap0 z0 a1 a2 a3 W w0 y0 w1 w2 w3).mono fun e W' ⟨he, bel⟩ => ?_
  subst he
  exact ⟨_, rfl, _, _, _, [], _, [], hW', trodAll_mk1 (shut_bool Try.underlying4 _), (trodAll_cons_mk (Below.trod laidOut (by kernel_rfl) (of_decide_eq_true (by kernel_rfl)) k0 bel lt0) (trodAll_cons_mk (shut_int Try.underlying5 w1) (trodAll_cons_mk (shut_int Try.underlying5 w2) (trodAll_cons_mk (shut_int Try.underlying5 w3) trodAll_mk0)))), rfl, bel.frame _, fun h => by cases h⟩
theorem over : Rows.mergeLeastRow.holds Try.pinned (OpenSpec.ofChange Rows.mergeLeastSpec) :=
  OpenClaim.holds_of_wide 5 Try.f5 rfl rfl rfl rfl rfl rfl rfl ⟨rfl, rfl, rfl, rfl, rfl⟩ rfl rfl rfl rfl rfl (by kernel_rfl) Try.func5 (by kernel_rfl)
    (of_decide_eq_true (by kernel_rfl)) (by unfold Func.isWrapper; first | (rw [if_pos (by decide +kernel)]; kernel_rfl) | (rw [if_neg (by decide +kernel)]; exact ⟨rfl, rfl⟩))
    (fun os started H enc _ => lifted os started H enc)
theorem proved : Rows.MergeLeastSaid := over
#print axioms proved
end Go.Proofs.Ytejecpmfhgplmaa.mergeLeast
namespace Go.Proofs.Ytejecpmfhgplmaa
/-- The row, under a short name, for the claim. -/
theorem mergeLeast_holds : Rows.MergeLeastSaid := mergeLeast.proved
end Go.Proofs.Ytejecpmfhgplmaa
