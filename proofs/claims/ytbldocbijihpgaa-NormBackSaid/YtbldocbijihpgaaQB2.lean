/- Part B2 of what the layer's laws stand on: Nl, Nt, Nd, Ne, Nf, Ub, Ng, Ni, Vt, Sp, Np, Va, PAx0, PAx25, PAx30, PAx32, Ux, Nj, PAx3, PAx15, PAx18, PAx29, Um, Nk, Nm. Written by a program (merge.py) out of this session's own texts and of what the kit's print wrote over stand-ins (sp.py). Conditions: those that each theorem names. -/
import Derived.Test.YtbldocbijihpgaaQB1
import Derived.Test.YtbldocbijihpgaaWMore
import Derived.Test.YtbldocbijihpgaaWLast
import Derived.Shelf.Strings.BuilderK
import Derived.Test.YtbldocbijihpgaaProg
import Derived.WalkKit
import Derived.WalkSpells
import Derived.WalkLawsBesides
import Derived.BigQuiet
import Derived.BigCall
import Derived.Laws.Strings
import Derived.Lib.Hide
import Derived.OwnWalk
import Derived.Deep.DeepCutAuto
import Derived.Below
import Derived.Deep.Draws
import Derived.Deep.AppendLies
import Derived.Maps.AppendAt
import Derived.Laws.BytesArg
import Derived.Laws.MakeOwn
import Derived.Laws.OwnMore
import Derived.Deep.OwnRows
import Derived.Tactics
import Derived.Lib.ConvBytes
import Derived.Laws.Slices
import Derived.KernelRfl
import Derived.RowKit3
import Derived.Deep.LoopGhost
import Derived.Deep.QuietTactic
import Derived.WideLaws
import Derived.Deep.CutBlock
import Derived.Deep.RegionHeld3
import Derived.Laws.Rows
import Derived.Lib.AppendStr
import Derived.ArgAppend
import Derived.Laws.IdiomCopy
import Derived.OrdersHeld
import Derived.Laws.BitsLemmas
import Derived.RowKit
import Derived.Test.YtbldocbijihpgaaWWords
import Derived.Test.YtbldocbijihpgaaWTab
import Derived.Test.YtbldocbijihpgaaWFour
import Derived.Test.YtbldocbijihpgaaWQPut
import Derived.Test.YtbldocbijihpgaaWApart
import Derived.Test.YtbldocbijihpgaaWArr
import Derived.Test.YtbldocbijihpgaaWZeros
import Derived.Test.YtbldocbijihpgaaWFoot
import Derived.Test.YtbldocbijihpgaaWKept
import Derived.Test.YtbldocbijihpgaaWShare
import Derived.Test.YtbldocbijihpgaaWN
import Derived.Test.YtbldocbijihpgaaWFootNe
import Derived.Test.YtbldocbijihpgaaWAt
import Derived.Test.YtbldocbijihpgaaWEqStruct
import Derived.Test.YtbldocbijihpgaaWRepsOne
import Derived.Test.YtbldocbijihpgaaWInv
import Derived.Test.YtbldocbijihpgaaWInvWords
import Derived.Test.YtbldocbijihpgaaWGuard
import Derived.Test.YtbldocbijihpgaaWNEv
-- ---- Nl
/- Numbers of a sum, out of how often each comes: plain facts. No program in sight. -/
namespace Go.Proofs.Ytbldocbijihpgaa.Nl
set_option linter.unusedSimpArgs false
set_option linter.unusedVariables false
set_option linter.unusedSectionVars false
open Hp Ol

def bump (l : List Int) (k : Nat) (d : Int) : List Int := l.set k (l.getD k 0 + d)
theorem length_bump (l : List Int) (k : Nat) (d : Int) : (bump l k d).length = l.length := by simp [bump]
theorem getD_bump (l : List Int) (k : Nat) (d : Int) (i : Nat) (hk : k < l.length) : (bump l k d).getD i 0 = if i = k then l.getD k 0 + d else l.getD i 0 := by
  unfold bump
  by_cases h : i = k
  · subst h; rw [if_pos rfl]; simp [List.getD_eq_getElem?_getD, hk]
  · rw [if_neg h]; simp only [List.getD_eq_getElem?_getD]; rw [List.getElem?_set_ne (Ne.symm h)]
theorem sum_set (l : List Int) : ∀ (k : Nat) (v : Int), k < l.length → (l.set k v).sum = l.sum - l.getD k 0 + v := by
  induction l with
  | nil => intro k v h; simp at h
  | cons a t ih =>
    intro k v h
    cases k with
    | zero => simp; omega
    | succ k =>
      have := ih k v (by simpa using h)
      simp only [List.set_cons_succ, List.sum_cons, this]
      have e : (a :: t).getD (k + 1) 0 = t.getD k 0 := by simp
      rw [e]; omega
theorem sum_bump (l : List Int) (k : Nat) (d : Int) (h : k < l.length) : (bump l k d).sum = l.sum + d := by
  unfold bump; rw [sum_set l k _ h]; omega

def share (size all n : Int) : Int := if 0 < n then max 1 (n * size / all) else 0
def shares (f : List Int) (size all : Int) : List Int := f.map (share size all)
def decTop : Nat → List Int → List Int
  | 0, l => l
  | m + 1, l => decTop m (bump l ((ordL l).headD 0) (-1))
def normL (f : List Int) (size : Int) : List Int :=
  if (shares f size f.sum).sum ≤ size then bump (shares f size f.sum) ((ordL f).headD 0) (size - (shares f size f.sum).sum) else decTop ((shares f size f.sum).sum - size).toNat (shares f size f.sum)

theorem getD_shares (f : List Int) (size all : Int) (i : Nat) (h : i < f.length) : (shares f size all).getD i 0 = share size all (f.getD i 0) := by
  simp [shares, List.getD_eq_getElem?_getD, h]
theorem length_shares (f : List Int) (size all : Int) : (shares f size all).length = f.length := by simp [shares]
theorem share_nonneg (size all n : Int) : 0 ≤ share size all n := by unfold share; split <;> omega
theorem share_pos (size all n : Int) : 0 < share size all n ↔ 0 < n := by
  unfold share
  split
  · rename_i h; exact ⟨fun _ => h, fun _ => by omega⟩
  · rename_i h; exact ⟨fun h2 => by omega, fun h2 => absurd h2 h⟩
theorem share_le (size all n : Int) (hs : 1 ≤ size) (ha : 0 < all) (hn : n ≤ all) : share size all n ≤ size := by
  unfold share
  split
  · rename_i h
    have h1 : n * size ≤ all * size := Int.mul_le_mul_of_nonneg_right hn (by omega)
    have h2 : n * size / all ≤ size := by
      have := Int.ediv_le_ediv ha h1
      rwa [Int.mul_ediv_cancel_left _ (by omega)] at this
    omega
  · omega
theorem share_mono (size all a b : Int) (hs : 1 ≤ size) (ha : 0 < all) (h : a ≤ b) : share size all a ≤ share size all b := by
  unfold share
  split
  · rw [if_pos (by omega)]
    have h1 : a * size ≤ b * size := Int.mul_le_mul_of_nonneg_right h (by omega)
    have := Int.ediv_le_ediv ha h1
    omega
  · split <;> omega

theorem sum_nonneg (l : List Int) (h : ∀ x ∈ l, 0 ≤ x) : 0 ≤ l.sum := by
  induction l with
  | nil => simp
  | cons a t ih => have := ih fun x hx => h x (List.mem_cons_of_mem _ hx); have := h a (by simp); simp; omega
theorem le_sum (l : List Int) (h : ∀ x ∈ l, 0 ≤ x) : ∀ x ∈ l, x ≤ l.sum := by
  induction l with
  | nil => simp
  | cons a t ih =>
    intro x hx
    have h0 := sum_nonneg t fun x hx => h x (List.mem_cons_of_mem _ hx)
    have h1 := h a (by simp)
    simp only [List.sum_cons]
    rcases List.mem_cons.1 hx with rfl | hx
    · omega
    · have := ih (fun x hx => h x (List.mem_cons_of_mem _ hx)) x hx; omega
theorem sum_le_max (l : List Int) (m : Int) (h : ∀ x ∈ l, x ≤ m) : l.sum ≤ m * l.length := by
  induction l with
  | nil => simp
  | cons a t ih =>
    have h1 := ih fun x hx => h x (List.mem_cons_of_mem _ hx)
    have h2 := h a (by simp)
    simp only [List.sum_cons, List.length_cons]
    have e : m * ((t.length + 1 : Nat) : Int) = m * (t.length : Int) + m := by rw [Int.natCast_add, Int.mul_add]; simp
    rw [e]; omega
theorem mem_getD {l : List Int} {x : Int} (h : x ∈ l) : ∃ i, i < l.length ∧ l.getD i 0 = x := by
  obtain ⟨i, hi, rfl⟩ := List.mem_iff_getElem.1 h
  exact ⟨i, hi, by simp [List.getD_eq_getElem?_getD, hi]⟩
theorem getD_mem {l : List Int} {i : Nat} (h : i < l.length) : l.getD i 0 ∈ l := by
  rw [List.getD_eq_getElem?_getD, List.getElem?_eq_getElem h]; exact List.getElem_mem _

/-- Where one number at least is greater than 1: the greatest is, and one is taken from it. -/
structure Top (l : List Int) (k : Nat) : Prop where
  lt : k < l.length
  two : 2 ≤ l.getD k 0
  max : ∀ i, i < l.length → l.getD i 0 ≤ l.getD k 0
  least : ∀ i, i < l.length → l.getD i 0 = l.getD k 0 → k ≤ i
theorem top_of {l : List Int} (h : (l.length : Int) < l.sum) : Top l ((ordL l).headD 0) ∧ ∃ t, ordL l = (ordL l).headD 0 :: t := by
  have h2 : ∃ x ∈ l, 2 ≤ x := by
    apply Classical.byContradiction
    intro hno
    have := sum_le_max l 1 fun x hx => by
      have : ¬ 2 ≤ x := fun h2 => hno ⟨x, hx, h2⟩
      omega
    omega
  obtain ⟨x, hx, hx2⟩ := h2
  obtain ⟨i, hi, rfl⟩ := mem_getD hx
  obtain ⟨k, t, hk⟩ := ordL_cons (f := l) ⟨i, hi, by omega⟩
  obtain ⟨a, b, c⟩ := ordL_head hk
  rw [hk]
  exact ⟨⟨a, by have := (c i hi).1; simp only [List.headD_cons]; omega, fun j hj => (c j hj).1, fun j hj => (c j hj).2⟩, t, rfl⟩

/-- What every step keeps. -/
structure Ok (f l : List Int) : Prop where
  len : l.length = f.length
  pos : ∀ i, i < f.length → (0 < l.getD i 0 ↔ 0 < f.getD i 0)
  nn : ∀ i, i < f.length → 0 ≤ l.getD i 0
  mono : ∀ i j, i < f.length → j < f.length → f.getD j 0 < f.getD i 0 → l.getD j 0 ≤ l.getD i 0 + 1
theorem Ok.step {f l : List Int} (h : Ok f l) {k : Nat} (ht : Top l k) : Ok f (bump l k (-1)) := by
  have hk := ht.lt
  have h2 := ht.two
  have G := fun i => getD_bump l k (-1) i hk
  refine ⟨by rw [length_bump]; exact h.len, fun i hi => ?_, fun i hi => ?_, fun i j hi hj hf => ?_⟩
  · rw [G i]
    have := h.pos i hi
    split
    · subst i; constructor
      · intro _; exact this.1 (by omega)
      · intro _; omega
    · exact this
  · rw [G i]; have := h.nn i hi; split <;> omega
  · rw [G i, G j]
    have := h.mono i j hi hj hf
    have hm := ht.max j (by rw [h.len]; exact hj)
    split <;> split <;> (try subst i) <;> (try subst j) <;> omega
theorem decTop_ok {f : List Int} : ∀ (m : Nat) (l : List Int), Ok f l → (f.length : Int) + (m : Int) ≤ l.sum → Ok f (decTop m l) ∧ (decTop m l).sum = l.sum - m := by
  intro m
  induction m with
  | zero => intro l h _; exact ⟨h, by simp [decTop]⟩
  | succ m ih =>
    intro l h hs
    obtain ⟨ht, _⟩ := top_of (l := l) (by rw [h.len]; omega)
    have h1 := h.step ht
    have h2 := sum_bump l ((ordL l).headD 0) (-1) ht.lt
    obtain ⟨a, b⟩ := ih _ h1 (by omega)
    unfold decTop
    exact ⟨a, by omega⟩

theorem bump_zero (l : List Int) (k : Nat) : bump l k 0 = l := by
  by_cases h : k < l.length
  · unfold bump
    rw [Int.add_zero]
    have e : l.getD k 0 = l[k] := by simp [List.getD_eq_getElem?_getD, h]
    rw [e]; exact List.set_getElem_self h
  · unfold bump; exact List.set_eq_of_length_le (by omega)
theorem decTop_succ : ∀ (m : Nat) (l : List Int), decTop (m + 1) l = bump (decTop m l) ((ordL (decTop m l)).headD 0) (-1) := by
  intro m
  induction m with
  | zero => intro l; rfl
  | succ m ih => intro l; show decTop (m + 1) _ = _; rw [ih]; rfl

/-- Frequencies that may be asked. -/
structure Fr (f : List Int) : Prop where
  len : f.length = 65
  nn : ∀ x ∈ f, 0 ≤ x
  le : ∀ x ∈ f, x ≤ 16777216
  pos : 0 < f.sum
theorem Fr.le_all {f : List Int} (h : Fr f) : ∀ x ∈ f, x ≤ f.sum := le_sum f h.nn
theorem Fr.some {f : List Int} (h : Fr f) : ∃ i, i < f.length ∧ 0 < f.getD i 0 := by
  apply Classical.byContradiction
  intro hno
  have := sum_le_max f 0 fun x hx => by
    obtain ⟨i, hi, rfl⟩ := mem_getD hx
    have : ¬ 0 < f.getD i 0 := fun h2 => hno ⟨i, hi, h2⟩
    omega
  have := h.pos
  omega
theorem Fr.sum_le {f : List Int} (h : Fr f) : f.sum ≤ 1090519040 := by
  have := sum_le_max f 16777216 h.le
  rw [h.len] at this
  omega
theorem Fr.shares_ok {f : List Int} (h : Fr f) {size : Int} (hs : 1 ≤ size) : Ok f (shares f size f.sum) := by
  refine ⟨length_shares .., fun i hi => ?_, fun i hi => ?_, fun i j hi hj hf => ?_⟩
  · rw [getD_shares f _ _ i hi]; exact share_pos ..
  · rw [getD_shares f _ _ i hi]; exact share_nonneg ..
  · rw [getD_shares f _ _ i hi, getD_shares f _ _ j hj]
    have := share_mono size f.sum _ _ hs h.pos (Int.le_of_lt hf)
    omega
theorem Fr.share_le {f : List Int} (h : Fr f) {size : Int} (hs : 1 ≤ size) {x : Int} (hx : x ∈ f) : 0 ≤ share size f.sum x ∧ share size f.sum x ≤ size :=
  ⟨share_nonneg .., Nl.share_le _ _ _ hs h.pos (h.le_all x hx)⟩
theorem Fr.shares_sum {f : List Int} (h : Fr f) {size : Int} (hs : 1 ≤ size) : 0 ≤ (shares f size f.sum).sum ∧ (shares f size f.sum).sum ≤ size * 65 := by
  constructor
  · apply sum_nonneg
    intro x hx
    obtain ⟨n, hn, rfl⟩ := List.mem_map.1 hx
    exact (h.share_le hs hn).1
  · have := sum_le_max (shares f size f.sum) size fun x hx => by
      obtain ⟨n, hn, rfl⟩ := List.mem_map.1 hx
      exact (h.share_le hs hn).2
    rw [length_shares, h.len] at this
    exact this
theorem Fr.head {f : List Int} (h : Fr f) : ∃ t, ordL f = (ordL f).headD 0 :: t ∧ (ordL f).headD 0 < 65 := by
  obtain ⟨k, t, hk⟩ := ordL_cons h.some
  have := (ordL_head hk).1
  rw [h.len] at this
  rw [hk]; exact ⟨t, rfl, this⟩

theorem Fr.norm {f : List Int} (h : Fr f) {size : Int} (hs : 66 ≤ size) : Ok f (normL f size) ∧ (normL f size).sum = size := by
  have ho := h.shares_ok (size := size) (by omega)
  unfold normL
  by_cases hle : (shares f size f.sum).sum ≤ size
  · rw [if_pos hle]
    obtain ⟨t, hk, hlt⟩ := h.head
    generalize hK : (ordL f).headD 0 = k at hk hlt
    obtain ⟨k1, k2, k3⟩ := ordL_head hk
    have hkl : k < (shares f size f.sum).length := by rw [length_shares]; exact k1
    refine ⟨⟨by rw [length_bump]; exact ho.len, fun i hi => ?_, fun i hi => ?_, fun i j hi hj hf => ?_⟩, by rw [sum_bump _ _ _ hkl]; omega⟩
    · rw [getD_bump _ _ _ _ hkl]
      have := ho.pos i hi
      split
      · subst i
        constructor
        · intro _; exact k2
        · intro _; have := this.2 k2; omega
      · exact this
    · rw [getD_bump _ _ _ _ hkl]; have := ho.nn i hi; split
      · subst i; omega
      · exact this
    · rw [getD_bump _ _ _ _ hkl, getD_bump _ _ _ _ hkl]
      have h1 := ho.mono i j hi hj hf
      have h2 := (k3 i hi).1
      split
      · subst j; omega
      · split
        · subst i; omega
        · exact h1
  · rw [if_neg hle]
    obtain ⟨a, b⟩ := decTop_ok (f := f) ((shares f size f.sum).sum - size).toNat _ ho (by rw [h.len]; omega)
    exact ⟨a, by omega⟩
theorem Fr.norm_len {f : List Int} (h : Fr f) {size : Int} (hs : 66 ≤ size) : (normL f size).length = 65 := by rw [(h.norm hs).1.len, h.len]
theorem Fr.norm_at {f : List Int} (h : Fr f) {size : Int} (hs : 66 ≤ size) : ∀ x ∈ normL f size, 0 ≤ x ∧ x ≤ size := by
  obtain ⟨ho, hsum⟩ := h.norm hs
  have hn : ∀ x ∈ normL f size, 0 ≤ x := fun x hx => by
    obtain ⟨i, hi, rfl⟩ := mem_getD hx
    exact ho.nn i (by rw [← ho.len]; exact hi)
  exact fun x hx => ⟨hn x hx, by have := le_sum _ hn x hx; omega⟩
/-- Which may be asked. -/
def frB (f : List Int) : Bool := decide (f.length = 65 ∧ (∀ x ∈ f, 0 ≤ x ∧ x ≤ 16777216) ∧ 0 < f.sum)
theorem frB_iff (f : List Int) : frB f = true ↔ Fr f := by
  unfold frB; rw [decide_eq_true_eq]
  exact ⟨fun ⟨a, b, c⟩ => ⟨a, fun x hx => (b x hx).1, fun x hx => (b x hx).2, c⟩, fun h => ⟨h.len, fun x hx => ⟨h.nn x hx, h.le x hx⟩, h.pos⟩⟩
/-- The shares of the first i, nought for the others. -/
def shN (f : List Int) (size all : Int) (i : Nat) : List Int := ((f.take i).map (share size all)) ++ List.replicate (f.length - i) 0
theorem shN_zero (f : List Int) (size all : Int) : shN f size all 0 = List.replicate f.length 0 := by simp [shN]
theorem shN_all (f : List Int) (size all : Int) : shN f size all f.length = shares f size all := by simp [shN, shares]
theorem length_shN (f : List Int) (size all : Int) (i : Nat) (h : i ≤ f.length) : (shN f size all i).length = f.length := by simp [shN]; omega
theorem shN_succ (f : List Int) (size all : Int) (i : Nat) (h : i < f.length) : shN f size all (i + 1) = (shN f size all i).set i (share size all (f.getD i 0)) := by
  unfold shN
  have e : f.length - i = (f.length - (i + 1)) + 1 := by omega
  have e2 : f.getD i 0 = f[i] := by simp [List.getD_eq_getElem?_getD, h]
  have hl : ((f.take i).map (share size all)).length = i := by simp; omega
  rw [List.take_succ_eq_append_getElem h, List.map_append, e, List.replicate_succ, e2]
  rw [List.set_append_right _ _ (by omega), hl, Nat.sub_self, List.set_cons_zero, List.append_assoc]; rfl
theorem shN_at (f : List Int) (size all : Int) (i : Nat) (h : i < f.length) : (shN f size all i).getD i 0 = 0 := by
  unfold shN
  have hl : ((f.take i).map (share size all)).length = i := by simp; omega
  rw [List.getD_eq_getElem?_getD, List.getElem?_append_right (by omega), hl, Nat.sub_self, List.getElem?_replicate, if_pos (by omega)]; rfl
theorem shN_same (f : List Int) (size all : Int) (i : Nat) (h : i < f.length) (h0 : ¬ 0 < f.getD i 0) : shN f size all (i + 1) = shN f size all i := by
  rw [shN_succ f size all i h]
  have hs : share size all (f.getD i 0) = 0 := by unfold share; rw [if_neg h0]
  rw [hs]
  have := bump_zero (shN f size all i) i
  unfold bump at this
  rwa [shN_at f size all i h, Int.add_zero] at this
theorem sum_shN (f : List Int) (size all : Int) (i : Nat) (h : i < f.length) : (shN f size all (i + 1)).sum = (shN f size all i).sum + share size all (f.getD i 0) := by
  rw [shN_succ f size all i h, sum_set _ _ _ (by rw [length_shN _ _ _ _ (by omega)]; exact h), shN_at f size all i h]; omega
theorem take_sum (f : List Int) (i : Nat) (h : i < f.length) : (f.take (i + 1)).sum = (f.take i).sum + f.getD i 0 := by
  rw [List.take_succ_eq_append_getElem h, List.sum_append]
  simp [List.getD_eq_getElem?_getD, h]
theorem Fr.take_sum {f : List Int} (h : Fr f) (i : Nat) : 0 ≤ (f.take i).sum ∧ (f.take i).sum ≤ 1090519040 := by
  have h1 := sum_nonneg (f.take i) fun x hx => h.nn x (List.mem_of_mem_take hx)
  have h2 := sum_nonneg (f.drop i) fun x hx => h.nn x (List.mem_of_mem_drop hx)
  have h3 : f.sum = (f.take i).sum + (f.drop i).sum := by rw [← List.sum_append, List.take_append_drop]
  have := h.sum_le
  omega
theorem Fr.shN_sum {f : List Int} (h : Fr f) {size : Int} (hs : 1 ≤ size) : ∀ i, i ≤ f.length → 0 ≤ (shN f size f.sum i).sum ∧ (shN f size f.sum i).sum ≤ size * (i : Int) := by
  intro i
  induction i with
  | zero => intro _; rw [shN_zero]; simp
  | succ i ih =>
    intro hi
    have := ih (by omega)
    rw [sum_shN f size f.sum i (by omega)]
    have h2 := h.share_le hs (getD_mem (show i < f.length by omega))
    have e : size * ((i + 1 : Nat) : Int) = size * (i : Int) + size := by rw [Int.natCast_add, Int.mul_add]; simp
    rw [e]; omega
end Go.Proofs.Ytbldocbijihpgaa.Nl

-- ---- Nt
/- One is taken from the greatest, by a heap: plain facts. No program in sight. -/
namespace Go.Proofs.Ytbldocbijihpgaa.Nl
set_option linter.unusedSimpArgs false
set_option linter.unusedVariables false
open Ol Hp

theorem mem_at {α : Type} [Inhabited α] {l : List α} {x : α} (h : x ∈ l) : ∃ i, i < l.length ∧ at_ l i = x := by
  obtain ⟨i, hi, rfl⟩ := List.getElem_of_mem h
  exact ⟨i, hi, at_lt l i hi⟩
theorem top_pair {d : List Int} {k n : Nat} (ht : Top d k) {lh : List (Int × Int)} (hn : d.length = n) (hl : lh.length = n) (hp : lh.Perm ((List.range n).map (pr d))) (hh : Heap ltG lh n) : at_ lh 0 = pr d k := by
  have hk : k < n := by rw [← hn]; exact ht.lt
  obtain ⟨i, hi, e⟩ := mem_at (hp.mem_iff.2 (List.mem_map.2 ⟨k, List.mem_range.2 hk, rfl⟩))
  have h1 := heap_min oG hh i (by omega)
  rw [e] at h1
  have h0 : at_ lh 0 ∈ lh := by rw [at_lt lh 0 (by omega)]; exact List.getElem_mem _
  obtain ⟨j, hj, e2⟩ := List.mem_map.1 (hp.mem_iff.1 h0)
  have hj := List.mem_range.1 hj
  rw [← e2] at h1 ⊢
  refine oG.tot _ _ ?_ h1
  have h3 := ht.max j (by omega)
  have h4 := ht.least j (by omega)
  unfold ltG pr
  rw [decide_eq_false_iff_not]
  simp only
  rintro (h | ⟨h, h5⟩)
  · omega
  · have := h4 h; omega
theorem down0 {lh : List (Int × Int)} {n : Nat} (hh : Heap ltG lh n) (x : Int × Int) : DownInv ltG (lh.set 0 x) n 0 := by
  have e : ∀ i, i ≠ 0 → at_ (lh.set 0 x) i = at_ lh i := fun i hi => by unfold at_; simp only [List.getD_eq_getElem?_getD, List.getElem?_set_ne (fun h => hi h.symm)]
  refine ⟨fun i h0 hi hp => ?_, fun i h => absurd h (Nat.lt_irrefl 0)⟩
  rw [e i (by omega), e (par i) hp]
  exact hh i h0 hi
theorem perm_set0 {lh : List (Int × Int)} {d : List Int} {k n : Nat} (hk : k < n) (hd : d.length = n) (hl : lh.length = n) (hp : lh.Perm ((List.range n).map (pr d))) (h0 : at_ lh 0 = pr d k) :
    (lh.set 0 ((k : Int), d.getD k 0 - 1)).Perm ((List.range n).map (pr (bump d k (-1)))) := by
  cases lh with
  | nil => simp at hl; omega
  | cons y t =>
    have hy : y = pr d k := h0
    subst hy
    have hr : (List.range n).Perm (k :: (List.range n).erase k) := List.perm_cons_erase (List.mem_range.2 hk)
    have h1 := hp.trans (hr.map (pr d))
    rw [List.map_cons] at h1
    have h2 := h1.cons_inv
    have h3 := hr.map (pr (bump d k (-1)))
    rw [List.map_cons] at h3
    have e1 : pr (bump d k (-1)) k = ((k : Int), d.getD k 0 - 1) := by
      unfold pr; rw [getD_bump d k (-1) k (by omega), if_pos rfl]; rfl
    rw [e1] at h3
    have e2 : ((List.range n).erase k).map (pr (bump d k (-1))) = ((List.range n).erase k).map (pr d) := by
      refine List.map_congr_left fun c hc => ?_
      have hne : c ≠ k := ((List.Nodup.mem_erase_iff List.nodup_range).1 hc).1
      unfold pr; rw [getD_bump d k (-1) c (by omega), if_neg hne]
    rw [e2] at h3
    exact (List.Perm.cons _ h2).trans h3.symm
end Go.Proofs.Ytbldocbijihpgaa.Nl

-- ---- Nd
/- norm.taken: ones taken away, each from the greatest, by a heap. -/
namespace Go.Proofs.Ytbldocbijihpgaa.NormH
set_option linter.unusedSimpArgs false
set_option linter.unusedVariables false
open Go.RowKit Mix _root_.Go.Proofs.Ytbldocbijihpgaa.Own Ol Hp Nl
attribute [local go_sem] Own.max_int Own.min_int

/-- What holds on the way: the heap's own memory lies behind B. -/
structure HpT (B : Nat) (w wr : World) (p : Nat) (v : Value) (lh : List (Int × Int)) : Prop where
  hp : IsHp wr p v lh
  heap : Heap ltG lh lh.length
  newp : B ≤ p
  new : ∀ g, v.ownBlock = some g → B ≤ g
  low : Below B w wr

set_option maxHeartbeats 8000000 in
theorem taken_calls (gl n c m : Nat) (f0 cur : List Int) (w : World) (hO : Owns w 3 (.slice (some ⟨gl, 0, none⟩) n c) (ints .i64 cur)) (hcl : cur.length = n) (hOk : Ok f0 cur) (hs : (n : Int) + (m : Int) ≤ cur.sum) (hS : cur.sum ≤ 1000000000) (hn0 : 0 < n) (hn : n ≤ 100000) :
    Calls Try.prog 26 #[.slice (some ⟨gl, 0, none⟩) n c, .int .i64 (m : Int)] w fun e w' => e = .returned (.tuple #[]) ∧ Owns w' 3 (.slice (some ⟨gl, 0, none⟩) n c) (ints .i64 (decTop m cur)) ∧ Chg (fun b => b = gl) w w' := by
  have HO := kept hO
  have HL := kept hcl
  have HOk := kept hOk
  have HSm := kept hs
  have HSb := kept hS
  have hlt0 := hO.lt gl rfl
  have hm9 : m ≤ 1000000000 := by omega
  obtain ⟨B, hB⟩ : ∃ B, B = w.heap.size := ⟨_, rfl⟩
  rw [← hB] at hlt0
  have HB := kept hB
  have HGl := kept hlt0
  clear hO hcl hOk hs hS hB hlt0
  go_enter Try.func26, Try.ntmps26
  go_wp2_with fail
  obtain ⟨p, hp⟩ : ∃ p, p = w.heap.size + 1 := ⟨_, rfl⟩
  rw [← hp]
  generalize hw0 : World.alloc (World.alloc w _) _ = w0
  have hS0 : HpT B w w0 p (.slice (some ⟨w.heap.size, 0, none⟩) 0 0) [] := by
    have e1 : (w.alloc (.cells #[] 86)).heap.size = p := by rw [hp]; simp
    refine ⟨⟨by rw [← hw0]; exact Blk.fresh_at _ p e1.symm _ _, rfl, .inr ⟨w.heap.size, 0, #[], rfl, Nat.zero_le _, by rw [← hw0]; exact (Blk.fresh w _ _).alloc _, Nat.le_refl _, by simp [maxLen], rfl, rfl⟩⟩, fun i _ h => absurd h (by simp), by rw [HB.out, hp]; omega, fun g hg => ?_, ?_⟩
    · simp [Value.ownBlock] at hg; rw [HB.out, hg]; exact Nat.le_refl _
    · rw [← hw0, HB.out]; exact ((Below.refl _ _).alloc (Nat.le_refl _) _).alloc (by rw [e1, hp]; omega) _
  have HS0 := kept hS0
  have HpK := kept hp
  clear hS0 hp hw0
  go_loopw [12] (fun s12 wr => ∃ (i : Nat) (v : Value) (lh : List (Int × Int)), i ≤ n ∧ s12 = .int .i64 (i : Int) ∧ HpT B w wr p v lh ∧ lh.Perm ((List.range i).map (pr cur))) (fun s12 _ => n - (intOf s12).toNat)
  case atStart => exact ⟨0, _, [], Nat.zero_le _, rfl, HS0.out, List.Perm.refl _⟩
  case round =>
    obtain ⟨i, v, lh, hi2, rfl, hs, hpm⟩ := hrel
    obtain ⟨wo, rfl⟩ : ∃ wo, wo = wr := ⟨wr, rfl⟩
    have hlow := hs.low
    have hlen : lh.length = i := by have := hpm.length_eq; rw [List.length_map, List.length_range] at this; exact this
    have hOw : Owns wo 3 (.slice (some ⟨gl, 0, none⟩) n c) (ints .i64 cur) := HO.out.keep fun g hg hl => hlow.block g (by rw [HB.out]; exact hl)
    by_cases hlt : i < n
    · have hil : i < cur.length := by rw [HL.out]; exact hlt
      have hc := hOw.cell (Own.ints_at .i64 cur i hil)
      obtain ⟨y, hy⟩ : ∃ y, y = cur.getD i 0 := ⟨_, rfl⟩
      rw [← hy] at hc
      have HS := kept hs
      have HPm := kept hpm
      have HY := kept hy
      have HPush := kept (hpush_calls p v lh (i : Int) y wo hs.hp (by omega) hs.heap)
      clear hs hpm hy hlow hOw
      go_wp2_with fail
      refine HPush.out.mono ?_
      rintro e w1 ⟨rfl, v1, l1, h1, hh1, hp1, hc1, hf1⟩
      have HS1 : Kept (HpT B w w1 p v1 l1) := kept ⟨h1, hh1, HS.out.newp, fun g hg => (hf1 g hg).elim (fun h => HS.out.new g h.symm) (fun h => Nat.le_trans (HB.out ▸ HS.out.low.size) h), HS.out.low.trans (hc1.below (HB.out ▸ HS.out.low.size) (fun k hk h => by
        rcases h with h | h
        · have := HS.out.newp; omega
        · have := HS.out.new k h.symm; omega))⟩
      have HPm1 : Kept (l1.Perm ((List.range (i + 1)).map (pr cur))) := kept (by
        rw [List.range_succ, List.map_append]
        refine hp1.trans (HPm.out.append ?_)
        simp only [List.map_cons, List.map_nil, pr]; rw [← HY.out])
      clear h1 hh1 hp1 hc1 hf1
      go_wp2_with fail
      go_roundw
      case rel => exact ⟨i + 1, v1, l1, by omega, by go_num, HS1.out, HPm1.out⟩
      case measure => simp [intOf]; omega
    · have hin : i = n := by omega
      subst hin
      obtain ⟨g, cap, rfl, hnc, hcm, hgp, hgl⟩ := hs.hp.row0 (by omega)
      rw [hlen] at hs hnc
      have hheap : Heap ltG lh i := by have := hs.heap; rw [hlen] at this; exact this
      have hgB : B ≤ g := hs.new g rfl
      have hpB : B ≤ p := hs.newp
      have hne1 : gl ≠ g := by have := HGl.out; omega
      have hne2 : g ≠ gl := fun h => hne1 h.symm
      have hne3 : p ≠ gl := by have := HGl.out; omega
      have hne4 : gl ≠ p := fun h => hne3 h.symm
      have HSt : Kept (IsHp wo p (.slice (some ⟨g, 0, none⟩) i cap) lh ∧ lh.length = i ∧ Heap ltG lh i ∧ lh.Perm ((List.range i).map (pr (decTop 0 cur))) ∧ Owns wo 3 (.slice (some ⟨gl, 0, none⟩) i c) (ints .i64 (decTop 0 cur)) ∧ Chg (fun b => b = gl) w wo) := kept ⟨hs.hp, hlen, hheap, hpm, hOw, Chg.of_below (HB.out ▸ hlow)⟩
      clear hs hpm hlow hOw hheap
      go_wp2_with fail
      go_loopw [26] (fun s26 wq => ∃ (j : Nat) (l2 : List (Int × Int)), j ≤ m ∧ s26 = .int .i64 (j : Int) ∧ IsHp wq p (.slice (some ⟨g, 0, none⟩) i cap) l2 ∧ l2.length = i ∧ Heap ltG l2 i ∧ l2.Perm ((List.range i).map (pr (decTop j cur))) ∧ Owns wq 3 (.slice (some ⟨gl, 0, none⟩) i c) (ints .i64 (decTop j cur)) ∧ Chg (fun b => b = gl) w wq) (fun s26 _ => m - (intOf s26).toNat)
      case atStart => exact ⟨0, lh, Nat.zero_le _, rfl, HSt.out⟩
      case round =>
        obtain ⟨j, l2, hj2, rfl, h1, h2, h3, h4, h5, h6⟩ := hrel
        obtain ⟨wq, rfl⟩ : ∃ wq, wq = wr := ⟨wr, rfl⟩
        have hle : j ≤ m := hj2
        by_cases hjm : j < m
        · obtain ⟨hok, hsum⟩ := decTop_ok j cur HOk.out (by have := HOk.out.len; have := HL.out; have := HSm.out; omega)
          have hsn := decTop_succ j cur
          obtain ⟨d, hd⟩ : ∃ d, d = decTop j cur := ⟨_, rfl⟩
          rw [← hd] at h4 h5 hok hsum hsn
          have hdl : d.length = i := by rw [hok.len, ← HOk.out.len, HL.out]
          obtain ⟨ht, _⟩ := top_of (l := d) (by rw [hdl, hsum]; have := HSm.out; omega)
          obtain ⟨k, hk⟩ : ∃ k, k = (ordL d).headD 0 := ⟨_, rfl⟩
          rw [← hk] at ht hsn
          have hat := top_pair ht hdl h2 h4 h3
          have hkn : k < i := by rw [← hdl]; exact ht.lt
          obtain ⟨y, hy⟩ : ∃ y, y = d.getD k 0 := ⟨_, rfl⟩
          have hy2 : 2 ≤ y := by rw [hy]; exact ht.two
          have hyS : y ≤ 1000000000 := by
            have h := le_sum d (fun x hx => by
              obtain ⟨q, hq, rfl⟩ := mem_getD hx
              exact hok.nn q (by rw [← hok.len]; exact hq)) (d.getD k 0) (getD_mem ht.lt)
            have := HSb.out
            rw [hy]; omega
          have cp : wq.cell? ⟨p, 0, none⟩ = some (.slice (some ⟨g, 0, none⟩) i cap) := h1.blk.cell rfl
          have hrow : OwnK wq 86 2 (.slice (some ⟨g, 0, none⟩) i cap) i (fl l2) := by have := h1.row; rw [h2] at this; exact this
          obtain ⟨c1, c2⟩ := fl_at l2 0 (by omega)
          rw [hat] at c1 c2
          have c1 : wq.cell? ⟨g, 0, none⟩ = some (.int .i64 (k : Int)) := hrow.cell c1
          have c2 : wq.cell? ⟨g, 1, none⟩ = some (.int .i64 y) := by rw [hy]; exact hrow.cell c2
          have c3 : wq.cell? ⟨gl, k, none⟩ = some (.int .i64 y) := by rw [hy]; exact h5.cell (Own.ints_at .i64 d k (by omega))
          have f1 := hrow.free 1
          have f2 := h5.free k
          obtain ⟨W, hW⟩ : ∃ W, W = (wq.setCell ⟨g, 1, none⟩ (.int .i64 (y - 1))).setCell ⟨gl, k, none⟩ (.int .i64 (y - 1)) := ⟨_, rfl⟩
          have hl2 : fl (l2.set 0 ((k : Int), y - 1)) = (fl l2).set 1 (.int .i64 (y - 1)) := by
            rw [fl_set l2 0 _ (by omega)]
            have e0 : (fl l2).set (0 * 2) (.int .i64 (k : Int)) = fl l2 := by
              have h := (fl_at l2 0 (by omega)).1
              rw [hat] at h
              obtain ⟨hlt, e⟩ := List.getElem?_eq_some_iff.1 h
              show (fl l2).set (0 * 2) (.int .i64 (pr d k).1) = fl l2
              rw [← e]; exact List.set_getElem_self hlt
            simp only [Nat.zero_mul, Nat.zero_add] at e0 ⊢
            rw [e0]
          have hrow2 : OwnK W 86 2 (.slice (some ⟨g, 0, none⟩) i cap) i (fl (l2.set 0 ((k : Int), y - 1))) := by
            rw [hW, hl2]
            exact (hrow.store 1 _).setOther (by simp [Value.ownBlock]; exact hne2) _
          have hIs : IsHp W p (.slice (some ⟨g, 0, none⟩) i cap) (l2.set 0 ((k : Int), y - 1)) := by
            refine ⟨?_, by rw [List.length_set, h2]; exact hrow2⟩
            rw [hW]
            exact (Chg.setCell _ _ _).keep ((Chg.setCell _ _ _).keep h1.blk (fun e => hgp e.symm)) (fun e => hne3 e)
          have hOwn : Owns W 3 (.slice (some ⟨gl, 0, none⟩) i c) (ints .i64 (decTop (j + 1) cur)) := by
            rw [hW, hsn]
            have h := (h5.setOther (a := ⟨g, 1, none⟩) (by simp [Value.ownBlock]; exact hne1) (.int .i64 (y - 1))).store k (.int .i64 (y - 1))
            rw [show (ints .i64 d).set k (.int .i64 (y - 1)) = ints .i64 (d.set k (y - 1)) from by simp [ints, List.map_set]] at h
            unfold bump
            rw [← hy]
            exact h
          have hChg : Chg (fun b => b = gl) w W := by
            rw [hW]
            refine (h6.trans (Chg.setCell _ _ _) (fun b hb e => ?_)).trans (Chg.setCell _ _ _) (fun b hb e => e)
            rw [HB.out.symm] at hb
            have e : b = g := e
            omega
          have hperm : (l2.set 0 ((k : Int), y - 1)).Perm ((List.range i).map (pr (decTop (j + 1) cur))) := by
            rw [hsn, hy]
            exact perm_set0 hkn hdl h2 h4 hat
          have HFix := kept (hfix_calls p g i cap (l2.set 0 ((k : Int), y - 1)) W hIs (by rw [List.length_set]; exact h2) (by omega) (by omega) (down0 h3 _))
          have HOwn := kept hOwn
          have HChg := kept hChg
          have HPerm := kept hperm
          rw [hW] at HFix
          have HW := kept hW
          clear hok hsum hsn hd h1 h2 h3 h4 h5 h6 hat hrow hl2 hrow2 hIs hOwn hChg hperm ht hk hdl hy hW
          go_wp2_with (first | (go_at_call 41; refine HFix.out.mono ?_; rintro e w3 ⟨rfl, l3, h7, h8, h9, h10, h11⟩; have H7 := kept h7; have H8 := kept h8; have H9 := kept h9; have H10 := kept h10; have H11 := kept h11; clear h7 h8 h9 h10 h11))
          have HC := H11.out
          rw [← HW.out] at HC
          have HC := kept HC
          go_roundw
          case rel =>
            refine ⟨j + 1, l3, by omega, by go_num, H7.out, H8.out, H9.out, H10.out.trans HPerm.out, HOwn.out.chg HC.out (fun b hb e => ?_), HChg.out.trans HC.out (fun b hb e => ?_)⟩
            · simp only [Value.ownBlock, Option.map_some, Option.some.injEq] at hb
              have e : b = g := e
              omega
            · have e : b = g := e
              rw [HB.out.symm] at hb
              omega
          case measure => simp [intOf]; omega
        · have hjm2 : j = m := by omega
          subst hjm2
          have H5 := kept h5
          have H6 := kept h6
          clear h1 h2 h3 h4 h5 h6
          go_wp2_with fail
          go_end0
          exact ⟨rfl, H5.out, H6.out⟩
end Go.Proofs.Ytbldocbijihpgaa.NormH

-- ---- Ne
/- norm.Of's helpers: whether a frequency is none, and a sum. Conditions: the list reads as the argument does. -/
namespace Go.Proofs.Ytbldocbijihpgaa.NormF
set_option linter.unusedSimpArgs false
set_option linter.unusedVariables false
open Go.RowKit Mix _root_.Go.Proofs.Ytbldocbijihpgaa.Own Hp Ol Nl

/-- No frequency. -/
def badF (x : Int) : Bool := decide (x < 0) || decide (16777216 < x)
theorem may1_calls (x : Int) (w : World) : Calls Try.prog 22 #[.int .i64 x] w fun e w' => e = .returned (.bool (badF x)) ∧ w = w' := by
  by_cases h1 : x < 0
  · have t1 : decide (x < 0) = true := decide_eq_true h1
    have HB := kept (show badF x = true by unfold badF; rw [t1]; rfl)
    go_enter Try.func22, Try.ntmps22
    go_wp2_with fail
    go_ret
    exact ⟨by rw [HB.out]; rfl, rfl⟩
  · have t1 : decide (x < 0) = false := decide_eq_false h1
    by_cases h2 : 16777216 < x
    · have t2 : decide (16777216 < x) = true := decide_eq_true h2
      have HB := kept (show badF x = true by unfold badF; rw [t1, t2]; rfl)
      go_enter Try.func22, Try.ntmps22
      go_wp2_with fail
      go_ret
      exact ⟨by rw [HB.out]; rfl, rfl⟩
    · have t2 : decide (16777216 < x) = false := decide_eq_false h2
      have HB := kept (show badF x = false by unfold badF; rw [t1, t2]; rfl)
      go_enter Try.func22, Try.ntmps22
      go_wp2_with fail
      go_ret
      exact ⟨by rw [HB.out]; rfl, rfl⟩

/-- Whether one of them is bad, as an index. -/
def IdxE (l : List Int) (w : World) (e : Ending) (w' : World) : Prop := (∃ r : Int, e = .returned (.int .i64 r) ∧ decide (0 ≤ r) = l.any badF) ∧ w = w'
set_option maxHeartbeats 2000000 in
theorem idxf_calls (A0 : Option Addr) (n0 c0 : Nat) (l0 : List Int) (w : World) (hR : Rd w (.slice A0 n0 n0) (ints .i64 l0)) (hn : n0 < 200000000000000) :
    Calls Try.prog 37 #[.slice A0 n0 c0, .func (.func 22) #[] #[]] w (IdxE l0 w) := by
  have hl : l0.length = n0 := by have := hR.length; rw [length_ints] at this; exact this.symm
  have HR := kept hR
  have HL := kept hl
  clear hR hl
  go_enter Try.func37, Try.ntmps37
  go_wp2_with fail
  go_loop [8] (fun s8 => ∃ i : Nat, i ≤ n0 ∧ s8 = .int .i64 (i : Int) ∧ ∀ j, j < i → badF (l0.getD j 0) = false) (fun s8 => n0 - (intOf s8).toNat)
  case atStart => exact ⟨0, Nat.zero_le _, rfl, fun j h => by omega⟩
  case round =>
    obtain ⟨i, hi, rfl, hall⟩ := hrel
    have HAll := kept hall
    clear hall
    by_cases hlt : i < n0
    · obtain ⟨x, rfl, hc⟩ := HR.out.at (Own.ints_at .i64 l0 i (by rw [HL.out]; exact hlt))
      obtain ⟨y, hy⟩ : ∃ y, y = l0.getD i 0 := ⟨_, rfl⟩
      rw [← hy] at hc
      cases hb : badF y with
      | true =>
        have HY := kept hy
        have HB := kept hb
        clear hy hb
        go_wp2_with (first | (go_at_call 22; refine (may1_calls y _).mono ?_; rw [HB.out]; rintro e w1 ⟨rfl, rfl⟩))
        go_ret
        refine ⟨⟨_, rfl, ?_⟩, rfl⟩
        have h1 : l0.any badF = true := List.any_eq_true.2 ⟨y, by rw [HY.out]; have : i < l0.length := by rw [HL.out]; exact hlt
                                                                  simp [List.getD_eq_getElem?_getD, this], HB.out⟩
        rw [h1]; exact decide_eq_true (by omega)
      | false =>
        have HY := kept hy
        have HB := kept hb
        clear hy hb
        go_wp2_with (first | (go_at_call 22; refine (may1_calls y _).mono ?_; rw [HB.out]; rintro e w1 ⟨rfl, rfl⟩))
        go_round
        case rel => exact ⟨i + 1, by omega, by go_num, fun j hj => by
          by_cases e : j = i
          · rw [e, ← HY.out]; exact HB.out
          · exact HAll.out j (by omega)⟩
        case measure => simp [intOf]; omega
    · have hie : i = n0 := by omega
      subst hie
      go_wp2_with fail
      go_ret
      refine ⟨⟨_, rfl, ?_⟩, rfl⟩
      have h1 : l0.any badF = false := by
        rw [Bool.eq_false_iff]
        intro h
        obtain ⟨y, hy, hb⟩ := List.any_eq_true.1 h
        obtain ⟨j, hj, e⟩ := List.getElem_of_mem hy
        have := HAll.out j (by rw [← HL.out]; exact hj)
        rw [show l0.getD j 0 = y by simp [List.getD_eq_getElem?_getD, hj, e]] at this
        rw [this] at hb; cases hb
      rw [h1]; rfl

theorem contf_calls (A0 : Option Addr) (n0 c0 : Nat) (l0 : List Int) (w : World) (hR : Rd w (.slice A0 n0 n0) (ints .i64 l0)) (hn : n0 < 200000000000000) :
    Calls Try.prog 21 #[.slice A0 n0 c0, .func (.func 22) #[] #[]] w fun e w' => e = .returned (.bool (l0.any badF)) ∧ w = w' := by
  have HC := kept (idxf_calls A0 n0 c0 l0 w hR hn)
  clear hR
  go_enter Try.func21, Try.ntmps21
  go_wp2_with (first | (go_at_call 37; refine HC.out.mono ?_; rintro e w1 ⟨⟨r, rfl, hr⟩, rfl⟩; have HRr := kept hr; clear hr))
  go_ret
  exact ⟨by rw [HRr.out]; rfl, rfl⟩


theorem any_bad (l0 : List Int) : l0.any badF = false ↔ ∀ x ∈ l0, 0 ≤ x ∧ x ≤ 16777216 := by
  rw [Bool.eq_false_iff, Ne, List.any_eq_true]
  constructor
  · intro h x hx
    have h2 : badF x ≠ true := fun e => h ⟨x, hx, e⟩
    unfold badF at h2
    simp at h2
    omega
  · rintro h ⟨x, hx, hb⟩
    have := h x hx
    unfold badF at hb
    simp at hb
    omega

set_option maxHeartbeats 2000000 in
theorem sum_calls (A0 : Option Addr) (n0 c0 : Nat) (l0 : List Int) (w : World) (hR : Rd w (.slice A0 n0 n0) (ints .i64 l0)) (hn : n0 < 200000000000000) (hb : ∀ i, i ≤ n0 → 0 ≤ (l0.take i).sum ∧ (l0.take i).sum ≤ 4000000000000) :
    Calls Try.prog 24 #[.slice A0 n0 c0] w fun e w' => e = .returned (.int .i64 l0.sum) ∧ w = w' := by
  have hl : l0.length = n0 := by have := hR.length; rw [length_ints] at this; exact this.symm
  have HR := kept hR
  have HL := kept hl
  have HBd := kept hb
  clear hR hl hb
  go_enter Try.func24, Try.ntmps24
  go_wp2_with fail
  go_loop [3, 8] (fun s3 s8 => ∃ (i : Nat) (a : Int), i ≤ n0 ∧ s8 = .int .i64 (i : Int) ∧ s3 = .int .i64 a ∧ a = (l0.take i).sum) (fun _ s8 => n0 - (intOf s8).toNat)
  case atStart => exact ⟨0, 0, Nat.zero_le _, rfl, rfl, rfl⟩
  case round =>
    obtain ⟨i, a, hi, rfl, rfl, ha⟩ := hrel
    by_cases hlt : i < n0
    · have hil : i < l0.length := by rw [HL.out]; exact hlt
      obtain ⟨x, rfl, hc⟩ := HR.out.at (Own.ints_at .i64 l0 i hil)
      have hts := take_sum l0 i hil
      have hb1 := HBd.out i hi
      have hb2 := HBd.out (i + 1) (by omega)
      obtain ⟨y, hy⟩ : ∃ y, y = l0.getD i 0 := ⟨_, rfl⟩
      rw [← hy] at hc hts
      obtain ⟨z, hz⟩ : ∃ z, z = a + y := ⟨_, rfl⟩
      have hz2 : z = (l0.take (i + 1)).sum := by rw [hts, hz, ha]
      have hza : 0 ≤ a + y ∧ a + y ≤ 4000000000000 := by rw [← hz, hz2]; exact hb2
      have HZ : Kept (a + y = (l0.take (i + 1)).sum) := kept (by rw [← hz]; exact hz2)
      obtain ⟨hza1, hza2⟩ := hza
      clear hts hb1 hb2 hy hz hz2 ha
      go_wp2_with fail
      go_round
      case rel => exact ⟨i + 1, a + y, by omega, by go_num, by go_num, HZ.out⟩
      case measure => simp [intOf]; omega
    · have hin : i = n0 := by omega
      subst hin
      have HA : Kept (a = l0.sum) := kept (by rw [ha, ← HL.out, List.take_length])
      clear ha
      go_wp2_with fail
      go_ret
      exact ⟨by rw [HA.out]; rfl, rfl⟩
end Go.Proofs.Ytbldocbijihpgaa.NormF

-- ---- Nf
/- norm.Of where nothing may be normed: the error. Conditions: the list reads as the argument does. -/
namespace Go.Proofs.Ytbldocbijihpgaa.NormF
set_option linter.unusedSimpArgs false
set_option linter.unusedVariables false
open Go.RowKit Mix _root_.Go.Proofs.Ytbldocbijihpgaa.Own Hp Ol Nl

theorem mayLog_calls (a : Int) (w : World) : Calls Try.prog 23 #[.int .i64 a] w fun e w' => e = .returned (.bool (decide (7 ≤ a) && decide (a ≤ 12))) ∧ w = w' := by
  by_cases h1 : 7 ≤ a
  · have t1 : decide (7 ≤ a) = true := decide_eq_true h1
    by_cases h2 : a ≤ 12
    · have t2 : decide (a ≤ 12) = true := decide_eq_true h2
      have HE := kept (show (decide (7 ≤ a) && decide (a ≤ 12)) = true by rw [t1, t2]; rfl)
      go_enter Try.func23, Try.ntmps23
      go_wp2_with fail
      go_ret
      exact ⟨by first | rfl | (rw [HE.out]; rfl), rfl⟩
    · have t2 : decide (a ≤ 12) = false := decide_eq_false h2
      have HE := kept (show (decide (7 ≤ a) && decide (a ≤ 12)) = false by rw [t1, t2]; rfl)
      go_enter Try.func23, Try.ntmps23
      go_wp2_with fail
      go_ret
      exact ⟨by first | rfl | (rw [HE.out]; rfl), rfl⟩
  · have t1 : decide (7 ≤ a) = false := decide_eq_false h1
    have HE := kept (show (decide (7 ≤ a) && decide (a ≤ 12)) = false by rw [t1]; rfl)
    go_enter Try.func23, Try.ntmps23
    go_wp2_with fail
    go_ret
    exact ⟨by first | rfl | (rw [HE.out]; rfl), rfl⟩

/-- Sums of what may be asked stay small. -/
theorem take_bd (l0 : List Int) (h : ∀ x ∈ l0, 0 ≤ x ∧ x ≤ 16777216) : ∀ i, i ≤ l0.length → 0 ≤ (l0.take i).sum ∧ (l0.take i).sum ≤ 16777216 * (i : Int) := by
  intro i
  induction i with
  | zero => intro _; simp
  | succ i ih =>
    intro hi
    have h1 := ih (by omega)
    have h2 := take_sum l0 i (by omega)
    have h3 := h (l0.getD i 0) (getD_mem (by omega))
    rw [h2]; omega

set_option maxHeartbeats 2000000 in
theorem norm_bad (A0 : Option Addr) (n0 c0 : Nat) (l0 : List Int) (a1 : Int) (w : World) (hR : Rd w (.slice A0 n0 n0) (ints .i64 l0)) (hn : n0 < 200000000000000) (hb : ¬ (frB l0 = true ∧ 7 ≤ a1 ∧ a1 ≤ 12)) :
    Calls Try.prog 11 #[.slice A0 n0 c0, .int .i64 a1] w fun e w' => e = .returned (.tuple #[.slice none 0 0, .int .i64 1]) ∧ w = w' := by
  have hl : l0.length = n0 := by have := hR.length; rw [length_ints] at this; exact this.symm
  have HC := kept (contf_calls A0 n0 c0 l0 w hR hn)
  by_cases h65 : n0 = 65
  · subst h65
    obtain ⟨b, hbb⟩ : ∃ b, b = l0.any badF := ⟨_, rfl⟩
    rw [← hbb] at HC
    cases b with
    | true =>
      clear hR hl hbb hb
      go_enter Try.func11, Try.ntmps11
      go_wp2_with (first | (go_at_call 21; refine HC.out.mono ?_; rintro e w1 ⟨rfl, rfl⟩))
      exact bodyPost_ret (results_tmp2 rfl _ _ _) rfl ⟨rfl, rfl⟩
    | false =>
      have hall := (any_bad l0).1 hbb.symm
      have hM := mayLog_calls a1 w
      obtain ⟨q, hq⟩ : ∃ q, q = (decide (7 ≤ a1) && decide (a1 ≤ 12)) := ⟨_, rfl⟩
      rw [← hq] at hM
      have HM := kept hM
      cases q with
      | false =>
        clear hR hl hbb hb hall hq hM
        go_enter Try.func11, Try.ntmps11
        go_wp2_with (first | (go_at_call 21; refine HC.out.mono ?_; rintro e w1 ⟨rfl, rfl⟩) | (go_at_call 23; refine HM.out.mono ?_; rintro e w1 ⟨rfl, rfl⟩))
        exact bodyPost_ret (results_tmp2 rfl _ _ _) rfl ⟨rfl, rfl⟩
      | true =>
        have h7 : 7 ≤ a1 ∧ a1 ≤ 12 := by
          rw [eq_comm, Bool.and_eq_true, decide_eq_true_eq, decide_eq_true_eq] at hq; exact hq
        have hbd := take_bd l0 hall
        have h0 : l0.sum = 0 := by
          have h1 := hbd 65 (by omega)
          rw [show (65 : Nat) = l0.length from hl.symm, List.take_length] at h1
          apply Classical.byContradiction
          intro hne
          refine hb ⟨?_, h7⟩
          unfold frB; rw [decide_eq_true_eq]
          exact ⟨hl, hall, by omega⟩
        have HS := kept (sum_calls A0 65 c0 l0 w hR (by decide) (fun i hi => by have := hbd i (by omega); omega))
        rw [h0] at HS
        clear hR hl hbb hb hall hq hM hbd h0 h7
        go_enter Try.func11, Try.ntmps11
        go_wp2_with (first | (go_at_call 21; refine HC.out.mono ?_; rintro e w1 ⟨rfl, rfl⟩) | (go_at_call 23; refine HM.out.mono ?_; rintro e w1 ⟨rfl, rfl⟩) | (go_at_call 24; refine HS.out.mono ?_; rintro e w1 ⟨rfl, rfl⟩))
        exact bodyPost_ret (results_tmp2 rfl _ _ _) rfl ⟨rfl, rfl⟩
  · have t65 : ((n0 : Int) != 65) = true := by rw [bne_iff_ne]; omega
    obtain ⟨b, hbb⟩ : ∃ b, b = l0.any badF := ⟨_, rfl⟩
    rw [← hbb] at HC
    clear hR hl hbb hb h65
    go_enter Try.func11, Try.ntmps11
    go_wp2_with (first | (go_at_call 21; refine HC.out.mono ?_; rintro e w1 ⟨rfl, rfl⟩))
    exact bodyPost_ret (results_tmp2 rfl _ _ _) rfl ⟨rfl, rfl⟩
end Go.Proofs.Ytbldocbijihpgaa.NormF

-- ---- Ub
/- Words of the print's plain functions: small facts. No program in sight. -/
namespace Go.Proofs.Ytbldocbijihpgaa.PA
set_option linter.unusedVariables false
set_option linter.unusedSimpArgs false
open Go.RowKit Go.Proofs.YtbldocbijihpgaaW.PrintWords Go.Proofs.YtbldocbijihpgaaW.PrintLast Go.Proofs.YtbldocbijihpgaaW.PrintMore

theorem w64 {x : Int} (h1 : -9223372036854775808 ≤ x) (h2 : x ≤ 9223372036854775807) : wrap64 x = x := by unfold wrap64; omega
theorem rd_nat (xs : List Int) (i : Nat) : rd xs (i : Int) = xs.getD i 0 := by unfold rd; rw [Int.toNat_natCast]
theorem pow2_le (k m : Nat) (h : k ≤ m) : 2 ^ k ≤ 2 ^ m := Nat.pow_le_pow_right (by decide) h
theorem i64_wrap_nat (n : Nat) (h : n < 9223372036854775808) : IntKind.i64.wrap (n : Int) = (n : Int) := by
  simp [IntKind.wrap, IntKind.bits, IntKind.signed]; omega
theorem shl_nat (x k : Nat) (hk : k ≤ 62) (h : x * 2 ^ k < 9223372036854775808) : shl .i64 (x : Int) (k : Int) = ((x * 2 ^ k : Nat) : Int) := by
  unfold shl
  have e : min ((k : Int).toNat) (IntKind.bits .i64) = k := by simp [IntKind.bits]; omega
  rw [e]
  have e2 : (x : Int) * 2 ^ k = ((x * 2 ^ k : Nat) : Int) := by simp
  rw [e2, i64_wrap_nat _ h]
theorem shl_1 (k : Nat) (hk : k ≤ 62) : shl .i64 1 (k : Int) = ((2 ^ k : Nat) : Int) := by
  have h := shl_nat 1 k hk (by have := pow2_le k 62 hk; rw [Nat.one_mul]; have e : 2 ^ 62 = 4611686018427387904 := by decide
                               omega)
  rw [Nat.one_mul] at h; exact h
theorem shr_nat (x k : Nat) (hk : k ≤ 64) : shr .i64 (x : Int) (k : Int) = ((x / 2 ^ k : Nat) : Int) := by
  unfold shr
  have e : min ((k : Int).toNat) (IntKind.bits .i64) = k := by simp [IntKind.bits]; omega
  rw [e]; simp
theorem tdiv_nat (a b : Nat) : Int.tdiv (a : Int) (b : Int) = ((a / b : Nat) : Int) := by
  rw [Int.tdiv_eq_ediv_of_nonneg (by omega)]; simp
theorem tmod_nat (a b : Nat) : Int.tmod (a : Int) (b : Int) = ((a % b : Nat) : Int) := by
  rw [Int.tmod_eq_emod_of_nonneg (by omega)]; simp

/-- What a loop comes to, from some number of rounds on: by what is left to do. -/
theorem evq {α : Type} {g : Nat → Option α} {r s : α} (e : r = s) (h : Ev g r) : Ev g s := e ▸ h
/-- A call whose answer needs no rounds. -/
theorem Ev.bind0 {α β : Type} {x : Option α} {f : Nat → α → Option β} {a : α} {r : β} (h : x = some a) (k : Ev (fun n => f n a) r) : Ev (fun n => x.bind (f n)) r := by
  subst h; exact k
theorem Ev.ite_pos {α : Type} {c : Prop} [Decidable c] {f g : Nat → Option α} {r : α} (h : c) (k : Ev f r) : Ev (fun n => if c then f n else g n) r := by
  simpa only [if_pos h] using k
theorem Ev.ite_neg {α : Type} {c : Prop} [Decidable c] {f g : Nat → Option α} {r : α} (h : ¬ c) (k : Ev g r) : Ev (fun n => if c then f n else g n) r := by
  simpa only [if_neg h] using k
theorem Ev.ofSome {α : Type} {r s : α} (h : r = s) : Ev (fun _ => some r) s := by subst h; exact Ev.now r
theorem mx_max (x y : Int) : mx x y = max x y := by unfold mx; split <;> omega
theorem mn_min (x y : Int) : mn x y = min x y := by unfold mn; split <;> omega
end Go.Proofs.Ytbldocbijihpgaa.PA

-- ---- Ng
/- norm.Of where it may be normed. Conditions: the list reads as the argument does. -/
namespace Go.Proofs.Ytbldocbijihpgaa.NormF
set_option linter.unusedSimpArgs false
set_option linter.unusedVariables false
open Go.RowKit Mix _root_.Go.Proofs.Ytbldocbijihpgaa.Own Hp Ol Nl
attribute [local go_sem] Own.max_int Own.min_int

/-- The row of the result, on the way; all that was there has stayed. -/
structure StW (B : Nat) (w wr : World) (g : Nat) (xs : List Int) : Prop where
  row : Owns wr 3 (.slice (some ⟨g, 0, none⟩) 65 65) (ints .i64 xs)
  new : B ≤ g
  low : Below B w wr
  sz : B ≤ wr.heap.size
theorem StW.later {B : Nat} {w wr w' : World} {g : Nat} {xs : List Int} (h : StW B w wr g xs) (hb : Below wr.heap.size wr w') : StW B w w' g xs :=
  ⟨h.row.keep fun k _ hk => hb.block k hk, h.new, h.low.trans (hb.mono h.sz), Nat.le_trans h.sz hb.size⟩
theorem StW.store {B : Nat} {w wr : World} {g : Nat} {xs : List Int} (h : StW B w wr g xs) (j : Nat) (x : Int) : StW B w (wr.setCell ⟨g, j, none⟩ (.int .i64 x)) g (xs.set j x) := by
  refine ⟨?_, h.new, h.low.setCell h.new _, by have := h.sz; simp [World.setCell]; exact this⟩
  have := h.row.store j (.int .i64 x)
  have e : ints .i64 (xs.set j x) = (ints .i64 xs).set j (.int .i64 x) := by simp [ints, List.map_set]
  rw [e]; exact this
theorem StW.cell {B : Nat} {w wr : World} {g : Nat} {xs : List Int} (h : StW B w wr g xs) (j : Nat) (hj : j < xs.length) : wr.cell? ⟨g, j, none⟩ = some (.int .i64 (xs.getD j 0)) := h.row.cell (Own.ints_at .i64 xs j hj)

theorem share_mul (y t : Int) (P : Nat) (hy : 0 < y) (hy1 : y ≤ 16777216) (hP1 : P ≤ 4096) (ht : 0 < t) : Own.mx 1 (wrap64 ((wrap64 (y * (P : Int))).tdiv t)) = share (P : Int) t y := by
  have h1 : y * (P : Int) ≤ 16777216 * 4096 := Int.mul_le_mul hy1 (by omega) (by omega) (by omega)
  have h0 : 0 ≤ y * (P : Int) := Int.mul_nonneg (by omega) (by omega)
  have h2 : y * (P : Int) / t ≤ y * (P : Int) := Int.ediv_le_self _ h0
  have h3 : 0 ≤ y * (P : Int) / t := Int.ediv_nonneg h0 (by omega)
  unfold share
  rw [if_pos hy, PA.w64 (x := y * (P : Int)) (by omega) (by omega), Int.tdiv_eq_ediv_of_nonneg h0, PA.w64 (x := y * (P : Int) / t) (by omega) (by omega), Own.mx_eq]

set_option maxHeartbeats 8000000 in
set_option maxRecDepth 20000 in
theorem norm_ok (A0 : Option Addr) (c0 : Nat) (l0 : List Int) (m : Nat) (w : World) (hR : Rd w (.slice A0 65 65) (ints .i64 l0)) (hf : Fr l0) (h7 : 7 ≤ m) (h12 : m ≤ 12) :
    Calls Try.prog 11 #[.slice A0 65 c0, .int .i64 (m : Int)] w fun e w' => ∃ v, e = .returned (.tuple #[v, .int .i64 0]) ∧ Owns w' 3 v (ints .i64 (normL l0 ((2 ^ m : Nat) : Int))) ∧ (∀ g, v.ownBlock = some g → w.heap.size ≤ g) ∧ Below w.heap.size w w' := by
  have h65 := hf.len
  obtain ⟨i0, hi, hz0, hz1, hz2⟩ := info_partsI infoI64
  have hall : ∀ x ∈ l0, 0 ≤ x ∧ x ≤ 16777216 := fun x hx => ⟨hf.nn x hx, hf.le x hx⟩
  have hC := contf_calls A0 65 c0 l0 w hR (by decide)
  rw [(any_bad l0).2 hall] at hC
  have hM := mayLog_calls (m : Int) w
  rw [show (decide (7 ≤ (m : Int)) && decide ((m : Int) ≤ 12)) = true by rw [decide_eq_true (show 7 ≤ (m : Int) by omega), decide_eq_true (show (m : Int) ≤ 12 by omega)]; rfl] at hM
  have hbd := take_bd l0 hall
  have hS := fun (w1 : World) (hb : Below w.heap.size w w1) => sum_calls A0 65 c0 l0 w1 (hR.later hb) (by decide) (fun i hi => by have := hbd i (by omega); omega)
  obtain ⟨t, ht⟩ : ∃ t, t = l0.sum := ⟨_, rfl⟩
  rw [← ht] at hS
  have hpos : 0 < t := by rw [ht]; exact hf.pos
  have hle : t ≤ 1090519040 := by rw [ht]; exact hf.sum_le
  obtain ⟨P, hP⟩ : ∃ P, P = 2 ^ m := ⟨_, rfl⟩
  have hshl : IntKind.i64.wrap ((2 : Int) ^ m) = (P : Int) := by
    rw [IntKind.wrap_i64, hP]
    have h2 : 2 ^ m ≤ 2 ^ 12 := Nat.pow_le_pow_right (by decide) h12
    have e : ((2 : Int) ^ m) = ((2 ^ m : Nat) : Int) := by simp
    rw [e]
    generalize 2 ^ m = q at *
    omega
  have hp12 : P ≤ 4096 := by have h := Nat.pow_le_pow_right (show 0 < 2 by decide) h12; rw [hP]; omega
  have hp7 : 128 ≤ P := by have h := Nat.pow_le_pow_right (show 0 < 2 by decide) h7; rw [hP]; omega
  rw [← hP]
  obtain ⟨B, hB⟩ : ∃ B, B = w.heap.size := ⟨_, rfl⟩
  have HC := kept hC
  have HM := kept hM
  have HS := kept hS
  have HF := kept hf
  have HR := kept hR
  have H65 := kept h65
  have HT := kept ht
  have HB := kept hB
  have t0 : (t == 0) = false := by rw [beq_eq_false_iff_ne]; omega
  clear hC hM hS hf hR h65 ht hB hall hbd hP
  go_enter Try.func11, Try.ntmps11
  go_wp2_with (first | (go_at_call 21; refine HC.out.mono ?_; rintro e w1 ⟨rfl, rfl⟩) | (go_at_call 23; refine HM.out.mono ?_; rintro e w1 ⟨rfl, rfl⟩) | (go_at_call 24; refine (HS.out _ (Below.refl _ _)).mono ?_; rintro e w1 ⟨rfl, rfl⟩))
  refine wp_region_mixL [0,1] [2] [3,4,5] (by kernel_rfl) (by kernel_rfl) ?_
  intro K hK
  simp only [pick, List.filterMap_cons, List.filterMap_nil, List.getElem?_cons_zero, List.getElem?_cons_succ]
  repeat (show wpQuiet _ _ _ _ (_ :: _) _; go_big_quiet_step (fail))
  refine wpQuiet_nil ?_
  show wpList _ _ _ [_, _, _] _ _
  generalize hwd : World.drew w = wd
  have hbd : Below w.heap.size w wd := by rw [← hwd]; exact (Below.refl _ _).drew
  have HBd := kept hbd
  have HSd := kept (HS.out wd hbd)
  clear hwd hbd
  go_wp2_with (first | (go_at_call 24; refine HSd.out.mono ?_; rintro e w1 ⟨rfl, rfl⟩))
  refine hK _ _ ?_
  go_wp2_with (first | (refine wpList_mk1 rfl _ _ 24 rfl 3 i0 (.int .i64 0) 8 Try.underlying24 hi hz0 hz1 hz2 rfl .i64 .i64 _ _ 65 rfl rfl rfl rfl (by decide) (by decide) ?_))
  intro w2 hO hb hlt2
  obtain ⟨g, hg⟩ : ∃ g, g = wd.heap.size := ⟨_, rfl⟩
  have hBs : B ≤ wd.heap.size := by rw [HB.out]; exact HBd.out.size
  have HSt2 : Kept (StW B w w2 g (shN l0 (P : Int) t 0)) := kept ⟨by rw [hg, shN_zero, H65.out]; simpa [ints] using hO, by omega, by rw [HB.out]; exact HBd.out.trans (hb.mono HBd.out.size), by have := hb.size; omega⟩
  rw [← hg]
  clear hO hb hlt2 hg hBs HBd HSd hshl t0 h7 h12
  go_wp2_with fail
  go_loopw [38] (fun s38 wq => ∃ i : Nat, i ≤ 65 ∧ s38 = .int .i64 (i : Int) ∧ StW B w wq g (shN l0 (P : Int) t i)) (fun s38 _ => 65 - (intOf s38).toNat)
  case atStart => exact ⟨0, by omega, rfl, HSt2.out⟩
  case round =>
    obtain ⟨i, hi65, rfl, hst⟩ := hrel
    obtain ⟨wq, rfl⟩ : ∃ wq, wq = wr := ⟨wr, rfl⟩
    have HSt3 := kept hst
    have hrd := HR.out.later (show Below w.heap.size w wq by rw [← HB.out]; exact hst.low)
    clear hst
    by_cases hlt : i < 65
    · have hil : i < l0.length := by rw [H65.out]; exact hlt
      obtain ⟨x, rfl, hc⟩ := hrd.at (Own.ints_at .i64 l0 i hil)
      have hfm := Nl.getD_mem hil
      have hy0 := HF.out.nn _ hfm
      have hy1 := HF.out.le _ hfm
      have hst3 := shN_succ l0 (P : Int) t i hil
      have hsame := shN_same l0 (P : Int) t i hil
      have hat := shN_at l0 (P : Int) t i hil
      clear hfm
      obtain ⟨y, hy⟩ : ∃ y, y = l0.getD i 0 := ⟨_, rfl⟩
      rw [← hy] at hc hy0 hy1 hst3 hsame
      have HSt4 := kept hst3
      have HSame := kept hsame
      by_cases hpos2 : 0 < y
      · have hxl : (shN l0 (P : Int) t i).length = 65 := by rw [length_shN _ _ _ _ (by omega)]; exact H65.out
        obtain ⟨xs, hxs⟩ : ∃ xs, xs = shN l0 (P : Int) t i := ⟨_, rfl⟩
        rw [← hxs] at HSt3 HSt4 HSame hxl hat
        have c1 := HSt3.out.cell i (by omega)
        have f1 : wq.frozen? ⟨g, i, none⟩ = false := HSt3.out.row.free i
        clear hxs hst3 hsame hil hy hrd hat
        have hsw := share_mul y t P hpos2 hy1 hp12 hpos
        obtain ⟨z, hz⟩ : ∃ z, z = share (P : Int) t y := ⟨_, rfl⟩
        rw [← hz] at hsw HSt4
        have HSw := kept hsw
        have HSt5 : Kept (StW B w (wq.setCell ⟨g, i, none⟩ (.int .i64 z)) g (shN l0 (P : Int) t (i + 1))) := kept (by rw [HSt4.out]; exact HSt3.out.store i z)
        clear hsw hz
        go_wp2_with fail
        go_roundw
        case rel => exact ⟨i + 1, by omega, by go_num, by rw [HSw.out]; exact HSt5.out⟩
        case measure => simp [intOf]; omega
      · have hn0 : y ≤ 0 := by omega
        have HSt5 : Kept (StW B w wq g (shN l0 (P : Int) t (i + 1))) := kept (by rw [HSame.out hpos2]; exact HSt3.out)
        clear hst3 hsame hil hy hrd hat
        go_wp2_with fail
        go_roundw
        case rel => exact ⟨i + 1, by omega, by go_num, HSt5.out⟩
        case measure => simp [intOf]; omega
    · have hie : i = 65 := by omega
      subst hie
      obtain ⟨xs, hxs⟩ : ∃ xs, xs = shares l0 (P : Int) t := ⟨_, rfl⟩
      have hxe : shN l0 (P : Int) t 65 = xs := by rw [hxs, ← H65.out]; exact shN_all l0 (P : Int) t
      rw [hxe] at HSt3
      have hxl : xs.length = 65 := by rw [hxs, length_shares]; exact H65.out
      have hok := HF.out.shares_ok (size := (P : Int)) (by omega)
      rw [← HT.out, ← hxs] at hok
      have hxb : ∀ x ∈ xs, 0 ≤ x ∧ x ≤ 16777216 := fun x hx => by
        rw [hxs] at hx
        obtain ⟨z, hz, rfl⟩ := List.mem_map.1 hx
        have := HF.out.share_le (size := (P : Int)) (by omega) hz
        rw [← HT.out] at this
        omega
      have hxt := take_bd xs hxb
      have hq65 := hxt 65 (by omega)
      rw [← hxl, List.take_length] at hq65
      obtain ⟨q, hq⟩ : ∃ q, q = xs.sum := ⟨_, rfl⟩
      have HSq := kept (sum_calls (some ⟨g, 0, none⟩) 65 65 xs wq HSt3.out.row.rd (by decide) (fun i hi => by have := hxt i (by omega); omega))
      rw [← hq] at HSq hq65
      obtain ⟨hq0, hq1⟩ := hq65
      have hq1 : q ≤ 1090519040 := by omega
      have HX := kept hxs
      have HQ := kept hq
      have HXl := kept hxl
      have HXb := kept hxb
      have HOk := kept hok
      clear hxs hq hxe hrd hlt hok hxb hxt hxl
      by_cases hls : q ≤ (P : Int)
      · obtain ⟨tl, htl, hk65⟩ := HF.out.head
        obtain ⟨k, hk⟩ : ∃ k, k = (ordL l0).headD 0 := ⟨_, rfl⟩
        rw [← hk] at htl hk65
        have hk2 : k < xs.length := by have := HXl.out; omega
        have hge := (HXb.out _ (Nl.getD_mem hk2)).1
        have hle := (HXb.out _ (Nl.getD_mem hk2)).2
        obtain ⟨x, hx⟩ : ∃ x, x = xs.getD k 0 := ⟨_, rfl⟩
        have HNorm : Kept (normL l0 (P : Int) = xs.set k (x + ((P : Int) - q))) := kept (by
          unfold normL
          rw [← HT.out, ← HX.out, ← HQ.out, if_pos hls, ← hk]
          unfold bump; rw [← hx])
        rw [← hx] at hge hle
        have HX6 := kept hx
        have HTl := kept htl
        have HC2 := kept (HistH.horder_calls A0 65 c0 l0 wq (HR.out.later (show Below w.heap.size w wq by rw [← HB.out]; exact HSt3.out.low)) (by decide))
        have hls0 : 0 ≤ (P : Int) - q := by omega
        clear hk2 hx htl hk
        go_wp2_with (first | (go_at_call 24; refine HSq.out.mono ?_; rintro e w1 ⟨rfl, rfl⟩))
        refine HC2.out.mono ?_
        rintro e w6 ⟨v6, rfl, hro6⟩
        have HSt7 := kept (HSt3.out.later hro6.low)
        have hrow6 := hro6.own
        rw [HTl.out] at hrow6
        obtain ⟨g6, cap6, rfl, hc6, _⟩ := hrow6.row (by simp [idx])
        have hcell6 : w6.cell? ⟨g6, 0, none⟩ = some (.int .i64 (k : Int)) := hrow6.cell (j := 0) (by simp [idx])
        have hlen6 : (idx (k :: tl)).length = tl.length + 1 := by simp
        rw [hlen6] at hc6
        rw [hlen6]
        have hk2 : k < xs.length := by have := HXl.out; omega
        have hy6 := HSt7.out.cell k hk2
        rw [← HX6.out] at hy6
        have f7 : w6.frozen? ⟨g, k, none⟩ = false := HSt7.out.row.free k
        have HSt9 : Kept (StW B w (w6.setCell ⟨g, k, none⟩ (.int .i64 (x + ((P : Int) - q)))) g (normL l0 (P : Int))) := kept (by rw [HNorm.out]; exact HSt7.out.store k _)
        clear hro6 hrow6 hlen6 hk2
        go_wp2_with fail
        refine bodyPost_ret (results_tmp2 rfl _ _ _) rfl ⟨_, rfl, HSt9.out.row, fun g' hg' => ?_, ?_⟩
        · simp only [Value.ownBlock, Option.map_some, Option.some.injEq] at hg'
          have := HSt9.out.new
          rw [← HB.out]; omega
        · rw [← HB.out]
          exact HSt9.out.low
      · have hls2 : (P : Int) < q := by omega
        have hss := HF.out.shares_sum (size := (P : Int)) (by omega)
        rw [← HT.out, ← HX.out, ← HQ.out] at hss
        have hq2 : q ≤ 266240 := by omega
        have hmz : ((((q - (P : Int)).toNat) : Nat) : Int) = -((P : Int) - q) := by omega
        have HTk := kept (NormH.taken_calls g 65 65 (q - (P : Int)).toNat l0 xs wq HSt3.out.row HXl.out HOk.out (by rw [← HQ.out]; omega) (by rw [← HQ.out]; omega) (by decide) (by decide))
        have HNorm : Kept (normL l0 (P : Int) = decTop (q - (P : Int)).toNat xs) := kept (by
          unfold normL
          rw [← HT.out, ← HX.out, ← HQ.out, if_neg (by omega)])
        rw [← HNorm.out, hmz] at HTk
        have n1 : ¬ (0 ≤ (P : Int) - q) := by omega
        clear hss hmz
        go_wp2_with (first | (go_at_call 24; refine HSq.out.mono ?_; rintro e w1 ⟨rfl, rfl⟩))
        refine HTk.out.mono ?_
        rintro e w3 ⟨rfl, ho3, hc3⟩
        have HO3 := kept ho3
        have HC3 := kept hc3
        clear ho3 hc3
        go_wp2_with fail
        refine bodyPost_ret (results_tmp2 rfl _ _ _) rfl ⟨_, rfl, HO3.out, fun g' hg' => ?_, ?_⟩
        · simp only [Value.ownBlock, Option.map_some, Option.some.injEq] at hg'
          have := HSt3.out.new
          rw [← HB.out]; omega
        · rw [← HB.out]
          exact HSt3.out.low.trans (HC3.out.below HSt3.out.sz (fun k hk e => by have := HSt3.out.new; omega))
end Go.Proofs.Ytbldocbijihpgaa.NormF

-- ---- Ni
/- strings.Builder at this program: WriteString and String. String's contract is the library's (its laying in plain words); copyCheck and WriteString are walked here, for their text at this program is cut short behind the check. Conditions: those that each theorem names. -/
namespace Go.Proofs.Ytbldocbijihpgaa.Sb
set_option linter.unusedSimpArgs false
set_option linter.unusedVariables false
open Go.Shelf Go.RowKit Mix _root_.Go.Proofs.Ytbldocbijihpgaa.Own

def lays169_ren : Go.Shelf.Ren := ⟨fun | 169 => 35 | n => n, fun | 70 => 63 | 9 => 9 | 0 => 0 | 72 => 65 | 37 => 45 | 127 => 95 | 3 => 3 | 5 => 5 | n => n, fun | n => n⟩
theorem lays169 : Go.Proofs.Lays.n169 Try.prog lays169_ren := {
  mixed := by kernel_rfl
  f169 := Try.func35.trans (congrArg some (by kernel_rfl))
  t0 := Try.underlying0
  a0 := Try.isAgg0
  z0 := Try.sizeOf0
  v0 := Try.zeroValue0
  t3 := Try.underlying3
  a3 := Try.isAgg3
  z3 := Try.sizeOf3
  v3 := Try.zeroValue3
  t9 := Try.underlying9
  a9 := Try.isAgg9
  z9 := Try.sizeOf9
  v9 := Try.zeroValue9
  t37 := Try.underlying45
  a37 := Try.isAgg45
  z37 := Try.sizeOf45
  v37 := Try.zeroValue45
  t70 := Try.underlying63
  a70 := Try.isAgg63
  z70 := Try.sizeOf63
  v70 := Try.zeroValue63
  t72 := Try.underlying65
  a72 := Try.isAgg65
  z72 := Try.sizeOf65
  v72 := Try.zeroValue65
  t127 := Try.underlying95
  a127 := Try.isAgg95
  z127 := Try.sizeOf95
  v127 := Try.zeroValue95 }
theorem extra169 : Go.Proofs.Builder.Extra Try.prog lays169_ren := {
  sizeBuilder := by kernel_rfl
  liesBuilder := by kernel_rfl
  t5 := Try.underlying5
  a5 := Try.isAgg5
  z5 := Try.sizeOf5
  v5 := Try.zeroValue5
  infoByte := by kernel_rfl
  cellsByte := by kernel_rfl
  sizeByte := by kernel_rfl
  neB5 := by decide }

theorem infoByte : (Try.prog.info? 5).map (fun i => (i.zero, i.size, i.bytes)) = some (some (.int .u8 0), 1, 1) := by kernel_rfl
theorem sizeB : (Try.prog.info? 65).map (·.size) = some 2 := by kernel_rfl
theorem liesB : liesAt Try.prog Try.prog.depth 65 (2 / Try.prog.cellsOf 65) 0 65 1 = true := by kernel_rfl

set_option maxHeartbeats 1000000 in
set_option maxRecDepth 100000 in
/-- A builder that has not been written. -/
theorem check_new (b : Nat) (w : World) (h0 : w.cell? ⟨b, 0, none⟩ = some (.pointer none)) (hsh : w.shape? b = some (65, 2)) (hfz : w.frozen? ⟨b, 0, none⟩ = false) :
    Calls Try.prog 44 #[.pointer (some ⟨b, 0, none⟩)] w fun e w' => e = .returned (.tuple #[]) ∧ w' = w.setCell ⟨b, 0, none⟩ (.pointer (some ⟨b, 0, none⟩)) := by
  obtain ⟨j, hj, hjs⟩ := Option.map_eq_some_iff.1 sizeB
  go_enter Try.func44, Try.ntmps44
  go_wp2_with fail
  rw [Lib.run_to_unsafe w ⟨b, 0, none⟩ Try.underlying63 Try.underlying103 hj (by rw [hjs]; decide) hsh (Nat.zero_lt_succ 1)]
  simp only [Result.andThen]
  rw [Oper.upon_value]
  go_wp2_with fail
  rw [run_callFunc_extern Try.func48 (by kernel_rfl) (by kernel_rfl) (by kernel_rfl) (e := Extern.AbiNoEscape.same) (by kernel_rfl)]
  rw [Lib.run_noEscape]
  simp only [Result.andThen]
  rw [Oper.upon_value]
  go_wp2_with fail
  rw [Lib.run_from_unsafe w ⟨b, 0, none⟩ Try.underlying103 Try.underlying63 hj hsh liesB]
  simp only [Result.andThen]
  rw [Oper.upon_value]
  go_wp2_with fail
  go_end0
  exact ⟨rfl, rfl⟩
set_option maxHeartbeats 1000000 in
set_option maxRecDepth 100000 in
/-- One that has been. -/
theorem check_used (b : Nat) (w : World) (h0 : w.cell? ⟨b, 0, none⟩ = some (.pointer (some ⟨b, 0, none⟩))) :
    Calls Try.prog 44 #[.pointer (some ⟨b, 0, none⟩)] w fun e w' => e = .returned (.tuple #[]) ∧ w' = w := by
  obtain ⟨j, hj, _⟩ := Option.map_eq_some_iff.1 sizeB
  go_enter Try.func44, Try.ntmps44
  go_wp2_with fail
  rw [Lib.run_neq_ptr_same w _ Try.underlying63 hj]
  go_wp2_with fail
  go_end0
  exact ⟨rfl, rfl⟩
theorem check_calls (B b : Nat) (bs : List Value) (w : World) (h : Lib.IsBuilderF 65 5 B b bs w) :
    Calls Try.prog 44 #[.pointer (some ⟨b, 0, none⟩)] w fun e w' => e = .returned (.tuple #[]) ∧ Lib.BuilderAtF 65 5 B b (.pointer (some ⟨b, 0, none⟩)) bs w' ∧ Below B w w' := by
  rcases h with h | h
  · refine (check_new b w h.cell0 h.shape h.frozen0).mono ?_
    rintro e w' ⟨rfl, rfl⟩
    exact ⟨rfl, h.used _, (Below.refl B w).setCell (p := ⟨b, 0, none⟩) h.1 _⟩
  · refine (check_used b w h.cell0).mono ?_
    rintro e w' ⟨rfl, rfl⟩
    exact ⟨rfl, h, Below.refl B _⟩
set_option maxHeartbeats 2000000 in
set_option maxRecDepth 100000 in
theorem write_calls (B b : Nat) (bs : List Value) (s : ByteArray) (w : World) (h : Lib.IsBuilderF 65 5 B b bs w) (hlen : bs.length + s.size ≤ 140737488355328) (hBw : B ≤ w.heap.size) :
    Calls Try.prog 33 #[.pointer (some ⟨b, 0, none⟩), .string s] w fun e w' => e = .returned (.tuple #[.int .i64 s.size, .nilIface]) ∧ Lib.IsBuilderF 65 5 B b (bs ++ Lib.strCells s) w' ∧ Below B w w' := by
  obtain ⟨i0, hi, hz0, hz1, hz2⟩ := info_parts infoByte
  go_enter Try.func33, Try.ntmps33
  go_wp2_with (go_at_call 44; refine (check_calls B b bs _ h).mono ?_)
  rintro e w1 ⟨rfl, h1, hb1⟩
  obtain ⟨hB, v, hbk, hown, hne⟩ := h1
  have c0 : w1.cell? ⟨b, 0, none⟩ = some (.pointer (some ⟨b, 0, none⟩)) := by rw [Lib.cell_of_heap hbk]; rfl
  have c1 : w1.cell? ⟨b, 1, none⟩ = some v := by rw [Lib.cell_of_heap hbk]; rfl
  go_wp2_with (at_builtin; refine Lib.wpList_append_own_stringF _ rfl _ _ 45 9 rfl B 5 i0 Try.underlying45 Try.underlying9 hi hz0 hz1 hz2 _ _ _ rfl hown s rfl ?c3 ?c4 ?c5 ?_)
  case c3 => unfold maxLen; omega
  case c4 => omega
  case c5 => have := hb1.size; omega
  intro v' w2 hown' hgrow _
  have hlt : b < w1.heap.size := (Array.getElem?_eq_some_iff.1 hbk).1
  have hb2 : w2.heap[b]? = some (.cells #[.pointer (some ⟨b, 0, none⟩), v] 65 (0, 0)) := (hgrow.block b hlt (fun e => hne e.symm)).trans hbk
  have d0 : w2.cell? ⟨b, 0, none⟩ = some (.pointer (some ⟨b, 0, none⟩)) := by rw [Lib.cell_of_heap hb2]; rfl
  have d1 : w2.cell? ⟨b, 1, none⟩ = some v := by rw [Lib.cell_of_heap hb2]; rfl
  have f1 : w2.frozen? ⟨b, 1, none⟩ = false := Lib.frozen_of_heap hb2 1
  obtain ⟨ao, n', cap, rfl⟩ : ∃ ao n' cap, v' = .slice ao n' cap := by
    rcases hown'.2 with ⟨hv, _⟩ | ⟨g, cap, cur, fz, hv, _⟩ <;> exact ⟨_, _, _, hv⟩
  go_wp2_with fail
  go_ret2
  refine ⟨rfl, .inr ?_, ?_⟩
  · exact Lib.BuilderAtF.put (T := 65) (e := 5) hB hb2 (bs' := bs ++ Lib.strCells s) (by simpa [Lib.strCells_length] using hown') (by decide)
  · exact (hb1.grown hgrow (by have := hb1.size; omega) (fun k hk => (hown.lt k hk).1)).setCell (p := ⟨b, 1, none⟩) hB _
theorem string_calls (B b : Nat) (l : List UInt8) (w : World) (h : Lib.IsBuilderF 65 5 B b (Lib.byteCells l) w) (hBw : B ≤ w.heap.size) :
    Calls Try.prog 35 #[.pointer (some ⟨b, 0, none⟩)] w fun e w' => e = .returned (.string ⟨l.toArray⟩) ∧ Below B w w' :=
  (Any.Builder_String_any_k lays169 extra169 B b l w h hBw).mono fun e w' ⟨he, _, hb, _⟩ => ⟨he, hb⟩
end Go.Proofs.Ytbldocbijihpgaa.Sb

-- ---- Vt
/- Whole numbers in bytes: plain facts. No program in sight. -/
namespace Go.Proofs.Ytbldocbijihpgaa.Vt
set_option linter.unusedSimpArgs false
set_option linter.unusedVariables false

def putV (n : Nat) : List Nat := if h : n < 128 then [n] else (n % 128 + 128) :: putV (n / 128)
termination_by n
decreasing_by omega
theorem putV_lt {n : Nat} (h : n < 128) : putV n = [n] := by rw [putV, dif_pos h]
theorem putV_ge {n : Nat} (h : 128 ≤ n) : putV n = (n % 128 + 128) :: putV (n / 128) := by rw [putV, dif_neg (by omega)]
theorem putV_byte (n : Nat) : ∀ x ∈ putV n, x < 256 := by
  induction n using Nat.strongRecOn with
  | ind n ih =>
    rcases Nat.lt_or_ge n 128 with h | h
    · rw [putV_lt h]; simp; omega
    · rw [putV_ge h]
      intro x hx
      rcases List.mem_cons.1 hx with rfl | hx
      · omega
      · exact ih (n / 128) (by omega) x hx
theorem putV_ne (n : Nat) : putV n ≠ [] := by
  rcases Nat.lt_or_ge n 128 with h | h
  · rw [putV_lt h]; simp
  · rw [putV_ge h]; simp
theorem putV_len_pos (n : Nat) : 1 ≤ (putV n).length := by
  have := putV_ne n
  cases h : putV n with
  | nil => exact absurd h this
  | cons a t => simp
theorem putV_len (d : Nat) : ∀ n, n < 128 ^ (d + 1) → (putV n).length ≤ d + 1 := by
  induction d with
  | zero => intro n h; rw [putV_lt (by simpa using h)]; simp
  | succ d ih =>
    intro n h
    rcases Nat.lt_or_ge n 128 with h1 | h1
    · rw [putV_lt h1]; simp
    · rw [putV_ge h1]
      have := ih (n / 128) (by rw [Nat.div_lt_iff_lt_mul (by decide)]; rw [Nat.pow_succ] at h; exact h)
      simp; omega
theorem putV_len64 (n : Nat) (h : n < 18446744073709551616) : (putV n).length ≤ 10 := putV_len 9 n (Nat.lt_trans h (by decide))

def vval : List Nat → Nat
  | [] => 0
  | b :: t => b % 128 + 128 * vval t
theorem vval_putV (n : Nat) : vval (putV n) = n := by
  induction n using Nat.strongRecOn with
  | ind n ih =>
    rcases Nat.lt_or_ge n 128 with h | h
    · rw [putV_lt h]; simp [vval]; omega
    · rw [putV_ge h]; simp only [vval, ih (n / 128) (by omega)]; omega
theorem putV_inj {a b : Nat} (h : putV a = putV b) : a = b := by rw [← vval_putV a, h, vval_putV]
theorem vval_lt (l : List Nat) : vval l < 128 ^ l.length := by
  induction l with
  | nil => simp [vval]
  | cons a t ih => simp only [vval, List.length_cons, Nat.pow_succ]; omega
theorem vval_append (l m : List Nat) : vval (l ++ m) = vval l + 128 ^ l.length * vval m := by
  induction l with
  | nil => simp [vval]
  | cons a t ih =>
    have e : 128 ^ (a :: t).length * vval m = 128 * (128 ^ t.length * vval m) := by rw [List.length_cons, Nat.pow_succ, Nat.mul_comm (128 ^ t.length) 128, Nat.mul_assoc]
    rw [e]
    simp only [vval, List.cons_append, ih]; omega
/-- Full groups ahead of one that is not. -/
theorem putV_vval (l : List Nat) (b : Nat) (hl : ∀ x ∈ l, 128 ≤ x ∧ x < 256) (hb : b < 128) (h0 : l = [] ∨ b ≠ 0) : putV (vval (l ++ [b])) = l ++ [b] := by
  induction l with
  | nil => simp only [List.nil_append, vval]; rw [putV_lt (by omega)]; simp; omega
  | cons a t ih =>
    have ha := hl a (by simp)
    have hb0 : b ≠ 0 := by
      rcases h0 with h | h
      · cases h
      · exact h
    have ih := ih (fun x hx => hl x (List.mem_cons_of_mem _ hx)) (.inr hb0)
    have hpos : 0 < vval (t ++ [b]) := by
      rw [vval_append]
      have h1 : 0 < vval [b] := by simp [vval]; omega
      have h2 : 0 < 128 ^ t.length := Nat.pow_pos (by decide)
      have := Nat.mul_pos h2 h1
      omega
    simp only [List.cons_append, vval]
    rw [putV_ge (by omega), show (a % 128 + 128 * vval (t ++ [b])) / 128 = vval (t ++ [b]) by omega, ih]
    congr 1
    omega
/-- Nothing but a number's own bytes. -/
theorem putV_is (l : List Nat) (b n : Nat) (hl : ∀ x ∈ l, 128 ≤ x ∧ x < 256) (hb : b < 128) : putV n = l ++ [b] ↔ n = vval (l ++ [b]) ∧ (l = [] ∨ b ≠ 0) := by
  constructor
  · intro h
    refine ⟨by rw [← h, vval_putV], ?_⟩
    rcases List.eq_nil_or_concat l with rfl | ⟨m, a, rfl⟩
    · exact .inl rfl
    · right
      rintro rfl
      have hn : n = vval (m ++ [a]) := by rw [← vval_putV n, h, vval_append]; simp [vval]
      have h2 := congrArg List.length h
      have : ∀ (k : Nat) (l : List Nat), l.length = k + 1 → (putV (vval l)).length ≤ k + 1 := fun k l hk => putV_len k _ (by have := vval_lt l; rwa [hk] at this)
      have := this m.length (m ++ [a]) (by simp)
      rw [← hn] at this
      simp at h2
      omega
  · rintro ⟨rfl, h0⟩
    exact putV_vval l b hl hb h0

/-- A number out of bytes: its value, how many they are, the error; so many groups at the most. -/
def goV : Nat → Bool → List Nat → Nat × Nat × Nat
  | 0, _, _ => (0, 0, 3)
  | _ + 1, _, [] => (0, 0, 2)
  | d + 1, f, b :: t =>
    if d = 0 ∧ 1 < b % 128 then (0, 0, 3)
    else if b < 128 then (if b = 0 ∧ f = false then (0, 0, 3) else (b, 1, 0))
    else if (goV d false t).2.2 = 0 then (b % 128 + 128 * (goV d false t).1, (goV d false t).2.1 + 1, 0) else (0, 0, (goV d false t).2.2)
theorem goV_putV (d : Nat) : ∀ (f : Bool) (n : Nat) (rest : List Nat), n < 2 * 128 ^ d → (f = true ∨ n ≠ 0) → goV (d + 1) f (putV n ++ rest) = (n, (putV n).length, 0) := by
  induction d with
  | zero =>
    intro f n rest h hf
    rw [putV_lt (by omega)]
    simp only [List.cons_append, List.nil_append, goV]
    rw [if_neg (by omega), if_pos (by omega), if_neg]
    · rfl
    · rintro ⟨h1, h2⟩
      rcases hf with h | h
      · rw [h] at h2; cases h2
      · exact h h1
  | succ d ih =>
    intro f n rest h hf
    rcases Nat.lt_or_ge n 128 with h1 | h1
    · rw [putV_lt h1]
      simp only [List.cons_append, List.nil_append]
      rw [goV, if_neg (by omega), if_pos h1, if_neg]
      · rfl
      · rintro ⟨h1, h2⟩
        rcases hf with h | h
        · rw [h] at h2; cases h2
        · exact h h1
    · rw [putV_ge h1]
      simp only [List.cons_append]
      have e := ih false (n / 128) rest (by rw [Nat.div_lt_iff_lt_mul (by decide)]; rw [Nat.pow_succ] at h; omega) (.inr (by omega))
      rw [goV, if_neg (by omega), if_neg (by omega), e, if_pos rfl, List.length_cons]
      have : (n % 128 + 128) % 128 + 128 * (n / 128) = n := by omega
      rw [this]
theorem goV_cut (d : Nat) : ∀ (f : Bool) (n k : Nat), n < 2 * 128 ^ d → k < (putV n).length → goV (d + 1) f ((putV n).take k) = (0, 0, 2) := by
  induction d with
  | zero =>
    intro f n k h hk
    rw [putV_lt (by omega)] at hk ⊢
    have : k = 0 := by simp at hk; omega
    subst this; rfl
  | succ d ih =>
    intro f n k h hk
    cases k with
    | zero => rfl
    | succ k =>
      rcases Nat.lt_or_ge n 128 with h1 | h1
      · rw [putV_lt h1] at hk; simp at hk
      · rw [putV_ge h1] at hk ⊢
        have e := ih false (n / 128) k (by rw [Nat.div_lt_iff_lt_mul (by decide)]; rw [Nat.pow_succ] at h; omega) (by simp at hk; omega)
        simp only [List.take_succ_cons]
        rw [goV, if_neg (by omega), if_neg (by omega), e, if_neg (by simp)]
/-- What is told of bytes is their own number. -/
theorem goV_size (d : Nat) : ∀ (f : Bool) (l : List Nat), (goV d f l).2.2 = 0 → 1 ≤ (goV d f l).2.1 ∧ (goV d f l).2.1 ≤ l.length ∧ (goV d f l).2.1 ≤ d := by
  induction d with
  | zero => intro f l h; cases h
  | succ d ih =>
    intro f l
    cases l with
    | nil => intro h; cases h
    | cons b t =>
      unfold goV
      split
      · intro h; cases h
      · split
        · split
          · intro h; cases h
          · intro _; simp
        · split
          · rename_i h
            intro _
            have := ih false t h
            simp; omega
          · rename_i h; intro h2; exact absurd h2 h
theorem goV_bound (d : Nat) : ∀ (f : Bool) (l : List Nat), (goV (d + 1) f l).1 < 2 * 128 ^ d := by
  induction d with
  | zero =>
    intro f l
    cases l with
    | nil => simp [goV]
    | cons b t =>
      unfold goV
      split
      · simp
      · rename_i h
        have hb : ¬ 1 < b % 128 := fun h2 => h ⟨rfl, h2⟩
        split
        · split
          · simp
          · simp; omega
        · simp [goV]
  | succ d ih =>
    intro f l
    have hp : 0 < 128 ^ (d + 1) := Nat.pow_pos (by decide)
    cases l with
    | nil => unfold goV; simp; omega
    | cons b t =>
      unfold goV
      split
      · simp; omega
      · split
        · split
          · simp; omega
          · have : 128 ≤ 128 ^ (d + 1) := by rw [Nat.pow_succ]; have : 0 < 128 ^ d := Nat.pow_pos (by decide); omega
            simp; omega
        · split
          · have := ih false t
            rw [Nat.pow_succ]; simp only; omega
          · simp; omega
theorem goV_err (d : Nat) : ∀ (f : Bool) (l : List Nat), (goV d f l).2.2 = 0 ∨ goV d f l = (0, 0, 2) ∨ goV d f l = (0, 0, 3) := by
  induction d with
  | zero => intro f l; exact .inr (.inr rfl)
  | succ d ih =>
    intro f l
    cases l with
    | nil => exact .inr (.inl rfl)
    | cons b t =>
      unfold goV
      split
      · exact .inr (.inr rfl)
      · split
        · split
          · exact .inr (.inr rfl)
          · exact .inl rfl
        · split
          · exact .inl rfl
          · rcases ih false t with h | h | h
            · rename_i h2; exact absurd h h2
            · rw [h]; exact .inr (.inl rfl)
            · rw [h]; exact .inr (.inr rfl)
/-- The bytes that were told are those of the number. -/
theorem goV_is (d : Nat) : ∀ (f : Bool) (l : List Nat), (∀ x ∈ l, x < 256) → (goV d f l).2.2 = 0 → (f = true ∨ (goV d f l).1 ≠ 0) ∧ putV (goV d f l).1 = l.take (goV d f l).2.1 := by
  induction d with
  | zero => intro f l _ h; cases h
  | succ d ih =>
    intro f l hl
    cases l with
    | nil => intro h; cases h
    | cons b t =>
      have hb := hl b (by simp)
      have ht : ∀ x ∈ t, x < 256 := fun x hx => hl x (List.mem_cons_of_mem _ hx)
      unfold goV
      split
      · intro h; cases h
      · split
        · rename_i h128
          split
          · intro h; cases h
          · rename_i h0
            intro _
            refine ⟨?_, by simp [putV_lt h128]⟩
            cases f with
            | true => exact .inl rfl
            | false => right; intro h; exact h0 ⟨h, rfl⟩
        · rename_i h128
          split
          · rename_i h
            intro _
            obtain ⟨h1, h2⟩ := ih false t ht h
            have h1 : (goV d false t).1 ≠ 0 := by
              rcases h1 with h | h
              · cases h
              · exact h
            refine ⟨.inr (by simp only; omega), ?_⟩
            simp only
            rw [putV_ge (by omega), List.take_succ_cons, show (b % 128 + 128 * (goV d false t).1) / 128 = (goV d false t).1 by omega, h2]
            congr 1
            omega
          · rename_i h; intro h2; exact absurd h2 h
end Go.Proofs.Ytbldocbijihpgaa.Vt

-- ---- Sp
/- Classes at their places, and the table of states: plain facts. No program in sight. -/
namespace Go.Proofs.Ytbldocbijihpgaa.Sp
set_option linter.unusedSimpArgs false
set_option linter.unusedVariables false
set_option linter.unusedSectionVars false
open Hp Ol Nl

/-- Numbers that may be: 65 of them, each from nought to the sum, which is 2 to the log. -/
def mayN (l : List Int) (log : Int) : Bool :=
  decide (7 ≤ log ∧ log ≤ 12 ∧ l.length = 65 ∧ (∀ x ∈ l, 0 ≤ x ∧ x ≤ ((2 ^ log.toNat : Nat) : Int)) ∧ l.sum = ((2 ^ log.toNat : Nat) : Int))

/-- One more class at its place. -/
def put1 (size : Nat) (st : List Int × Nat) (c : Int) : List Int × Nat := (st.1.set st.2 c, (st.2 + size / 2 + size / 8 + 3) % size)
def putN (size : Nat) (cs : List Int) : List Int × Nat := cs.foldl (put1 size) (List.replicate size 0, 0)
theorem putN_snoc (size : Nat) (cs : List Int) (c : Int) : putN size (cs ++ [c]) = put1 size (putN size cs) c := by simp [putN]
theorem length_putN (size : Nat) (cs : List Int) : (putN size cs).1.length = size := by
  refine snoc_ind (P := fun cs => (putN size cs).1.length = size) (by simp [putN]) (fun cs c ih => ?_) cs
  rw [putN_snoc]; simp [put1, ih]
theorem at_putN (size : Nat) (h : 0 < size) (cs : List Int) : (putN size cs).2 < size := by
  refine snoc_ind (P := fun cs => (putN size cs).2 < size) (by simpa [putN] using h) (fun cs c ih => ?_) cs
  rw [putN_snoc]; exact Nat.mod_lt _ h

/-- Each class as often as it is said. -/
def expand (l : List Int) : Nat → List Int
  | 0 => []
  | n + 1 => expand l n ++ List.replicate (l.getD n 0).toNat (n : Int)
def spread (l : List Int) (size : Nat) : List Int := (putN size (expand l l.length)).1
theorem length_spread (l : List Int) (size : Nat) : (spread l size).length = size := length_putN ..
theorem length_expand (l : List Int) (h : ∀ x ∈ l, 0 ≤ x) : ∀ n, n ≤ l.length → ((expand l n).length : Int) = (l.take n).sum := by
  intro n
  induction n with
  | zero => intro _; simp [expand]
  | succ n ih =>
    intro hn
    have h0 := h _ (getD_mem (show n < l.length by omega))
    rw [List.take_succ_eq_append_getElem (by omega), List.sum_append]
    have e : l.getD n 0 = l[n] := by simp [List.getD_eq_getElem?_getD, show n < l.length by omega]
    have := ih (by omega)
    simp only [expand, List.length_append, List.length_replicate, List.sum_cons, List.sum_nil]
    rw [← e]
    omega

/-- A cell: its class, how many bits come, what they are added to. -/
def cellOf (log : Nat) (c : Int) (x : Nat) : Int × Int × Int := (c, ((log - Nat.log2 x : Nat) : Int), ((x * 2 ^ (log - Nat.log2 x) : Nat) : Int) - ((2 ^ log : Nat) : Int))
/-- The cells of places, one by one; next: of each class its next state. -/
def cells (log : Nat) : List Int → List Int → List (Int × Int × Int)
  | _, [] => []
  | next, c :: cs => cellOf log c (next.getD c.toNat 0).toNat :: cells log (bump next c.toNat 1) cs
def nexts : List Int → List Int → List Int
  | next, [] => next
  | next, c :: cs => nexts (bump next c.toNat 1) cs
theorem cells_snoc (log : Nat) (cs : List Int) (c : Int) : ∀ next, cells log next (cs ++ [c]) = cells log next cs ++ [cellOf log c ((nexts next cs).getD c.toNat 0).toNat] := by
  induction cs with
  | nil => intro next; rfl
  | cons a t ih => intro next; simp only [List.cons_append, cells, nexts, ih]
theorem nexts_snoc (cs : List Int) (c : Int) : ∀ next, nexts next (cs ++ [c]) = bump (nexts next cs) c.toNat 1 := by
  induction cs with
  | nil => intro next; rfl
  | cons a t ih => intro next; simp only [List.cons_append, nexts, ih]
theorem length_nexts (cs : List Int) : ∀ next, (nexts next cs).length = next.length := by
  induction cs with
  | nil => intro next; rfl
  | cons a t ih => intro next; simp only [nexts, ih, length_bump]
theorem length_cells (log : Nat) (cs : List Int) : ∀ next, (cells log next cs).length = cs.length := by
  induction cs with
  | nil => intro next; rfl
  | cons a t ih => intro next; simp only [cells, List.length_cons, ih]
def table (l : List Int) (log : Nat) : List (Int × Int × Int) := cells log l (spread l (2 ^ log))
theorem length_table (l : List Int) (log : Nat) : (table l log).length = 2 ^ log := by unfold table; rw [length_cells, length_spread]

/-- How often a class has come. -/
def cnt (c : Int) (cs : List Int) : Nat := cs.count c
theorem nexts_at (cs : List Int) (h : ∀ c ∈ cs, 0 ≤ c) : ∀ (next : List Int) (c : Nat), c < next.length → (nexts next cs).getD c 0 = next.getD c 0 + (cs.count (c : Int) : Int) := by
  induction cs with
  | nil => intro next c _; simp [nexts]
  | cons a t ih =>
    intro next c hc
    have ha := h a (by simp)
    have := ih (fun x hx => h x (List.mem_cons_of_mem _ hx)) (bump next a.toNat 1) c (by rw [length_bump]; exact hc)
    simp only [nexts, this]
    by_cases hal : a.toNat < next.length
    · rw [getD_bump _ _ _ _ hal, List.count_cons]
      by_cases e : c = a.toNat
      · subst e
        have e2 : (a == ((a.toNat : Nat) : Int)) = true := by rw [beq_iff_eq]; omega
        rw [if_pos rfl, e2]; simp; omega
      · have e2 : (a == (c : Int)) = false := by rw [beq_eq_false_iff_ne]; omega
        rw [if_neg e, e2]; simp
    · have e1 : bump next a.toNat 1 = next := by unfold bump; exact List.set_eq_of_length_le (by omega)
      have e2 : (a == (c : Int)) = false := by rw [beq_eq_false_iff_ne]; omega
      rw [e1, List.count_cons, e2]; simp
end Go.Proofs.Ytbldocbijihpgaa.Sp

-- ---- Np
/- Numbers of a sum in bytes: plain facts. No program in sight. -/
namespace Go.Proofs.Ytbldocbijihpgaa.Np
set_option linter.unusedSimpArgs false
set_option linter.unusedVariables false
open Vt Nl

/-- A text's bytes as numbers. -/
def bsOf (s : ByteArray) : List Nat := s.data.toList.map UInt8.toNat
theorem length_bsOf (s : ByteArray) : (bsOf s).length = s.size := by simp [bsOf]
theorem bsOf_lt (s : ByteArray) : ∀ x ∈ bsOf s, x < 256 := by
  intro x hx
  obtain ⟨b, _, rfl⟩ := List.mem_map.1 hx
  exact UInt8.toNat_lt b
def txt (l : List Nat) : ByteArray := ⟨(l.map UInt8.ofNat).toArray⟩
theorem bsOf_txt (l : List Nat) (h : ∀ x ∈ l, x < 256) : bsOf (txt l) = l := by
  unfold bsOf txt
  simp only [List.map_map]
  conv => rhs; rw [← List.map_id l]
  refine List.map_congr_left fun x hx => ?_
  have := h x hx
  simp; omega
theorem txt_bsOf (s : ByteArray) : txt (bsOf s) = s := by
  unfold bsOf txt
  simp only [List.map_map]
  have : s.data.toList.map (UInt8.ofNat ∘ UInt8.toNat) = s.data.toList := by
    conv => rhs; rw [← List.map_id s.data.toList]
    refine List.map_congr_left fun x hx => ?_
    simp
  rw [this]
theorem bsOf_inj {a b : ByteArray} (h : bsOf a = bsOf b) : a = b := by rw [← txt_bsOf a, h, txt_bsOf]
theorem size_txt (l : List Nat) : (txt l).size = l.length := by simp [txt, ByteArray.size]
theorem bsOf_append (a b : ByteArray) : bsOf (a ++ b) = bsOf a ++ bsOf b := by simp [bsOf]
theorem txt_append (a b : List Nat) : txt (a ++ b) = txt a ++ txt b := by
  apply bsOf_inj
  rw [bsOf_append]
  unfold txt bsOf; simp
theorem bsOf_extract (s : ByteArray) (i j : Nat) : bsOf (s.extract i j) = ((bsOf s).take j).drop i := by
  unfold bsOf
  rw [← List.map_take, ← List.map_drop]
  congr 1
  apply List.ext_getElem?
  intro n
  rw [ByteArray.data_extract, List.getElem?_drop, List.getElem?_take, Array.getElem?_toList, Array.getElem?_extract]
  by_cases h : i + n < j
  · rw [if_pos h]
    by_cases h2 : i + n < s.data.size
    · rw [if_pos (by omega), Array.getElem?_toList]
    · rw [if_neg (by omega)]; rw [Array.getElem?_toList, Array.getElem?_eq_none (by omega)]
  · rw [if_neg h, if_neg (by omega)]

/-- A number at a place, as Go tells it. -/
def vgetE (s : ByteArray) (a : Int) : Int × Int × Int :=
  if a < 0 ∨ (s.size : Int) < a then (0, 0, 1)
  else if (goV 10 true ((bsOf s).drop a.toNat)).2.2 = 0 then ((goV 10 true ((bsOf s).drop a.toNat)).1, a + ((goV 10 true ((bsOf s).drop a.toNat)).2.1 : Int), 0)
  else (0, 0, ((goV 10 true ((bsOf s).drop a.toNat)).2.2 : Int))

/-- Noughts ahead. -/
def runZ : List Int → Nat
  | [] => 0
  | x :: t => if x = 0 then runZ t + 1 else 0
theorem runZ_le (l : List Int) : runZ l ≤ l.length := by
  induction l with
  | nil => simp [runZ]
  | cons x t ih => simp only [runZ]; split <;> simp <;> omega
theorem runZ_at : ∀ (l : List Int) (q : Nat), q < runZ l → l.getD q 0 = 0 := by
  intro l
  induction l with
  | nil => intro q h; simp
  | cons x t ih =>
    intro q h
    simp only [runZ] at h
    split at h
    · rename_i hx
      cases q with
      | zero => simpa using hx
      | succ q => simpa using ih q (by omega)
    · omega
theorem runZ_end (l : List Int) : runZ l = l.length ∨ l.getD (runZ l) 0 ≠ 0 := by
  induction l with
  | nil => left; rfl
  | cons x t ih =>
    simp only [runZ]
    split
    · rcases ih with h | h
      · left; simp; omega
      · right; simpa using h
    · rename_i hx; right; simpa using hx
theorem runZ_take (l : List Int) : l.take (runZ l) = List.replicate (runZ l) 0 := by
  induction l with
  | nil => rfl
  | cons x t ih =>
    simp only [runZ]
    split
    · rename_i hx; subst hx; rw [List.take_succ_cons, ih, List.replicate_succ]
    · rfl
/-- The numbers' bytes. -/
def putF : Nat → List Int → List Nat
  | 0, _ => []
  | _ + 1, [] => []
  | n + 1, x :: t => if x = 0 then 0 :: (putV (runZ t) ++ putF n (t.drop (runZ t))) else putV x.toNat ++ putF n t
theorem putF_more : ∀ (n m : Nat) (l : List Int), l.length ≤ n → n ≤ m → putF m l = putF n l := by
  intro n
  induction n with
  | zero =>
    intro m l hl _
    have : l = [] := List.length_eq_zero_iff.1 (by omega)
    subst this; cases m <;> rfl
  | succ n ih =>
    intro m l hl hm
    obtain ⟨m, rfl⟩ : ∃ k, m = k + 1 := ⟨m - 1, by omega⟩
    cases l with
    | nil => rfl
    | cons x t =>
      simp only [putF]
      by_cases hx : x = 0
      · rw [if_pos hx, if_pos hx, ih m _ (by rw [List.length_drop]; simp at hl ⊢; omega) (by omega)]
      · rw [if_neg hx, if_neg hx, ih m t (by simpa using hl) (by omega)]
def nputL (l : List Int) : List Nat := putF l.length l
theorem nputL_nil : nputL [] = [] := rfl
theorem nputL_zero (t : List Int) : nputL (0 :: t) = 0 :: (putV (runZ t) ++ nputL (t.drop (runZ t))) := by
  show putF (t.length + 1) (0 :: t) = _
  simp only [putF]
  rw [if_pos trivial]
  congr 2
  exact putF_more _ _ _ (Nat.le_refl _) (by rw [List.length_drop]; omega)
theorem nputL_pos (x : Int) (t : List Int) (h : x ≠ 0) : nputL (x :: t) = putV x.toNat ++ nputL t := by
  show putF (t.length + 1) (x :: t) = _
  simp only [putF]; rw [if_neg h]; rfl
theorem putF_byte : ∀ (n : Nat) (l : List Int), ∀ b ∈ putF n l, b < 256 := by
  intro n
  induction n with
  | zero => intro l b h; simp [putF] at h
  | succ n ih =>
    intro l b h
    cases l with
    | nil => simp [putF] at h
    | cons x t =>
      simp only [putF] at h
      split at h
      · rcases List.mem_cons.1 h with rfl | h
        · omega
        · rcases List.mem_append.1 h with h | h
          · exact putV_byte _ b h
          · exact ih _ b h
      · rcases List.mem_append.1 h with h | h
        · exact putV_byte _ b h
        · exact ih _ b h
theorem nputL_byte (l : List Int) : ∀ b ∈ nputL l, b < 256 := putF_byte _ _
theorem putF_len : ∀ (n : Nat) (l : List Int), (∀ x ∈ l, x < 18446744073709551616) → l.length < 1000000 → (putF n l).length ≤ 11 * n := by
  intro n
  induction n with
  | zero => intro l _ _; simp [putF]
  | succ n ih =>
    intro l hl hn
    cases l with
    | nil => simp [putF]
    | cons x t =>
      have ht : ∀ x ∈ t, x < 18446744073709551616 := fun x hx => hl x (List.mem_cons_of_mem _ hx)
      have hnt : t.length < 1000000 := by simp at hn; omega
      simp only [putF]
      split
      · have h1 := putV_len64 (runZ t) (by have := runZ_le t; omega)
        have h2 := ih (t.drop (runZ t)) (fun x hx => ht x (List.mem_of_mem_drop hx)) (by rw [List.length_drop]; omega)
        simp only [List.length_cons, List.length_append]; omega
      · have h1 := putV_len64 x.toNat (by have := hl x (by simp); omega)
        have h2 := ih t ht hnt
        simp only [List.length_append]; omega
theorem nputL_len (l : List Int) (h : ∀ x ∈ l, x < 18446744073709551616) (hn : l.length < 1000000) : (nputL l).length ≤ 11 * l.length := putF_len _ _ h hn

/-- What stands from a place on: the numbers, the place behind them, the error. -/
def parN (bs : List Nat) : Nat → Nat → List Int → List Int × Nat × Nat
  | 0, _, _ => ([], 0, 3)
  | f + 1, k, acc =>
    if 65 ≤ acc.length then (acc, k, 0)
    else if (goV 10 true (bs.drop k)).2.2 ≠ 0 then ([], 0, (goV 10 true (bs.drop k)).2.2)
    else if 0 < (goV 10 true (bs.drop k)).1 then parN bs f (k + (goV 10 true (bs.drop k)).2.1) (acc ++ [((goV 10 true (bs.drop k)).1 : Int)])
    else if (goV 10 true (bs.drop (k + (goV 10 true (bs.drop k)).2.1))).2.2 ≠ 0 then ([], 0, (goV 10 true (bs.drop (k + (goV 10 true (bs.drop k)).2.1))).2.2)
    else if 65 < acc.length + (goV 10 true (bs.drop (k + (goV 10 true (bs.drop k)).2.1))).1 + 1 then ([], 0, 3)
    else parN bs f (k + (goV 10 true (bs.drop k)).2.1 + (goV 10 true (bs.drop (k + (goV 10 true (bs.drop k)).2.1))).2.1) (acc ++ List.replicate ((goV 10 true (bs.drop (k + (goV 10 true (bs.drop k)).2.1))).1 + 1) 0)
/-- Numbers, none greater than c. -/
def capL (c : Int) (l : List Int) : List Int := l.map fun x => min x c
def finN (s : ByteArray) (m : Nat) (a : Int) (r : List Int × Nat × Nat) : List Int × Int × Int :=
  if r.2.2 ≠ 0 then ([], 0, (r.2.2 : Int))
  else if Sp.mayN r.1 a = true ∧ nputL r.1 = ((bsOf s).take r.2.1).drop m then (r.1, (r.2.1 : Int), 0) else ([], 0, 3)
def getNE (s : ByteArray) (at_ : Int) (a : Int) : List Int × Int × Int :=
  if at_ < 0 ∨ (s.size : Int) < at_ ∨ ¬ (7 ≤ a ∧ a ≤ 12) then ([], 0, 1)
  else finN s at_.toNat a (parN (bsOf s) 66 at_.toNat [])
theorem capL_length (c : Int) (l : List Int) : (capL c l).length = l.length := by simp [capL]
theorem capL_id (c : Int) (l : List Int) (h : ∀ x ∈ l, x ≤ c) : capL c l = l := by
  unfold capL
  conv => rhs; rw [← List.map_id l]
  refine List.map_congr_left fun x hx => ?_
  have := h x hx
  simp; omega
theorem capL_snoc (c : Int) (l : List Int) (x : Int) : capL c (l ++ [x]) = capL c l ++ [min x c] := by simp [capL]
theorem capL_zeros (c : Int) (l : List Int) (n : Nat) (h : 0 ≤ c) : capL c (l ++ List.replicate n 0) = capL c l ++ List.replicate n 0 := by
  have e : min 0 c = 0 := by omega
  simp [capL, e]
theorem pow_le12 (a : Int) (h : 7 ≤ a ∧ a ≤ 12) : 2 ^ a.toNat ≤ 4096 ∧ 128 ≤ 2 ^ a.toNat := by
  have h1 : a.toNat = 7 ∨ a.toNat = 8 ∨ a.toNat = 9 ∨ a.toNat = 10 ∨ a.toNat = 11 ∨ a.toNat = 12 := by omega
  rcases h1 with h | h | h | h | h | h <;> rw [h] <;> decide
theorem capL_may (c : Int) (l : List Int) (a : Int) (hc : 4096 < c) : Sp.mayN (capL c l) a = Sp.mayN l a := by
  by_cases hall : ∀ x ∈ l, x ≤ c
  · rw [capL_id c l hall]
  · have hno : ∃ x ∈ l, c < x := by
      apply Classical.byContradiction
      intro h
      exact hall fun x hx => Classical.byContradiction fun h2 => h ⟨x, hx, by omega⟩
    obtain ⟨x, hx, hxc⟩ := hno
    have f1 : Sp.mayN l a = false := by
      unfold Sp.mayN
      rw [decide_eq_false_iff_not]
      rintro ⟨h1, h2, _, h3, _⟩
      have := (h3 x hx).2
      have := (pow_le12 a ⟨h1, h2⟩).1
      omega
    have f2 : Sp.mayN (capL c l) a = false := by
      unfold Sp.mayN
      rw [decide_eq_false_iff_not]
      rintro ⟨h1, h2, _, h3, _⟩
      have := (h3 (min x c) (List.mem_map.2 ⟨x, hx, rfl⟩)).2
      have := (pow_le12 a ⟨h1, h2⟩).1
      omega
    rw [f1, f2]
/-- Which numbers may be need no cap. -/
theorem capL_of_may (c : Int) (l : List Int) (a : Int) (hc : 4096 < c) (h : Sp.mayN l a = true) : capL c l = l := by
  refine capL_id c l fun x hx => ?_
  unfold Sp.mayN at h
  rw [decide_eq_true_eq] at h
  have := (h.2.2.2.1 x hx).2
  have := (pow_le12 a ⟨h.1, h.2.1⟩).1
  omega
end Go.Proofs.Ytbldocbijihpgaa.Np

-- ---- Va
/- vint: a number out of bytes: what the calls answer. Conditions: the text is not longer than a million million bytes. -/
namespace Go.Proofs.Ytbldocbijihpgaa.VintH
set_option linter.unusedSimpArgs false
set_option linter.unusedVariables false
open Go.RowKit Mix _root_.Go.Proofs.Ytbldocbijihpgaa.Own Vt Np Bits
attribute [local go_sem] Own.max_int Own.min_int

theorem and127 (b : Nat) (h : b < 256) : bits .and .u8 (b : Int) 127 = ((b % 128 : Nat) : Int) := by
  have e := u8_and (b : Int) 127 (by omega) (by omega) (by decide) (by decide)
  rw [e, Int.toNat_natCast]
  have : (127 : Int).toNat = 2 ^ 7 - 1 := by decide
  rw [this, Nat.and_two_pow_sub_one_eq_mod]
/-- A group is laid above what there is. -/
theorem or_shl (acc b i : Nat) (hi : i ≤ 9) (hacc : acc < 128 ^ i) (hb : b < 128) (h9 : i = 9 → b ≤ 1) :
    bits .or .u64 (acc : Int) (IntKind.u64.wrap ((b : Int) * 2 ^ (7 * i))) = ((acc + 128 ^ i * b : Nat) : Int) := by
  have hp : (128 : Nat) ^ i = 2 ^ (7 * i) := by rw [Nat.pow_mul]
  have hle : b * 2 ^ (7 * i) < 18446744073709551616 := by
    rcases Nat.lt_or_ge i 9 with h | h
    · have h1 : 2 ^ (7 * i) ≤ 2 ^ 56 := Nat.pow_le_pow_right (by decide) (by omega)
      have h2 : b * 2 ^ (7 * i) ≤ 127 * 2 ^ 56 := Nat.mul_le_mul (by omega) h1
      omega
    · have : i = 9 := by omega
      subst this
      have := h9 rfl
      have h2 : b * 2 ^ (7 * 9) ≤ 1 * 2 ^ 63 := Nat.mul_le_mul (by omega) (Nat.le_refl _)
      omega
  have hac : acc < 18446744073709551616 := by
    have h1 : 2 ^ (7 * i) ≤ 2 ^ 63 := Nat.pow_le_pow_right (by decide) (by omega)
    rw [hp] at hacc; omega
  have e : IntKind.u64.wrap ((b : Int) * 2 ^ (7 * i)) = ((b * 2 ^ (7 * i) : Nat) : Int) := by
    have e0 : (b : Int) * 2 ^ (7 * i) = ((b * 2 ^ (7 * i) : Nat) : Int) := by simp
    rw [e0, IntKind.wrap_u64]; omega
  rw [e, u64_or_nat _ _ hac hle, hp, Nat.mul_comm (2 ^ (7 * i)) b]
  congr 1
  rw [Nat.mul_comm b, Nat.add_comm, Nat.or_comm]
  exact (Nat.two_pow_add_eq_or_of_lt (by rw [← hp]; exact hacc) b).symm
theorem bitLen_gt (b i : Nat) (hb : b < 128) (hi : i ≤ 9) : decide ((64 : Int) - 7 * (i : Int) < (Lib.bitLen b : Int)) = decide (i = 9 ∧ 1 < b) := by
  have key : ∀ x : Fin 128, (Lib.bitLen x.val ≤ 7) ∧ (1 < Lib.bitLen x.val ↔ 1 < x.val) := by decide
  have h := key ⟨b, hb⟩
  simp only at h
  rw [decide_eq_decide]
  omega
def comb (i acc : Nat) (r : Nat × Nat × Nat) : Nat × Nat × Nat := if r.2.2 = 0 then (acc + 128 ^ i * r.1, i + r.2.1, 0) else (0, 0, r.2.2)

theorem bsOf_at (s : ByteArray) (i : Nat) (h : i < s.size) : (bsOf s).drop i = byteS s i :: (bsOf s).drop (i + 1) := by
  have hl := length_bsOf s
  rw [List.drop_eq_getElem_cons (by omega)]
  congr 1
  unfold bsOf byteS
  rw [List.getElem_map, List.getD_eq_getElem?_getD, List.getElem?_eq_getElem (by simpa [bsOf] using hl ▸ h)]; rfl
theorem goV_cons (d : Nat) (f : Bool) (b : Nat) (t : List Nat) : goV (d + 1) f (b :: t) = if d = 0 ∧ 1 < b % 128 then (0, 0, 3) else if b < 128 then (if b = 0 ∧ f = false then (0, 0, 3) else (b, 1, 0))
    else if (goV d false t).2.2 = 0 then (b % 128 + 128 * (goV d false t).1, (goV d false t).2.1 + 1, 0) else (0, 0, (goV d false t).2.2) := rfl
/-- One group more. -/
theorem comb_more (bs : List Nat) (i acc b : Nat) (f : Bool) (t : List Nat) (hi : i ≤ 9) (h9 : ¬ (i = 9 ∧ 1 < b % 128)) (hb : 128 ≤ b) :
    comb i acc (goV (10 - i) f (b :: t)) = comb (i + 1) (acc + 128 ^ i * (b % 128)) (goV (10 - (i + 1)) false t) := by
  obtain ⟨d, hd⟩ : ∃ d, 10 - i = d + 1 := ⟨9 - i, by omega⟩
  have hd2 : 10 - (i + 1) = d := by omega
  rw [hd, hd2, goV_cons, if_neg (by omega), if_neg (by omega)]
  unfold comb
  by_cases h : (goV d false t).2.2 = 0
  · rw [if_pos h, if_pos rfl, if_pos h]
    have e : 128 ^ i * (b % 128 + 128 * (goV d false t).1) = 128 ^ i * (b % 128) + 128 ^ (i + 1) * (goV d false t).1 := by rw [Nat.mul_add, Nat.pow_succ, Nat.mul_assoc]
    simp only [e, Prod.mk.injEq]
    exact ⟨by omega, by omega, trivial⟩
  · rw [if_neg h, if_neg h, if_neg h]
theorem comb_bad (i acc b : Nat) (f : Bool) (t : List Nat) (hi : i ≤ 9) (h9 : i = 9 ∧ 1 < b % 128) : comb i acc (goV (10 - i) f (b :: t)) = (0, 0, 3) := by
  obtain ⟨d, hd⟩ : ∃ d, 10 - i = d + 1 := ⟨9 - i, by omega⟩
  rw [hd, goV_cons, if_pos (by omega)]; rfl
theorem comb_last (i acc b : Nat) (f : Bool) (t : List Nat) (hi : i ≤ 9) (h9 : ¬ (i = 9 ∧ 1 < b % 128)) (hb : b < 128) (h0 : ¬ (b = 0 ∧ f = false)) : comb i acc (goV (10 - i) f (b :: t)) = (acc + 128 ^ i * b, i + 1, 0) := by
  obtain ⟨d, hd⟩ : ∃ d, 10 - i = d + 1 := ⟨9 - i, by omega⟩
  rw [hd, goV_cons, if_neg (by omega), if_pos hb, if_neg h0]; rfl
theorem comb_zero (i acc b : Nat) (f : Bool) (t : List Nat) (hi : i ≤ 9) (h9 : ¬ (i = 9 ∧ 1 < b % 128)) (hb : b < 128) (h0 : b = 0 ∧ f = false) : comb i acc (goV (10 - i) f (b :: t)) = (0, 0, 3) := by
  obtain ⟨d, hd⟩ : ∃ d, 10 - i = d + 1 := ⟨9 - i, by omega⟩
  rw [hd, goV_cons, if_neg (by omega), if_pos hb, if_pos h0]; rfl
theorem comb_start (r : Nat × Nat × Nat) (h : r.2.2 = 0 ∨ r = (0, 0, 2) ∨ r = (0, 0, 3)) : comb 0 0 r = r := by
  unfold comb
  rcases h with h | rfl | rfl
  · obtain ⟨a, b, c⟩ := r
    simp only at h; subst h; simp
  · rfl
  · rfl

set_option maxRecDepth 20000 in
set_option maxHeartbeats 4000000 in
theorem vint_calls (s : ByteArray) (w : World) (hs : s.size ≤ 1000000000000) (r : Nat × Nat × Nat) (hr : r = goV 10 true (bsOf s)) :
    Calls Try.prog 43 #[.agg #[.string s]] w fun e w' => e = .returned (.tuple #[.int .u64 (r.1 : Int), .int .i64 (r.2.1 : Int), .int .i64 (r.2.2 : Int)]) ∧ Below w.heap.size w w' := by
  obtain ⟨N, hN⟩ : ∃ N : Nat, N = min s.size 10 := ⟨_, rfl⟩
  have hmin : Own.mn (s.size : Int) 10 = (N : Int) := by rw [hN, Own.mn_eq]; omega
  have hN10 : N ≤ 10 := by omega
  have hNs : N ≤ s.size := by omega
  have hNe : N = 10 ∨ N = s.size := by omega
  have HR := kept hr
  clear hr hN
  go_enter Try.func43, Try.ntmps43
  go_wp2_with fail
  generalize hwa : World.alloc w _ = wa
  have hG : Blk wa w.heap.size #[.string s] 93 := by rw [← hwa]; exact Blk.fresh _ _ _
  have hcell := hG.cell (i := 0) rfl
  have HB := kept (show Below w.heap.size w wa by rw [← hwa]; exact (Below.refl _ _).alloc (Nat.le_refl _) _)
  have HSt := kept (show comb 0 0 (goV (10 - 0) (decide (0 = 0)) ((bsOf s).drop 0)) = r by rw [List.drop_zero]; rw [HR.out]; exact comb_start _ (goV_err 10 true _))
  clear hwa
  go_loopw [2, 11] (fun s2 s11 wr => ∃ i acc : Nat, i ≤ N ∧ s2 = .int .u64 (acc : Int) ∧ s11 = .int .i64 (i : Int) ∧ wr = wa ∧ acc < 128 ^ i ∧ comb i acc (goV (10 - i) (decide (i = 0)) ((bsOf s).drop i)) = r) (fun _ s11 _ => N - (intOf s11).toNat)
  case atStart => exact ⟨0, 0, by omega, rfl, rfl, rfl, by decide, HSt.out⟩
  case round =>
    obtain ⟨i, acc, hiN, rfl, rfl, rfl, hacc, hst⟩ := hrel
    have HAcc := kept hacc
    have HSt2 := kept hst
    clear hacc hst
    by_cases hlt : i < N
    · have his : i < s.size := by omega
      have hat := bsOf_at s i his
      have hbe := byteS_eq s i his
      have hb := byteS_lt s i
      obtain ⟨b, hbb⟩ : ∃ b, b = byteS s i := ⟨_, rfl⟩
      rw [← hbb] at hat hbe hb
      have h3 := HSt2.out
      rw [hat] at h3
      have e127 := and127 b hb
      have hbl := bitLen_gt (b % 128) i (by omega) (by omega)
      have HL8 := kept (len8_calls (b % 128) wr (by omega))
      have HSt3 := kept h3
      clear hat hbb h3
      by_cases h9 : i = 9 ∧ 1 < b % 128
      · have t1 : decide ((64 : Int) - 7 * (i : Int) < (Lib.bitLen (b % 128) : Int)) = true := by rw [hbl]; exact decide_eq_true h9
        have hf := HSt3.out
        rw [comb_bad i acc b _ _ (by omega) h9] at hf
        have HF := kept hf.symm
        clear hf hbl h9
        go_wp2_with (first | (go_at_call 47; refine HL8.out.mono ?_; rintro e w1 ⟨rfl, rfl⟩))
        refine bodyPost_ret (results_tmp3 rfl _ _ _) rfl ⟨?_, HB.out⟩
        rw [HF.out]; rfl
      · have t1 : decide ((64 : Int) - 7 * (i : Int) < (Lib.bitLen (b % 128) : Int)) = false := by rw [hbl]; exact decide_eq_false h9
        have hos := or_shl acc (b % 128) i (by omega) HAcc.out (by omega) (by omega)
        have hbm : ((b : Int) % 128) = ((b % 128 : Nat) : Int) := by omega
        obtain ⟨acc2, hacc2⟩ : ∃ a, a = acc + 128 ^ i * (b % 128) := ⟨_, rfl⟩
        rw [← hacc2, ← hbm] at hos
        clear hbm
        have hA2 : acc2 < 128 ^ (i + 1) := by
          have h1 := HAcc.out
          have h2 := Nat.mul_le_mul_left (128 ^ i) (show b % 128 ≤ 127 by omega)
          rw [hacc2, Nat.pow_succ]; omega
        have HA2 := kept hA2
        clear hA2
        by_cases h128 : b < 128
        · have h3 := HSt3.out
          have e3 : acc + 128 ^ i * b = acc2 := by rw [hacc2, Nat.mod_eq_of_lt h128]
          by_cases h0 : b = 0 ∧ decide (i = 0) = false
          · rw [comb_zero i acc b _ _ (by omega) h9 h128 h0] at h3
            have hi0 : 0 < i := by have := of_decide_eq_false h0.2; omega
            obtain ⟨hb0, _⟩ := h0
            have HF := kept h3.symm
            subst hb0
            clear h3 hbl h9 hacc2 e3
            go_wp2_with (first | (go_at_call 47; refine HL8.out.mono ?_; rintro e w1 ⟨rfl, rfl⟩))
            refine bodyPost_ret (results_tmp3 rfl _ _ _) rfl ⟨?_, HB.out⟩
            rw [HF.out]; rfl
          · rw [comb_last i acc b _ _ (by omega) h9 h128 h0, e3] at h3
            have HF := kept h3.symm
            by_cases hb0 : b = 0
            · have hi0 : i = 0 := by
                apply Classical.byContradiction
                intro hne
                exact h0 ⟨hb0, decide_eq_false hne⟩
              have tb : ((b : Int) == 0) = true := by rw [beq_iff_eq]; omega
              have ti : decide (0 < i) = false := decide_eq_false (by omega)
              clear h3 hbl h9 hacc2 e3 h0 hi0 hb0
              go_wp2_with (first | (go_at_call 47; refine HL8.out.mono ?_; rintro e w1 ⟨rfl, rfl⟩))
              refine bodyPost_ret (results_tmp3 rfl _ _ _) rfl ⟨?_, HB.out⟩
              rw [HF.out]; rfl
            · clear h3 hbl h9 hacc2 e3 h0
              go_wp2_with (first | (go_at_call 47; refine HL8.out.mono ?_; rintro e w1 ⟨rfl, rfl⟩))
              refine bodyPost_ret (results_tmp3 rfl _ _ _) rfl ⟨?_, HB.out⟩
              rw [HF.out]; rfl
        · have h3 := HSt3.out
          rw [comb_more (bsOf s) i acc b _ _ (by omega) h9 (by omega), ← hacc2] at h3
          have HSt4 := kept h3
          clear h3 hbl h9 hacc2
          go_wp2_with (first | (go_at_call 47; refine HL8.out.mono ?_; rintro e w1 ⟨rfl, rfl⟩))
          go_roundw
          case rel => exact ⟨i + 1, acc2, by omega, rfl, by go_num, trivial, HA2.out, by simpa using HSt4.out⟩
          case measure => simp [intOf]; omega
    · have hie : i = N := by omega
      subst hie
      have h3 := HSt2.out
      by_cases h10 : i = 10
      · subst h10
        have HF : Kept (r = (0, 0, 3)) := kept (by rw [← h3]; rfl)
        clear h3 hNe hlt
        go_wp2_with fail
        refine bodyPost_ret (results_tmp3 rfl _ _ _) rfl ⟨?_, HB.out⟩
        rw [HF.out]; rfl
      · have his : i = s.size := by omega
        have hd : (bsOf s).drop i = [] := List.drop_eq_nil_of_le (by rw [length_bsOf]; omega)
        have HF : Kept (r = (0, 0, 2)) := kept (by
          rw [hd, show 10 - i = (9 - i) + 1 by omega] at h3
          rw [← h3]; rfl)
        have hlt10 : s.size < 10 := by omega
        clear h3 hNe hlt hd
        go_wp2_with fail
        refine bodyPost_ret (results_tmp3 rfl _ _ _) rfl ⟨?_, HB.out⟩
        rw [HF.out]; rfl

/-- A number at a place. -/
theorem read_calls (s : ByteArray) (a : Int) (w : World) (hs : s.size ≤ 1000000000000) (r1 r2 r3 : Int) (hr : vgetE s a = (r1, r2, r3)) :
    Calls Try.prog 42 #[.string s, .int .i64 a, .func (.func 43) #[] #[]] w fun e w' => e = .returned (.tuple #[.int .u64 r1, .int .i64 r2, .int .i64 r3]) ∧ Below w.heap.size w w' := by
  by_cases h0 : a < 0
  · have t1 : decide (a < 0) = true := decide_eq_true h0
    have e : vgetE s a = (0, 0, 1) := by unfold vgetE; rw [if_pos (.inl h0)]
    rw [e] at hr
    cases hr
    clear e
    go_enter Try.func42, Try.ntmps42
    go_wp2_with fail
    go_ret3
    exact ⟨rfl, Below.refl _ _⟩
  · have t1 : decide (a < 0) = false := decide_eq_false h0
    by_cases h1 : (s.size : Int) < a
    · have t2 : decide ((s.size : Int) < a) = true := decide_eq_true h1
      have e : vgetE s a = (0, 0, 1) := by unfold vgetE; rw [if_pos (.inr h1)]
      rw [e] at hr
      cases hr
      clear e
      go_enter Try.func42, Try.ntmps42
      go_wp2_with fail
      go_ret3
      exact ⟨rfl, Below.refl _ _⟩
    · have t2 : decide ((s.size : Int) < a) = false := decide_eq_false h1
      obtain ⟨m, rfl⟩ := Int.eq_ofNat_of_zero_le (show 0 ≤ a by omega)
      have hm : m ≤ s.size := by omega
      have hz : (s.extract m s.size).size ≤ 1000000000000 := by simp [ByteArray.size_extract]; omega
      obtain ⟨r, hrr⟩ : ∃ r, r = goV 10 true (bsOf (s.extract m s.size)) := ⟨_, rfl⟩
      have hc := vint_calls (s.extract m s.size) w hz r hrr
      have hbs : bsOf (s.extract m s.size) = (bsOf s).drop m := by
        rw [bsOf_extract, List.take_of_length_le (by rw [length_bsOf]; omega)]
      have he : vgetE s (m : Int) = if r.2.2 = 0 then ((r.1 : Int), (m : Int) + (r.2.1 : Int), 0) else (0, 0, (r.2.2 : Int)) := by
        unfold vgetE
        rw [if_neg (by omega), Int.toNat_natCast, ← hbs, ← hrr]
      rw [hr] at he
      have hsz := goV_size 10 true (bsOf (s.extract m s.size))
      rw [← hrr] at hsz
      obtain ⟨q1, q2, q3⟩ := r
      simp only at hc he hsz
      have HC := kept hc
      have HE := kept he
      clear hc he hrr hbs hz hr h0 h1
      by_cases h3 : q3 = 0
      · subst h3
        obtain ⟨_, _, hq⟩ := hsz rfl
        go_enter Try.func42, Try.ntmps42
        go_wp2_with (first | (go_at_call 43; refine HC.out.mono ?_; rintro e w1 ⟨rfl, hb⟩))
        go_ret3
        have h := HE.out
        rw [if_pos trivial] at h
        simp only [Prod.mk.injEq] at h
        obtain ⟨rfl, rfl, rfl⟩ := h
        exact ⟨by first | rfl | trace_state, hb⟩
      · have t3 : ((q3 : Int) != 0) = true := by rw [bne_iff_ne]; omega
        go_enter Try.func42, Try.ntmps42
        go_wp2_with (first | (go_at_call 43; refine HC.out.mono ?_; rintro e w1 ⟨rfl, hb⟩))
        go_ret3
        have h := HE.out
        rw [if_neg h3] at h
        simp only [Prod.mk.injEq] at h
        obtain ⟨rfl, rfl, rfl⟩ := h
        exact ⟨by first | rfl | trace_state, hb⟩
theorem get_calls (s : ByteArray) (a : Int) (w : World) (hs : s.size ≤ 1000000000000) (r1 r2 r3 : Int) (hr : vgetE s a = (r1, r2, r3)) :
    Calls Try.prog 31 #[.string s, .int .i64 a] w fun e w' => e = .returned (.tuple #[.int .u64 r1, .int .i64 r2, .int .i64 r3]) ∧ Below w.heap.size w w' := by
  have HC := kept (read_calls s a w hs r1 r2 r3 hr)
  clear hr
  go_enter Try.func31, Try.ntmps31
  go_wp2_with (first | (go_at_call 42; refine HC.out.mono ?_; rintro e w1 ⟨rfl, hb⟩))
  go_ret3
  exact ⟨rfl, hb⟩
end Go.Proofs.Ytbldocbijihpgaa.VintH

-- ---- PAx0

namespace Go.Proofs.Ytbldocbijihpgaa.PA
open Go.RowKit Go.Proofs.YtbldocbijihpgaaW.PrintWords Go.Proofs.YtbldocbijihpgaaW.PrintLast Go.Proofs.YtbldocbijihpgaaW.PrintMore
attribute [local go_sem] max2_int min2_int max_two min_two max_three min_three max_four min_four   -- for this text's walks alone
set_option linter.unusedVariables false
set_option linter.unusedSimpArgs false



def errW : Option Int → Value
  | none => .nilIface
  | some c => .iface 0 (.int .i64 c)
theorem errW_none : errW none = .nilIface := rfl
theorem errW_some (c : Int) : errW (some c) = .iface 0 (.int .i64 c) := rfl

theorem info3 : (Try.prog.info? 3).map (fun i => (i.zero, i.size, i.bytes)) = some (some (.int .i64 0), 1, 8) := by kernel_rfl
theorem info5 : (Try.prog.info? 5).map (fun i => (i.zero, i.size, i.bytes)) = some (some (.int .u8 0), 1, 1) := by kernel_rfl
-- the values' own types
/-! #### struct type 78 -/
structure S78 where
  f0 : Int
  f1 : Int
def z78 : S78 := ⟨(0 : Int), (0 : Int)⟩
def k78 : Kd S78 := Kd.iso (Kd.pair (Kd.int .i64) (Kd.int .i64)) (fun x : S78 => (x.f0, x.f1))
theorem k78_open {w : World} {x : S78} {cs : List Value} (h : k78.K w x cs) : cs = [.int .i64 x.f0, .int .i64 x.f1] := by
  obtain ⟨_, _, rfl, rfl, rfl⟩ := h
  exact rfl
theorem k78_openM {w : World} {base : Nat} {ok : Nat → Prop} {x : S78} {cs : List Value} (h : k78.M w base ok x cs) : cs = [.int .i64 x.f0, .int .i64 x.f1] := by
  obtain ⟨_, _, rfl, rfl, rfl⟩ := h
  exact rfl
theorem k78_mk (w : World) (x : S78)  : k78.K w x [.int .i64 x.f0, .int .i64 x.f1] := ⟨[.int .i64 x.f0], [.int .i64 x.f1], rfl, rfl, rfl⟩
theorem k78_mkM (w : World) (base : Nat) (ok : Nat → Prop) (x : S78)  : k78.M w base ok x [.int .i64 x.f0, .int .i64 x.f1] := ⟨[.int .i64 x.f0], [.int .i64 x.f1], rfl, rfl, rfl⟩
def rd_T78 (xs : List S78) (i : Int) : S78 := xs.getD i.toNat z78
theorem at_T78 {w : World} {A : Option Addr} {n : Nat} {xs : List S78} (h : Kd.C k78 w A n xs) (i : Int) (h0 : 0 ≤ i) (h1 : i < n) : ∃ ad , A = some ad ∧ w.cell? (ad.add (i.toNat * 2)) = some (.int .i64 (rd_T78 xs i).f0) ∧ w.cell? ⟨(ad.add (i.toNat * 2)).block, (ad.add (i.toNat * 2)).off + 1, none⟩ = some (.int .i64 (rd_T78 xs i).f1) := by
  obtain ⟨ad, c, e, _, hK, hc0⟩ := Kd.C_get h z78 i h0 h1
  have hc : ∀ j u, c[j]? = some u → w.cell? (ad.add (i.toNat * 2 + j)) = some u := hc0
  obtain rfl := k78_open hK
  exact ⟨ad, e, hc 0 _ rfl, by rw [← add_field _ _ 1 (by omega)]; exact hc 1 _ rfl⟩

end Go.Proofs.Ytbldocbijihpgaa.PA

-- ---- PAx25

namespace Go.Proofs.Ytbldocbijihpgaa.PA
open Go.RowKit Go.Proofs.YtbldocbijihpgaaW.PrintWords Go.Proofs.YtbldocbijihpgaaW.PrintLast Go.Proofs.YtbldocbijihpgaaW.PrintMore
attribute [local go_sem] max2_int min2_int max_two min_two max_three min_three max_four min_four   -- for this text's walks alone
set_option linter.unusedVariables false
set_option linter.unusedSimpArgs false

/-! ### vint_Put: function 34 -/
def vint_Put.l0 : Nat → Int → List Int → Option (ByteArray)
  | 0, _, _ => none
  | k + 1, x0, x3 => if x0 ≥ 128 then (if x3.length < 140737488355328 then (vint_Put.l0 k (x0 / 128) (x3 ++ [Go.bits .or .u8 ((x0) % 256) 128])) else (none)) else (if x3.length < 140737488355328 then (some (strOfNums (x3 ++ [(x0) % 256]))) else (none))
def vint_Put.f (k : Nat) (a0 : Int) : Option (ByteArray) := vint_Put.l0 k a0 ([] : List Int)
theorem vint_Put.mono_l : ∀ k, (∀ y0 y1, LeO (vint_Put.l0 k y0 y1) (vint_Put.l0 (k + 1) y0 y1))
  | 0 => fun _ _ r h => by simp [vint_Put.l0] at h
  | k + 1 => by
    have ih0 := vint_Put.mono_l k
    · intro y0 y1
      unfold vint_Put.l0
      repeat' first
      | (with_reducible exact ih0 _ _)
      | (with_reducible exact LeO.refl _)
      | (with_reducible exact LeO.none _)
      | (with_reducible refine LeO.ite ?_ ?_)
      | (with_reducible refine LeO.bind ?_ (fun _ => ?_))
      | exact ih0 _ _
      | exact LeO.none _
      | refine LeO.ite ?_ ?_
      | refine LeO.bind ?_ (fun _ => ?_)
theorem vint_Put.mono : ∀ a0 k, LeO (vint_Put.f k a0) (vint_Put.f (k + 1) a0) := by
  intro a0 k
  have ih0 := vint_Put.mono_l k
  unfold vint_Put.f
  repeat' first
      | (with_reducible exact ih0 _ _)
      | (with_reducible exact LeO.refl _)
      | (with_reducible exact LeO.none _)
      | (with_reducible refine LeO.ite ?_ ?_)
      | (with_reducible refine LeO.bind ?_ (fun _ => ?_))
      | exact ih0 _ _
      | exact LeO.none _
      | refine LeO.ite ?_ ?_
      | refine LeO.bind ?_ (fun _ => ?_)
set_option maxHeartbeats 8000000 in
set_option maxRecDepth 100000 in
theorem vint_Put.calls (k : Nat) (a0 : Int) (r : ByteArray) (w : World) (h : vint_Put.f k a0 = some r) :
    Calls Try.prog 34 #[.int .u64 a0] w fun e w' => e = .returned (.string r) ∧ Below w.heap.size w w' := by
  have HB := Aside0.mk (Below.refl w.heap.size w)
  have H : (vint_Put.l0 k a0 ([] : List Int)) = some r := h
  clear h
  have H' := Aside0.mk H
  clear H
  go_enter Try.func34, Try.ntmps34
  go_wp2
  go_loopg [0, 3] k (fun kq v0 v3 w' => ∃ (x0_1 : Int) (x3_1 : List Int), v0 = .int .u64 x0_1 ∧ Aside0 (vint_Put.l0 kq x0_1 x3_1 = some r) ∧ Aside0 (kq ≤ k) ∧ Aside0 (Kd.R (Kd.int .u8) 5 w' w.heap.size (fun _ => True) v3 x3_1) ∧ Aside0 (Below w.heap.size w w'))
  case atStart => exact ⟨(a0), (([] : List Int)), (by first | rfl | (simp; done) | (simp [*]; done)), H', ⟨Nat.le_refl _⟩, ⟨by first | exact Kd.R_nil _ _ _ _ _ | exact Kd.N_nil _ _ _ _ _ | exact Kd.V_nil _ _ _ _ _ | exact Kd.Q_nil _ _ _ _ _ | exact Kd.S_nil _ _ _ _ _⟩, ⟨by repeat (first | (with_reducible first | exact HB.out | apply below_alloc | apply pw_below_drewN | apply below_drew1) | exact HB.out)⟩⟩
  case round =>
    clear H'
    obtain ⟨x0_1, x3_1, rfl, HA, HK1, HO_3, HB⟩ := hrel
    cases gk with
    | zero => exact absurd HA.out (by simp [vint_Put.l0])
    | succ k1 =>
      have H := HA.out
      clear HA
      simp only [vint_Put.l0] at H
      by_cases c2 : x0_1 ≥ 128
      · rw [if_pos c2] at H
        have c2b0 : decide (128 ≤ x0_1) = true := decide_eq_true c2
        clear c2
        by_cases c3 : x3_1.length < 140737488355328
        · rw [if_pos c3] at H
          have LMc3 := Aside0.mk c3
          clear c3
          obtain ⟨y145, hy145⟩ : ∃ y_ : List Int, y_ = (x3_1 ++ [Go.bits .or .u8 ((x0_1) % 256) 128]) := ⟨_, rfl⟩
          replace H : (vint_Put.l0 k1 (x0_1 / 128) y145) = some r := by first | (rw [hy145]; with_reducible exact H) | (have H2_ := (Option.bind_some _ _).symm.trans H; rw [hy145]; with_reducible exact H2_) | (have H2_ := (Option.bind_some _ _).symm.trans H; with_reducible exact H2_) | with_reducible exact H | (rw [hy145]; exact H) | exact H
          have Ny145 := Aside0.mk hy145
          clear hy145
          have H' := Aside0.mk H
          clear H
          go_wp2_with (first | ((with_reducible refine gate_builtin (b := .append) (xs := #[.tmp 8, .tmp 12]) rfl ?_); at_builtin; refine Kd.R_append (Kd.int .u8) (w0 := w) w.heap.size rfl (.tmp 8) (.tmp 12) 45 5 (.int .u8 0) 1 rfl Try.underlying45 info5 rfl (by decide) (by omega) u3 x3_1 (Go.bits .or .u8 ((x0_1) % 256) 128) [.int .u8 (Go.bits .or .u8 ((x0_1) % 256) 128)] (fun _ => True) (fun _ => False) rfl rfl ?aP (fun _ hk => hk.elim) ?aF ?aO ?aB ?aS ?aL ?_; (case aP => exact rfl); (case aB => exact (by repeat (first | (with_reducible first | exact HB.out | apply below_alloc | apply pw_below_drewN | apply below_drew1) | exact HB.out))); (case aF => exact (fun _ _ => trivial)); (case aO => exact (by (with_reducible repeat (first | apply Kd.R_alloc | apply Kd.R_drewN | apply Kd.R_drew)); exact HO_3.out)); (case aS => exact (below_size (by repeat (first | (with_reducible first | exact HB.out | apply below_alloc | apply pw_below_drewN | apply below_drew1) | exact HB.out)))); (case aL => have := LMc3.out; omega); intro v146 w4 ho hb hg hat; rw [← Ny145.out] at ho; have n0_ := Aside0.mk (hb); have n1_ := Aside0.mk (ho); clear HB; clear HO_3; have HB := n0_; have HO147 := n1_; clear n0_ n1_; clear ho hb hg hat))
          go_roundg k1
          case measure => have := HK1.out; omega
          case rel => exact ⟨(x0_1 / 128), (y145), (by first | rfl | (simp; done) | (simp [*]; done)), H', ⟨by have := HK1.out; omega⟩, ⟨by (with_reducible repeat (first | apply Kd.R_alloc | apply Kd.R_drewN | apply Kd.R_drew)); exact HO147.out⟩, ⟨by repeat (first | (with_reducible first | exact HB.out | apply below_alloc | apply pw_below_drewN | apply below_drew1) | exact HB.out)⟩⟩
        · rw [if_neg c3] at H
          exact absurd H (by simp)
      · rw [if_neg c2] at H
        have c2b0 : decide (128 ≤ x0_1) = false := decide_eq_false c2
        clear c2
        by_cases c5 : x3_1.length < 140737488355328
        · rw [if_pos c5] at H
          have LMc5 := Aside0.mk c5
          clear c5
          obtain ⟨y148, hy148⟩ : ∃ y_ : List Int, y_ = (x3_1 ++ [(x0_1) % 256]) := ⟨_, rfl⟩
          replace H : (some (strOfNums y148)) = some r := by first | (rw [hy148]; with_reducible exact H) | (have H2_ := (Option.bind_some _ _).symm.trans H; rw [hy148]; with_reducible exact H2_) | (have H2_ := (Option.bind_some _ _).symm.trans H; with_reducible exact H2_) | with_reducible exact H | (rw [hy148]; exact H) | exact H
          have Ny148 := Aside0.mk hy148
          clear hy148
          obtain rfl := Option.some.inj H
          go_wp2_with (first | ((with_reducible refine gate_builtin (b := .append) (xs := #[.tmp 14, .tmp 17]) rfl ?_); at_builtin; refine Kd.R_append (Kd.int .u8) (w0 := w) w.heap.size rfl (.tmp 14) (.tmp 17) 45 5 (.int .u8 0) 1 rfl Try.underlying45 info5 rfl (by decide) (by omega) u3 x3_1 ((x0_1) % 256) [.int .u8 ((x0_1) % 256)] (fun _ => True) (fun _ => False) rfl rfl ?aP (fun _ hk => hk.elim) ?aF ?aO ?aB ?aS ?aL ?_; (case aP => exact rfl); (case aB => exact (by repeat (first | (with_reducible first | exact HB.out | apply below_alloc | apply pw_below_drewN | apply below_drew1) | exact HB.out))); (case aF => exact (fun _ _ => trivial)); (case aO => exact (by (with_reducible repeat (first | apply Kd.R_alloc | apply Kd.R_drewN | apply Kd.R_drew)); exact HO_3.out)); (case aS => exact (below_size (by repeat (first | (with_reducible first | exact HB.out | apply below_alloc | apply pw_below_drewN | apply below_drew1) | exact HB.out)))); (case aL => have := LMc5.out; omega); intro v149 w6 ho hb hg hat; rw [← Ny148.out] at ho; have n0_ := Aside0.mk (hb); have n1_ := Aside0.mk (ho); clear HB; clear HO_3; have HB := n0_; have HO150 := n1_; clear n0_ n1_; clear ho hb hg hat; have hcv7 := own_string (P := Try.prog) Try.underlying45 Try.underlying5 Try.underlying9 (Kd.own_of_R HO150.out)))
          go_ret
          exact ⟨by first | rfl | (simp [errW_none, errW_some] <;> rfl) | (simp [*, errW_none, errW_some] <;> rfl), by repeat (first | (with_reducible first | exact HB.out | apply below_alloc | apply pw_below_drewN | apply below_drew1) | exact HB.out)⟩
        · rw [if_neg c5] at H
          exact absurd H (by simp)

end Go.Proofs.Ytbldocbijihpgaa.PA

-- ---- PAx30

namespace Go.Proofs.Ytbldocbijihpgaa.PA
open Go.RowKit Go.Proofs.YtbldocbijihpgaaW.PrintWords Go.Proofs.YtbldocbijihpgaaW.PrintLast Go.Proofs.YtbldocbijihpgaaW.PrintMore
attribute [local go_sem] max2_int min2_int max_two min_two max_three min_three max_four min_four   -- for this text's walks alone
set_option linter.unusedVariables false
set_option linter.unusedSimpArgs false

/-! ### wringerref1_PutVint: function 36 -/
def wringerref1_PutVint.l0 : Nat → Int → List Int → Option (ByteArray)
  | 0, _, _ => none
  | k + 1, x0, x3 => if x0 ≥ 128 then (if x3.length < 140737488355328 then (wringerref1_PutVint.l0 k (x0 / 128) (x3 ++ [Go.bits .or .u8 ((x0) % 256) 128])) else (none)) else (if x3.length < 140737488355328 then (some (strOfNums (x3 ++ [(x0) % 256]))) else (none))
def wringerref1_PutVint.f (k : Nat) (a0 : Int) : Option (ByteArray) := wringerref1_PutVint.l0 k a0 ([] : List Int)
theorem wringerref1_PutVint.mono_l : ∀ k, (∀ y0 y1, LeO (wringerref1_PutVint.l0 k y0 y1) (wringerref1_PutVint.l0 (k + 1) y0 y1))
  | 0 => fun _ _ r h => by simp [wringerref1_PutVint.l0] at h
  | k + 1 => by
    have ih0 := wringerref1_PutVint.mono_l k
    · intro y0 y1
      unfold wringerref1_PutVint.l0
      repeat' first
      | (with_reducible exact ih0 _ _)
      | (with_reducible exact LeO.refl _)
      | (with_reducible exact LeO.none _)
      | (with_reducible refine LeO.ite ?_ ?_)
      | (with_reducible refine LeO.bind ?_ (fun _ => ?_))
      | exact ih0 _ _
      | exact LeO.none _
      | refine LeO.ite ?_ ?_
      | refine LeO.bind ?_ (fun _ => ?_)
theorem wringerref1_PutVint.mono : ∀ a0 k, LeO (wringerref1_PutVint.f k a0) (wringerref1_PutVint.f (k + 1) a0) := by
  intro a0 k
  have ih0 := wringerref1_PutVint.mono_l k
  unfold wringerref1_PutVint.f
  repeat' first
      | (with_reducible exact ih0 _ _)
      | (with_reducible exact LeO.refl _)
      | (with_reducible exact LeO.none _)
      | (with_reducible refine LeO.ite ?_ ?_)
      | (with_reducible refine LeO.bind ?_ (fun _ => ?_))
      | exact ih0 _ _
      | exact LeO.none _
      | refine LeO.ite ?_ ?_
      | refine LeO.bind ?_ (fun _ => ?_)
set_option maxHeartbeats 8000000 in
set_option maxRecDepth 100000 in
theorem wringerref1_PutVint.calls (k : Nat) (a0 : Int) (r : ByteArray) (w : World) (h : wringerref1_PutVint.f k a0 = some r) :
    Calls Try.prog 36 #[.int .u64 a0] w fun e w' => e = .returned (.string r) ∧ Below w.heap.size w w' := by
  have HB := Aside0.mk (Below.refl w.heap.size w)
  have H : (wringerref1_PutVint.l0 k a0 ([] : List Int)) = some r := h
  clear h
  have H' := Aside0.mk H
  clear H
  go_enter Try.func36, Try.ntmps36
  go_wp2
  go_loopg [0, 3] k (fun kq v0 v3 w' => ∃ (x0_1 : Int) (x3_1 : List Int), v0 = .int .u64 x0_1 ∧ Aside0 (wringerref1_PutVint.l0 kq x0_1 x3_1 = some r) ∧ Aside0 (kq ≤ k) ∧ Aside0 (Kd.R (Kd.int .u8) 5 w' w.heap.size (fun _ => True) v3 x3_1) ∧ Aside0 (Below w.heap.size w w'))
  case atStart => exact ⟨(a0), (([] : List Int)), (by first | rfl | (simp; done) | (simp [*]; done)), H', ⟨Nat.le_refl _⟩, ⟨by first | exact Kd.R_nil _ _ _ _ _ | exact Kd.N_nil _ _ _ _ _ | exact Kd.V_nil _ _ _ _ _ | exact Kd.Q_nil _ _ _ _ _ | exact Kd.S_nil _ _ _ _ _⟩, ⟨by repeat (first | (with_reducible first | exact HB.out | apply below_alloc | apply pw_below_drewN | apply below_drew1) | exact HB.out)⟩⟩
  case round =>
    clear H'
    obtain ⟨x0_1, x3_1, rfl, HA, HK1, HO_3, HB⟩ := hrel
    cases gk with
    | zero => exact absurd HA.out (by simp [wringerref1_PutVint.l0])
    | succ k1 =>
      have H := HA.out
      clear HA
      simp only [wringerref1_PutVint.l0] at H
      by_cases c2 : x0_1 ≥ 128
      · rw [if_pos c2] at H
        have c2b0 : decide (128 ≤ x0_1) = true := decide_eq_true c2
        clear c2
        by_cases c3 : x3_1.length < 140737488355328
        · rw [if_pos c3] at H
          have LMc3 := Aside0.mk c3
          clear c3
          obtain ⟨y164, hy164⟩ : ∃ y_ : List Int, y_ = (x3_1 ++ [Go.bits .or .u8 ((x0_1) % 256) 128]) := ⟨_, rfl⟩
          replace H : (wringerref1_PutVint.l0 k1 (x0_1 / 128) y164) = some r := by first | (rw [hy164]; with_reducible exact H) | (have H2_ := (Option.bind_some _ _).symm.trans H; rw [hy164]; with_reducible exact H2_) | (have H2_ := (Option.bind_some _ _).symm.trans H; with_reducible exact H2_) | with_reducible exact H | (rw [hy164]; exact H) | exact H
          have Ny164 := Aside0.mk hy164
          clear hy164
          have H' := Aside0.mk H
          clear H
          go_wp2_with (first | ((with_reducible refine gate_builtin (b := .append) (xs := #[.tmp 6, .tmp 10]) rfl ?_); at_builtin; refine Kd.R_append (Kd.int .u8) (w0 := w) w.heap.size rfl (.tmp 6) (.tmp 10) 45 5 (.int .u8 0) 1 rfl Try.underlying45 info5 rfl (by decide) (by omega) u3 x3_1 (Go.bits .or .u8 ((x0_1) % 256) 128) [.int .u8 (Go.bits .or .u8 ((x0_1) % 256) 128)] (fun _ => True) (fun _ => False) rfl rfl ?aP (fun _ hk => hk.elim) ?aF ?aO ?aB ?aS ?aL ?_; (case aP => exact rfl); (case aB => exact (by repeat (first | (with_reducible first | exact HB.out | apply below_alloc | apply pw_below_drewN | apply below_drew1) | exact HB.out))); (case aF => exact (fun _ _ => trivial)); (case aO => exact (by (with_reducible repeat (first | apply Kd.R_alloc | apply Kd.R_drewN | apply Kd.R_drew)); exact HO_3.out)); (case aS => exact (below_size (by repeat (first | (with_reducible first | exact HB.out | apply below_alloc | apply pw_below_drewN | apply below_drew1) | exact HB.out)))); (case aL => have := LMc3.out; omega); intro v165 w4 ho hb hg hat; rw [← Ny164.out] at ho; have n0_ := Aside0.mk (hb); have n1_ := Aside0.mk (ho); clear HB; clear HO_3; have HB := n0_; have HO166 := n1_; clear n0_ n1_; clear ho hb hg hat))
          go_roundg k1
          case measure => have := HK1.out; omega
          case rel => exact ⟨(x0_1 / 128), (y164), (by first | rfl | (simp; done) | (simp [*]; done)), H', ⟨by have := HK1.out; omega⟩, ⟨by (with_reducible repeat (first | apply Kd.R_alloc | apply Kd.R_drewN | apply Kd.R_drew)); exact HO166.out⟩, ⟨by repeat (first | (with_reducible first | exact HB.out | apply below_alloc | apply pw_below_drewN | apply below_drew1) | exact HB.out)⟩⟩
        · rw [if_neg c3] at H
          exact absurd H (by simp)
      · rw [if_neg c2] at H
        have c2b0 : decide (128 ≤ x0_1) = false := decide_eq_false c2
        clear c2
        by_cases c5 : x3_1.length < 140737488355328
        · rw [if_pos c5] at H
          have LMc5 := Aside0.mk c5
          clear c5
          obtain ⟨y167, hy167⟩ : ∃ y_ : List Int, y_ = (x3_1 ++ [(x0_1) % 256]) := ⟨_, rfl⟩
          replace H : (some (strOfNums y167)) = some r := by first | (rw [hy167]; with_reducible exact H) | (have H2_ := (Option.bind_some _ _).symm.trans H; rw [hy167]; with_reducible exact H2_) | (have H2_ := (Option.bind_some _ _).symm.trans H; with_reducible exact H2_) | with_reducible exact H | (rw [hy167]; exact H) | exact H
          have Ny167 := Aside0.mk hy167
          clear hy167
          obtain rfl := Option.some.inj H
          go_wp2_with (first | ((with_reducible refine gate_builtin (b := .append) (xs := #[.tmp 14, .tmp 17]) rfl ?_); at_builtin; refine Kd.R_append (Kd.int .u8) (w0 := w) w.heap.size rfl (.tmp 14) (.tmp 17) 45 5 (.int .u8 0) 1 rfl Try.underlying45 info5 rfl (by decide) (by omega) u3 x3_1 ((x0_1) % 256) [.int .u8 ((x0_1) % 256)] (fun _ => True) (fun _ => False) rfl rfl ?aP (fun _ hk => hk.elim) ?aF ?aO ?aB ?aS ?aL ?_; (case aP => exact rfl); (case aB => exact (by repeat (first | (with_reducible first | exact HB.out | apply below_alloc | apply pw_below_drewN | apply below_drew1) | exact HB.out))); (case aF => exact (fun _ _ => trivial)); (case aO => exact (by (with_reducible repeat (first | apply Kd.R_alloc | apply Kd.R_drewN | apply Kd.R_drew)); exact HO_3.out)); (case aS => exact (below_size (by repeat (first | (with_reducible first | exact HB.out | apply below_alloc | apply pw_below_drewN | apply below_drew1) | exact HB.out)))); (case aL => have := LMc5.out; omega); intro v168 w6 ho hb hg hat; rw [← Ny167.out] at ho; have n0_ := Aside0.mk (hb); have n1_ := Aside0.mk (ho); clear HB; clear HO_3; have HB := n0_; have HO169 := n1_; clear n0_ n1_; clear ho hb hg hat; have hcv7 := own_string (P := Try.prog) Try.underlying45 Try.underlying5 Try.underlying9 (Kd.own_of_R HO169.out)))
          go_ret
          exact ⟨by first | rfl | (simp [errW_none, errW_some] <;> rfl) | (simp [*, errW_none, errW_some] <;> rfl), by repeat (first | (with_reducible first | exact HB.out | apply below_alloc | apply pw_below_drewN | apply below_drew1) | exact HB.out)⟩
        · rw [if_neg c5] at H
          exact absurd H (by simp)

end Go.Proofs.Ytbldocbijihpgaa.PA

-- ---- PAx32

namespace Go.Proofs.Ytbldocbijihpgaa.PA
open Go.RowKit Go.Proofs.YtbldocbijihpgaaW.PrintWords Go.Proofs.YtbldocbijihpgaaW.PrintLast Go.Proofs.YtbldocbijihpgaaW.PrintMore
attribute [local go_sem] max2_int min2_int max_two min_two max_three min_three max_four min_four   -- for this text's walks alone
set_option linter.unusedVariables false
set_option linter.unusedSimpArgs false

/-! ### wringerref1_GetVint: function 32 -/
mutual
def wringerref1_GetVint.j0 : Nat → ByteArray → Int → Bool → Option (Int × Int × Int)
  | 0, _, _, _ => none
  | k + 1, x0, x1, x15 => if x15 = true then (some (0, 0, 1)) else (wringerref1_GetVint.l0 k x0 x1 0 0)
def wringerref1_GetVint.l0 : Nat → ByteArray → Int → Int → Int → Option (Int × Int × Int)
  | 0, _, _, _, _ => none
  | k + 1, x0, x1, x5, x6 => if x6 < 10 then (if (wrap64 (x1 + x6)) ≥ (x0.size : Int) then (some (0, 0, 2)) else (if 0 ≤ (wrap64 (x1 + x6)) then (if (wrap64 (x1 + x6)) < (x0.size : Int) then (if 0 ≤ (wrap64 (7 * x6)) then (if (bt x0 (wrap64 (x1 + x6))) < 128 then ((wringerref1_PutVint.f k (Go.bits .or .u64 x5 (shl .u64 (IntKind.u64.wrap (Go.bits .and .u8 (bt x0 (wrap64 (x1 + x6))) 127)) (wrap64 (7 * x6))))).bind fun t177 => (if 0 ≤ x1 then (if x1 ≤ (wrap64 ((wrap64 (x1 + x6)) + 1)) then (if (wrap64 ((wrap64 (x1 + x6)) + 1)) ≤ (x0.size : Int) then (if t177.toList = (x0.extract (x1 : Int).toNat ((wrap64 ((wrap64 (x1 + x6)) + 1)) : Int).toNat).toList then (some (Go.bits .or .u64 x5 (shl .u64 (IntKind.u64.wrap (Go.bits .and .u8 (bt x0 (wrap64 (x1 + x6))) 127)) (wrap64 (7 * x6))), wrap64 ((wrap64 (x1 + x6)) + 1), 0)) else (some (0, 0, 3))) else (none)) else (none)) else (none))) else (wringerref1_GetVint.l0 k x0 x1 (Go.bits .or .u64 x5 (shl .u64 (IntKind.u64.wrap (Go.bits .and .u8 (bt x0 (wrap64 (x1 + x6))) 127)) (wrap64 (7 * x6)))) (wrap64 (x6 + 1)))) else (none)) else (none)) else (none))) else (some (0, 0, 3))
end
def wringerref1_GetVint.f (k : Nat) (a0 : ByteArray) (a1 : Int) : Option (Int × Int × Int) := if a1 < 0 then (wringerref1_GetVint.j0 k a0 a1 true) else (wringerref1_GetVint.j0 k a0 a1 (decide (a1 > (a0.size : Int))))
theorem wringerref1_GetVint.mono_l : ∀ k, (∀ y0 y1 y2, LeO (wringerref1_GetVint.j0 k y0 y1 y2) (wringerref1_GetVint.j0 (k + 1) y0 y1 y2)) ∧ (∀ y0 y1 y2 y3, LeO (wringerref1_GetVint.l0 k y0 y1 y2 y3) (wringerref1_GetVint.l0 (k + 1) y0 y1 y2 y3))
  | 0 => ⟨fun _ _ _ r h => by simp [wringerref1_GetVint.j0] at h, fun _ _ _ _ r h => by simp [wringerref1_GetVint.l0] at h⟩
  | k + 1 => by
    obtain ⟨ih0, ih1⟩ := wringerref1_GetVint.mono_l k
    refine ⟨?_, ?_⟩
    · intro y0 y1 y2
      unfold wringerref1_GetVint.j0
      repeat' first
      | (with_reducible exact ih0 _ _ _)
      | (with_reducible exact ih1 _ _ _ _)
      | (with_reducible exact wringerref1_PutVint.mono _ _)
      | (with_reducible exact LeO.refl _)
      | (with_reducible exact LeO.none _)
      | (with_reducible refine LeO.ite ?_ ?_)
      | (with_reducible refine LeO.bind ?_ (fun _ => ?_))
      | exact ih0 _ _ _
      | exact ih1 _ _ _ _
      | exact wringerref1_PutVint.mono _ _
      | exact LeO.none _
      | refine LeO.ite ?_ ?_
      | refine LeO.bind ?_ (fun _ => ?_)
    · intro y0 y1 y2 y3
      unfold wringerref1_GetVint.l0
      repeat' first
      | (with_reducible exact ih0 _ _ _)
      | (with_reducible exact ih1 _ _ _ _)
      | (with_reducible exact wringerref1_PutVint.mono _ _)
      | (with_reducible exact LeO.refl _)
      | (with_reducible exact LeO.none _)
      | (with_reducible refine LeO.ite ?_ ?_)
      | (with_reducible refine LeO.bind ?_ (fun _ => ?_))
      | exact ih0 _ _ _
      | exact ih1 _ _ _ _
      | exact wringerref1_PutVint.mono _ _
      | exact LeO.none _
      | refine LeO.ite ?_ ?_
      | refine LeO.bind ?_ (fun _ => ?_)
theorem wringerref1_GetVint.mono : ∀ a0 a1 k, LeO (wringerref1_GetVint.f k a0 a1) (wringerref1_GetVint.f (k + 1) a0 a1) := by
  intro a0 a1 k
  obtain ⟨ih0, ih1⟩ := wringerref1_GetVint.mono_l k
  unfold wringerref1_GetVint.f
  repeat' first
      | (with_reducible exact ih0 _ _ _)
      | (with_reducible exact ih1 _ _ _ _)
      | (with_reducible exact wringerref1_PutVint.mono _ _)
      | (with_reducible exact LeO.refl _)
      | (with_reducible exact LeO.none _)
      | (with_reducible refine LeO.ite ?_ ?_)
      | (with_reducible refine LeO.bind ?_ (fun _ => ?_))
      | exact ih0 _ _ _
      | exact ih1 _ _ _ _
      | exact wringerref1_PutVint.mono _ _
      | exact LeO.none _
      | refine LeO.ite ?_ ?_
      | refine LeO.bind ?_ (fun _ => ?_)
def wringerref1_GetVint.T12 : Bool × List (List Nat × List Nat) := (true, [([], []), ([0], [0]), ([], []), ([], []), ([], []), ([], []), ([4, 5], [4, 5]), ([6], [6]), ([2, 3, 7], [2, 3, 7]), ([1, 8], [1, 8])])
def wringerref1_GetVint.B12 : List Nat := [0, 1, 0, 0, 0, 0, 48, 112, 252, 511]
theorem wringerref1_GetVint.tab12 : rtab .any (opsOf Try.f32 12) = wringerref1_GetVint.T12 := by kernel_rfl
theorem wringerref1_GetVint.bits12 : waitsOk wringerref1_GetVint.T12.2 wringerref1_GetVint.B12 = true := by kernel_rfl
set_option maxHeartbeats 8000000 in
set_option maxRecDepth 100000 in
theorem wringerref1_GetVint.calls (k : Nat) (a0 : ByteArray) (a1 : Int) (r1 : Int) (r2 : Int) (r3 : Int) (w : World) (h : wringerref1_GetVint.f k a0 a1 = some (r1, r2, r3)) :
    Calls Try.prog 32 #[.string a0, .int .i64 a1] w fun e w' => e = .returned (.agg #[.int .u64 r1, .int .i64 r2, .int .i64 r3]) ∧ Below w.heap.size w w' := by
  have hu61 := Try.underlying61
  have HB := Aside0.mk (Below.refl w.heap.size w)
  have H : (if a1 < 0 then (wringerref1_GetVint.j0 k a0 a1 true) else (wringerref1_GetVint.j0 k a0 a1 (decide (a1 > (a0.size : Int))))) = some (r1, r2, r3) := h
  clear h
  have HC3 := Aside0.mk H
  clear H
  go_enter Try.func32, Try.ntmps32
  go_upto_region 1 with (first | ((with_reducible refine gate_dst (N := 4) rfl ?_); (try (refine gate_guard (by rfl) ?_; dsimp only)); refine box_event ?hg (N := 4) ?hd (cs := #[.int .u64 0, .int .i64 0, .int .i64 0]) (t := 61) ?hr ?_; (case hd => rfl); (case hg => rfl); (case hr => first | (go_simp; done) | (go_simp; rfl)); intro gb176 hg w4 hbox hb; have n0_ := Aside0.mk (below_step (by repeat (first | (with_reducible first | exact HB.out | apply below_alloc | apply pw_below_drewN | apply below_drew1) | exact HB.out)) hb); have n1_ := Aside0.mk (hbox); have n2_ := Aside0.mk ((by rw [hg]; exact (below_size (by repeat (first | (with_reducible first | exact HB.out | apply below_alloc | apply pw_below_drewN | apply below_drew1) | exact HB.out))) : w.heap.size ≤ gb176)); have n3_ := Aside0.mk ((by rw [hg]; exact (below_size (by repeat (first | (with_reducible first | exact HB.out | apply below_alloc | apply pw_below_drewN | apply below_drew1) | exact HB.out))) : w.heap.size ≤ gb176)); clear HB; have HB := n0_; have BK176 := n1_; have GW176 := n2_; have GE176 := n3_; clear n0_ n1_ n2_ n3_; clear hb hbox hg))
  (try simp only [Act.put, List.setIfInBounds_toArray, List.set_cons_zero, List.set_cons_succ])
  go_cut [15] (fun v15 wc => ∃ (kq : Nat) (x15_2 : Bool), v15 = .bool x15_2 ∧ Aside0 (wringerref1_GetVint.j0 kq a0 a1 x15_2 = some (r1, r2, r3)) ∧ Aside0 (kq ≤ k) ∧ Aside0 (wc.heap[gb176]? = some (.cells #[.int .u64 0, .int .i64 0, .int .i64 0] 61 (0, 0))) ∧ Aside0 (Below w.heap.size w wc))
  case first =>
    have H := HC3.out
    clear HC3
    by_cases c5 : a1 < 0
    · rw [if_pos c5] at H
      have c5b0 : decide (a1 < 0) = true := decide_eq_true c5
      clear c5
      (first | rw [c5b0] | (simp only [i64_w, i32_w]; rw [c5b0]) | skip)
      have H' := Aside0.mk H
      clear H
      go_wp2
      go_meet
      case rel => exact ⟨_, (true), (by first | rfl | (simp; done) | (simp [*]; done)), H', ⟨by first | omega | exact Nat.le_refl _⟩, ⟨by (with_reducible repeat (first | refine blk_drewN ?_ _ | refine blk_drew ?_ | refine blk_alloc ?_ _)); exact BK176.out⟩, ⟨by repeat (first | (with_reducible first | exact HB.out | apply below_alloc | apply pw_below_drewN | apply below_drew1 | refine below_set ?_ GE176.out) | exact HB.out)⟩⟩
    · rw [if_neg c5] at H
      have c5b0 : decide (a1 < 0) = false := decide_eq_false c5
      clear c5
      (first | rw [c5b0] | (simp only [i64_w, i32_w]; rw [c5b0]) | skip)
      have H' := Aside0.mk H
      clear H
      go_wp2
      go_meet
      case rel => exact ⟨_, (decide (a1 > (a0.size : Int))), (by first | rfl | (simp; done) | (simp [*]; done)), H', ⟨by first | omega | exact Nat.le_refl _⟩, ⟨by (with_reducible repeat (first | refine blk_drewN ?_ _ | refine blk_drew ?_ | refine blk_alloc ?_ _)); exact BK176.out⟩, ⟨by repeat (first | (with_reducible first | exact HB.out | apply below_alloc | apply pw_below_drewN | apply below_drew1 | refine below_set ?_ GE176.out) | exact HB.out)⟩⟩
  case rest =>
    clear HC3
    try clear p2
    try clear c3
    try clear c5
    try clear c5b0
    obtain ⟨kq, x15_2, rfl, HA, HJ2, BK176, HB⟩ := hcut
    cases kq with
    | zero => exact absurd HA.out (by simp [wringerref1_GetVint.j0])
    | succ kj2 =>
      have H := HA.out
      clear HA
      simp only [wringerref1_GetVint.j0] at H
      by_cases c6 : x15_2 = true
      · subst c6
        have H1 : (some (0, 0, 1)) = some (r1, r2, r3) := by rw [if_pos rfl] at H; exact H
        clear H
        have H := H1
        clear H1
        simp only [Option.some.injEq, Prod.mk.injEq] at H
        obtain ⟨rfl, rfl, rfl⟩ := H
        have hcz7_0 : wc.cell? ⟨gb176, 0, none⟩ = some (.int .u64 0) := (blk_cell BK176.out 0).trans rfl
        have hcz7_1 : wc.cell? ⟨gb176, 1, none⟩ = some (.int .i64 0) := (blk_cell BK176.out 1).trans rfl
        have hcz7_2 : wc.cell? ⟨gb176, 2, none⟩ = some (.int .i64 0) := (blk_cell BK176.out 2).trans rfl
        have hfz7_0 := blk_frozen BK176.out 0
        have hfz7_1 := blk_frozen BK176.out 1
        have hfz7_2 := blk_frozen BK176.out 2
        go_wp2
        refine bodyPost_ret (results_cell_row rfl _ _ gb176 61 #[.int .u64 0, .int .i64 0, .int .i64 1] (0, 0) _ rfl (by (with_reducible repeat (first | refine blk_drewN ?_ _ | refine blk_drew ?_ | refine blk_alloc ?_ _)); refine blk_put (cs := #[.int .u64 0, .int .i64 0, .int .i64 0]) ?_ 2 _ rfl; (with_reducible repeat (first | refine blk_drewN ?_ _ | refine blk_drew ?_ | refine blk_alloc ?_ _)); refine blk_put (cs := #[.int .u64 0, .int .i64 0, .int .i64 0]) ?_ 1 _ rfl; (with_reducible repeat (first | refine blk_drewN ?_ _ | refine blk_drew ?_ | refine blk_alloc ?_ _)); refine blk_put (cs := #[.int .u64 0, .int .i64 0, .int .i64 0]) ?_ 0 _ rfl; (with_reducible repeat (first | refine blk_drewN ?_ _ | refine blk_drew ?_ | refine blk_alloc ?_ _)); exact BK176.out) Try.underlying61 rfl (by kernel_rfl)) rfl ?_
        exact ⟨by first | rfl | (simp [errW_none, errW_some] <;> rfl) | (simp [*, errW_none, errW_some] <;> rfl), by repeat (first | (with_reducible first | exact HB.out | apply below_alloc | apply pw_below_drewN | apply below_drew1 | refine below_set ?_ GE176.out) | exact HB.out)⟩
      · replace c6 := Bool.eq_false_iff.mpr c6
        subst c6
        have H1 : (wringerref1_GetVint.l0 kj2 a0 a1 0 0) = some (r1, r2, r3) := by rw [if_neg (show ¬ (false = true) by decide)] at H; exact H
        clear H
        have H := H1
        clear H1
        have H' := Aside0.mk H
        clear H
        go_wp2
        go_loopg [5, 6] kj2 (fun kq v5 v6 w' => ∃ (x5_2 : Int) (x6_2 : Int) (x177000_2 : Int) (x177001_2 : Int) (x177002_2 : Int), v5 = .int .u64 x5_2 ∧ v6 = .int .i64 x6_2 ∧ Aside0 (wringerref1_GetVint.l0 kq a0 a1 x5_2 x6_2 = some (r1, r2, r3)) ∧ Aside0 (kq ≤ kj2) ∧ Aside0 (w'.heap[gb176]? = some (.cells #[.int .u64 x177000_2, .int .i64 x177001_2, .int .i64 x177002_2] 61 (0, 0))) ∧ Aside0 (Below w.heap.size w w'))
        case atStart => exact ⟨(0), (0), (0), (0), (0), (by first | rfl | (simp; done) | (simp [*]; done)), (by first | rfl | (simp; done) | (simp [*]; done)), H', ⟨Nat.le_refl _⟩, ⟨by (with_reducible repeat (first | refine blk_drewN ?_ _ | refine blk_drew ?_ | refine blk_alloc ?_ _)); exact BK176.out⟩, ⟨by repeat (first | (with_reducible first | exact HB.out | apply below_alloc | apply pw_below_drewN | apply below_drew1 | refine below_set ?_ GE176.out) | exact HB.out)⟩⟩
        case round =>
          clear H'
          try clear p2
          try clear c3
          try clear c5
          try clear c5b0
          try clear c6
          try clear hcz7_0
          try clear hcz7_1
          try clear hcz7_2
          try clear hfz7_0
          try clear hfz7_1
          try clear hfz7_2
          try clear p2
          obtain ⟨x5_2, x6_2, x177000_2, x177001_2, x177002_2, rfl, rfl, HA, HK2, BK176, HB⟩ := hrel
          cases gk with
          | zero => exact absurd HA.out (by simp [wringerref1_GetVint.l0])
          | succ k2 =>
            have H := HA.out
            clear HA
            simp only [wringerref1_GetVint.l0] at H
            by_cases c8 : x6_2 < 10
            · rw [if_pos c8] at H
              have c8b0 : decide (x6_2 < 10) = true := decide_eq_true c8
              clear c8
              by_cases c9 : (wrap64 (a1 + x6_2)) ≥ (a0.size : Int)
              · rw [if_pos c9] at H
                have c9b0 : decide ((a0.size : Int) ≤ (wrap64 (a1 + x6_2))) = true := decide_eq_true c9
                clear c9
                simp only [Option.some.injEq, Prod.mk.injEq] at H
                obtain ⟨rfl, rfl, rfl⟩ := H
                have hcz10_0 : wr.cell? ⟨gb176, 0, none⟩ = some (.int .u64 x177000_2) := (blk_cell BK176.out 0).trans rfl
                have hcz10_1 : wr.cell? ⟨gb176, 1, none⟩ = some (.int .i64 x177001_2) := (blk_cell BK176.out 1).trans rfl
                have hcz10_2 : wr.cell? ⟨gb176, 2, none⟩ = some (.int .i64 x177002_2) := (blk_cell BK176.out 2).trans rfl
                have hfz10_0 := blk_frozen BK176.out 0
                have hfz10_1 := blk_frozen BK176.out 1
                have hfz10_2 := blk_frozen BK176.out 2
                go_wp2
                refine bodyPost_ret (results_cell_row rfl _ _ gb176 61 #[.int .u64 0, .int .i64 0, .int .i64 2] (0, 0) _ rfl (by (with_reducible repeat (first | refine blk_drewN ?_ _ | refine blk_drew ?_ | refine blk_alloc ?_ _)); refine blk_put (cs := #[.int .u64 0, .int .i64 0, .int .i64 x177002_2]) ?_ 2 _ rfl; (with_reducible repeat (first | refine blk_drewN ?_ _ | refine blk_drew ?_ | refine blk_alloc ?_ _)); refine blk_put (cs := #[.int .u64 0, .int .i64 x177001_2, .int .i64 x177002_2]) ?_ 1 _ rfl; (with_reducible repeat (first | refine blk_drewN ?_ _ | refine blk_drew ?_ | refine blk_alloc ?_ _)); refine blk_put (cs := #[.int .u64 x177000_2, .int .i64 x177001_2, .int .i64 x177002_2]) ?_ 0 _ rfl; (with_reducible repeat (first | refine blk_drewN ?_ _ | refine blk_drew ?_ | refine blk_alloc ?_ _)); exact BK176.out) Try.underlying61 rfl (by kernel_rfl)) rfl ?_
                exact ⟨by first | rfl | (simp [errW_none, errW_some] <;> rfl) | (simp [*, errW_none, errW_some] <;> rfl), by repeat (first | (with_reducible first | exact HB.out | apply below_alloc | apply pw_below_drewN | apply below_drew1 | refine below_set ?_ GE176.out) | exact HB.out)⟩
              · rw [if_neg c9] at H
                have c9b0 : decide ((a0.size : Int) ≤ (wrap64 (a1 + x6_2))) = false := decide_eq_false c9
                clear c9
                obtain ⟨ji11, hji11⟩ : ∃ j_ : Int, (wrap64 (a1 + x6_2)) = j_ := ⟨_, rfl⟩
                replace H : (if 0 ≤ (ji11) then (if (ji11) < (a0.size : Int) then (if 0 ≤ (wrap64 (7 * x6_2)) then (if (bt a0 (ji11)) < 128 then ((wringerref1_PutVint.f k2 (Go.bits .or .u64 x5_2 (shl .u64 (IntKind.u64.wrap (Go.bits .and .u8 (bt a0 (ji11)) 127)) (wrap64 (7 * x6_2))))).bind fun t177 => (if 0 ≤ a1 then (if a1 ≤ (wrap64 ((ji11) + 1)) then (if (wrap64 ((ji11) + 1)) ≤ (a0.size : Int) then (if t177.toList = (a0.extract (a1 : Int).toNat ((wrap64 ((ji11) + 1)) : Int).toNat).toList then (some (Go.bits .or .u64 x5_2 (shl .u64 (IntKind.u64.wrap (Go.bits .and .u8 (bt a0 (ji11)) 127)) (wrap64 (7 * x6_2))), wrap64 ((ji11) + 1), 0)) else (some (0, 0, 3))) else (none)) else (none)) else (none))) else (wringerref1_GetVint.l0 k2 a0 a1 (Go.bits .or .u64 x5_2 (shl .u64 (IntKind.u64.wrap (Go.bits .and .u8 (bt a0 (ji11)) 127)) (wrap64 (7 * x6_2)))) (wrap64 (x6_2 + 1)))) else (none)) else (none)) else (none)) = some (r1, r2, r3) := by first | (rw [hji11] at H; exact H) | (simp only [hji11] at H ⊢; exact H)
                (try rw [hji11] at c9b0)
                have hji11w : (IntKind.i64.wrap (a1 + x6_2)) = ji11 := (i64_w _).trans hji11
                by_cases c12 : 0 ≤ (ji11)
                · rw [if_pos c12] at H
                  have c12b0 : decide (0 ≤ (ji11)) = true := decide_eq_true c12
                  clear c12
                  by_cases c13 : (ji11) < (a0.size : Int)
                  · rw [if_pos c13] at H
                    have c13b0 : decide ((ji11) < (a0.size : Int)) = true := decide_eq_true c13
                    clear c13
                    obtain ⟨ji15, hji15⟩ : ∃ j_ : Int, (wrap64 (7 * x6_2)) = j_ := ⟨_, rfl⟩
                    replace H : (if 0 ≤ (ji15) then (if (bt a0 (ji11)) < 128 then ((wringerref1_PutVint.f k2 (Go.bits .or .u64 x5_2 (shl .u64 (IntKind.u64.wrap (Go.bits .and .u8 (bt a0 (ji11)) 127)) (ji15)))).bind fun t177 => (if 0 ≤ a1 then (if a1 ≤ (wrap64 ((ji11) + 1)) then (if (wrap64 ((ji11) + 1)) ≤ (a0.size : Int) then (if t177.toList = (a0.extract (a1 : Int).toNat ((wrap64 ((ji11) + 1)) : Int).toNat).toList then (some (Go.bits .or .u64 x5_2 (shl .u64 (IntKind.u64.wrap (Go.bits .and .u8 (bt a0 (ji11)) 127)) (ji15)), wrap64 ((ji11) + 1), 0)) else (some (0, 0, 3))) else (none)) else (none)) else (none))) else (wringerref1_GetVint.l0 k2 a0 a1 (Go.bits .or .u64 x5_2 (shl .u64 (IntKind.u64.wrap (Go.bits .and .u8 (bt a0 (ji11)) 127)) (ji15))) (wrap64 (x6_2 + 1)))) else (none)) = some (r1, r2, r3) := by first | (rw [hji15] at H; exact H) | (simp only [hji15] at H ⊢; exact H)
                    have hji15w : (IntKind.i64.wrap (7 * x6_2)) = ji15 := (i64_w _).trans hji15
                    by_cases c16 : 0 ≤ (ji15)
                    · rw [if_pos c16] at H
                      have c16b0 := eq_true c16
                      have c16b1 : decide (0 ≤ (ji15)) = true := decide_eq_true c16
                      clear c16
                      obtain ⟨ji17, hji17⟩ : ∃ j_ : Int, (shl .u64 (IntKind.u64.wrap (Go.bits .and .u8 (bt a0 (ji11)) 127)) (ji15)) = j_ := ⟨_, rfl⟩
                      replace H : (if (bt a0 (ji11)) < 128 then ((wringerref1_PutVint.f k2 (Go.bits .or .u64 x5_2 (ji17))).bind fun t177 => (if 0 ≤ a1 then (if a1 ≤ (wrap64 ((ji11) + 1)) then (if (wrap64 ((ji11) + 1)) ≤ (a0.size : Int) then (if t177.toList = (a0.extract (a1 : Int).toNat ((wrap64 ((ji11) + 1)) : Int).toNat).toList then (some (Go.bits .or .u64 x5_2 (ji17), wrap64 ((ji11) + 1), 0)) else (some (0, 0, 3))) else (none)) else (none)) else (none))) else (wringerref1_GetVint.l0 k2 a0 a1 (Go.bits .or .u64 x5_2 (ji17)) (wrap64 (x6_2 + 1)))) = some (r1, r2, r3) := by first | (rw [hji17] at H; exact H) | (simp only [hji17] at H ⊢; exact H)
                      have hji17_ : (IntKind.u64.wrap ((IntKind.u64.wrap (Go.bits .and .u8 (bt a0 (ji11)) 127)) * 2 ^ min (ji15).toNat 64)) = ji17 := hji17
                      have hji17z : (ji15) ≤ 64 → (IntKind.u64.wrap ((IntKind.u64.wrap (Go.bits .and .u8 (bt a0 (ji11)) 127)) * 2 ^ (ji15).toNat)) = ji17 := shl_small hji17
                      by_cases c18 : (bt a0 (ji11)) < 128
                      · rw [if_pos c18] at H
                        have c18b0 : decide ((bt a0 (ji11)) < 128) = true := decide_eq_true c18
                        clear c18
                        replace H := Option.bind_eq_some_iff.mp H
                        obtain ⟨t177, A190, H⟩ := H
                        replace H : (if 0 ≤ a1 then (if a1 ≤ (wrap64 ((ji11) + 1)) then (if (wrap64 ((ji11) + 1)) ≤ (a0.size : Int) then (if t177.toList = (a0.extract (a1 : Int).toNat ((wrap64 ((ji11) + 1)) : Int).toNat).toList then (some (Go.bits .or .u64 x5_2 (ji17), wrap64 ((ji11) + 1), 0)) else (some (0, 0, 3))) else (none)) else (none)) else (none)) = some (r1, r2, r3) := H
                        have A19 := Aside0.mk A190
                        clear A190
                        by_cases c20 : 0 ≤ a1
                        · rw [if_pos c20] at H
                          have c20b0 := eq_true c20
                          have c20b1 : decide (0 ≤ a1) = true := decide_eq_true c20
                          clear c20
                          by_cases c21 : a1 ≤ (wrap64 ((ji11) + 1))
                          · rw [if_pos c21] at H
                            have c21b0 := eq_true c21
                            have c21b1 : decide (a1 ≤ (wrap64 ((ji11) + 1))) = true := decide_eq_true c21
                            by_cases c22 : (wrap64 ((ji11) + 1)) ≤ (a0.size : Int)
                            · rw [if_pos c22] at H
                              have c22b0 := eq_true c22
                              have c22b1 : decide ((wrap64 ((ji11) + 1)) ≤ (a0.size : Int)) = true := decide_eq_true c22
                              by_cases c23 : t177.toList = (a0.extract (a1 : Int).toNat ((wrap64 ((ji11) + 1)) : Int).toNat).toList
                              · rw [if_pos c23] at H
                                have c23b0 : (t177.toList == (a0.extract (a1 : Int).toNat ((wrap64 ((ji11) + 1)) : Int).toNat).toList) = true := beq_iff_eq.mpr c23
                                have c23b1 : (t177.toList != (a0.extract (a1 : Int).toNat ((wrap64 ((ji11) + 1)) : Int).toNat).toList) = false := bne_eq_false_iff_eq.mpr c23
                                clear c23
                                simp only [Option.some.injEq, Prod.mk.injEq] at H
                                obtain ⟨rfl, rfl, rfl⟩ := H
                                have p14 : 0 ≤ ((ji11) : Int) := of_decide_eq_true (by first | (with_reducible assumption) | assumption)
                                have q14 : (ji11) < (a0.size : Int) := of_decide_eq_true (by first | (with_reducible assumption) | assumption)
                                have hx14 := bt_at a0 (ji11)
                                replace p14 := eq_true p14
                                replace q14 := eq_true q14
                                try go_wp2
                                have n0_ := Aside0.mk (blk_drew BK176.out)
                                have n1_ := Aside0.mk (below_drew1 HB.out)
                                clear BK176
                                clear HB
                                have BK176 := n0_
                                have HB := n1_
                                clear n0_ n1_
                                refine start_ (n := 10) (S := fun w' => True) (ds := []) #[false, false, false, false, false, false, false, false, false, false] (by kernel_rfl) rfl rfl trivial (fun hHeld => ?_); refine with_tabW wringerref1_GetVint.tab12 wringerref1_GetVint.bits12 (fun HT_ HW_ => ?_)
                                generalize wr.drew = w24 at BK176 HB hHeld ⊢
                                refine pure_ (i := 0) (N := some 43) (v := ?_) (a' := ?_) #[true, false, false, false, false, false, false, false, false, false] rfl rfl (any_of HT_.out (by kernel_rfl)) (fun _ _ _ h => h) (Or.inl ⟨by rfl, ?_⟩) ?_ ?_
                                rotate_left
                                · intro w'
                                  go_simp
                                  with_reducible rfl
                                rotate_left
                                · simp only [Act.put, List.setIfInBounds_toArray, List.set_cons_zero, List.set_cons_succ, i64_w, i32_w]
                                  rfl
                                refine pure_ (i := 2) (N := some 45) (v := ?_) (a' := ?_) #[true, false, true, false, false, false, false, false, false, false] rfl rfl (any_of HT_.out (by kernel_rfl)) (fun _ _ _ h => h) (Or.inl ⟨by rfl, ?_⟩) ?_ ?_
                                rotate_left
                                · intro w'
                                  go_simp
                                  with_reducible rfl
                                rotate_left
                                · simp only [Act.put, List.setIfInBounds_toArray, List.set_cons_zero, List.set_cons_succ, i64_w, i32_w]
                                  rfl
                                refine pure_ (i := 3) (N := some 46) (v := ?_) (a' := ?_) #[true, false, true, true, false, false, false, false, false, false] rfl rfl (any_of HT_.out (by kernel_rfl)) (fun _ _ _ h => h) (Or.inl ⟨by rfl, ?_⟩) ?_ ?_
                                rotate_left
                                · intro w'
                                  go_simp
                                  with_reducible rfl
                                rotate_left
                                · simp only [Act.put, List.setIfInBounds_toArray, List.set_cons_zero, List.set_cons_succ, i64_w, i32_w]
                                  rfl
                                refine pure_ (i := 4) (N := some 47) (v := ?_) (a' := ?_) #[true, false, true, true, true, false, false, false, false, false] rfl rfl (any_of HT_.out (by kernel_rfl)) (fun _ _ _ h => h) (Or.inl ⟨by rfl, ?_⟩) ?_ ?_
                                rotate_left
                                · intro w'
                                  go_simp
                                  with_reducible rfl
                                rotate_left
                                · simp only [Act.put, List.setIfInBounds_toArray, List.set_cons_zero, List.set_cons_succ, i64_w, i32_w]
                                  rfl
                                refine pure_ (i := 5) (N := some 48) (v := ?_) (a' := ?_) #[true, false, true, true, true, true, false, false, false, false] rfl rfl (any_of HT_.out (by kernel_rfl)) (fun _ _ _ h => h) (Or.inl ⟨by rfl, ?_⟩) ?_ ?_
                                rotate_left
                                · intro w'
                                  go_simp
                                  with_reducible rfl
                                rotate_left
                                · simp only [Act.put, List.setIfInBounds_toArray, List.set_cons_zero, List.set_cons_succ, i64_w, i32_w]
                                  rfl
                                refine pure_ (i := 6) (N := some 49) (v := ?_) (a' := ?_) #[true, false, true, true, true, true, true, false, false, false] rfl rfl (any_of HT_.out (by kernel_rfl)) (fun _ _ _ h => h) (Or.inl ⟨by rfl, ?_⟩) ?_ ?_
                                rotate_left
                                · intro w'
                                  go_simp
                                  with_reducible rfl
                                rotate_left
                                · simp only [Act.put, List.setIfInBounds_toArray, List.set_cons_zero, List.set_cons_succ, i64_w, i32_w]
                                  rfl
                                refine pure_ (i := 7) (N := some 50) (v := ?_) (a' := ?_) #[true, false, true, true, true, true, true, true, false, false] rfl rfl (any_of HT_.out (by kernel_rfl)) (fun _ _ _ h => h) (Or.inl ⟨by rfl, ?_⟩) ?_ ?_
                                rotate_left
                                · intro w'
                                  go_simp
                                  with_reducible rfl
                                rotate_left
                                · simp only [Act.put, List.setIfInBounds_toArray, List.set_cons_zero, List.set_cons_succ, i64_w, i32_w]
                                  rfl
                                refine pure_ (i := 8) (N := some 51) (v := ?_) (a' := ?_) #[true, false, true, true, true, true, true, true, true, false] rfl rfl (any_of HT_.out (by kernel_rfl)) (fun _ _ _ h => h) (Or.inl ⟨by rfl, ?_⟩) ?_ ?_
                                rotate_left
                                · intro w'
                                  go_simp
                                  with_reducible rfl
                                rotate_left
                                · simp only [Act.put, List.setIfInBounds_toArray, List.set_cons_zero, List.set_cons_succ, i64_w, i32_w]
                                  rfl
                                refine one_ (i := 1) (N := some 44) #[true, true, true, true, true, true, true, true, true, false] rfl rfl (one_of HT_.out (by kernel_rfl)) (by decide) (fun K hK => ?_)
                                refine goes_ Try.func36 (by kernel_rfl) rfl #[.int .u64 (Go.bits .or .u64 x5_2 (ji17))] (by rfl) rfl rfl (by (try simp only [List.map_toArray, List.map_cons, List.map_nil]); first | done | (simp only [hji17]; rfl) | rfl | (simp only [List.length_drop, List.length_take]; rfl)) ?_
                                with_reducible refine (wringerref1_PutVint.calls k2 (Go.bits .or .u64 x5_2 (ji17)) t177 _ A19.out).mono ?_
                                rintro e w25 ⟨rfl, hb⟩
                                refine ⟨_, rfl, ?_⟩
                                have n0_ := Aside0.mk (blk_below (g := gb176) (o := .cells #[.int .u64 x177000_2, .int .i64 x177001_2, .int .i64 x177002_2] 61 (0, 0)) (by (with_reducible repeat (first | refine blk_drewN ?_ _ | refine blk_drew ?_ | refine blk_alloc ?_ _)); exact BK176.out) hb)
                                have n1_ := Aside0.mk (below_step (by repeat (first | (with_reducible first | exact HB.out | apply below_alloc | apply pw_below_drewN | apply below_drew1 | refine below_set ?_ GE176.out) | exact HB.out)) hb)
                                clear BK176
                                clear HB
                                have BK176 := n0_
                                have HB := n1_
                                clear n0_ n1_
                                (try clear hb)
                                (try clear hb2)
                                (try clear hk)
                                (try clear hi)
                                refine hK.out _ _ trivial (fun hHeld => ?_)
                                clear hK K
                                refine norm_ (a' := ?_) ?_ ?_
                                rotate_left
                                · show Act.put _ (some 44) _ = _
                                  simp only [Act.put, List.setIfInBounds_toArray, List.set_cons_zero, List.set_cons_succ, i64_w, i32_w]
                                  rfl
                                refine pure_ (i := 9) (N := some 52) (v := ?_) (a' := ?_) #[true, true, true, true, true, true, true, true, true, true] rfl rfl (any_of HT_.out (by kernel_rfl)) (fun _ _ _ h => h) (Or.inl ⟨by rfl, ?_⟩) ?_ ?_
                                rotate_left
                                · intro w'
                                  go_simp
                                  with_reducible rfl
                                rotate_left
                                · simp only [Act.put, List.setIfInBounds_toArray, List.set_cons_zero, List.set_cons_succ, i64_w, i32_w]
                                  rfl
                                refine done_ (done_of HT_.out (by kernel_rfl)) ?_
                                have hcz26_0 : w25.cell? ⟨gb176, 0, none⟩ = some (.int .u64 x177000_2) := (blk_cell BK176.out 0).trans rfl
                                have hcz26_1 : w25.cell? ⟨gb176, 1, none⟩ = some (.int .i64 x177001_2) := (blk_cell BK176.out 1).trans rfl
                                have hcz26_2 : w25.cell? ⟨gb176, 2, none⟩ = some (.int .i64 x177002_2) := (blk_cell BK176.out 2).trans rfl
                                have hfz26_0 := blk_frozen BK176.out 0
                                have hfz26_1 := blk_frozen BK176.out 1
                                have hfz26_2 := blk_frozen BK176.out 2
                                try go_wp2
                                refine bodyPost_ret (results_cell_row rfl _ _ gb176 61 #[.int .u64 (Go.bits .or .u64 x5_2 (ji17)), .int .i64 (wrap64 ((ji11) + 1)), .int .i64 0] (0, 0) _ rfl (by (with_reducible repeat (first | refine blk_drewN ?_ _ | refine blk_drew ?_ | refine blk_alloc ?_ _)); refine blk_put (cs := #[.int .u64 (Go.bits .or .u64 x5_2 (ji17)), .int .i64 (wrap64 ((ji11) + 1)), .int .i64 x177002_2]) ?_ 2 _ rfl; (with_reducible repeat (first | refine blk_drewN ?_ _ | refine blk_drew ?_ | refine blk_alloc ?_ _)); refine blk_put (cs := #[.int .u64 (Go.bits .or .u64 x5_2 (ji17)), .int .i64 x177001_2, .int .i64 x177002_2]) ?_ 1 _ rfl; (with_reducible repeat (first | refine blk_drewN ?_ _ | refine blk_drew ?_ | refine blk_alloc ?_ _)); refine blk_put (cs := #[.int .u64 x177000_2, .int .i64 x177001_2, .int .i64 x177002_2]) ?_ 0 _ rfl; (with_reducible repeat (first | refine blk_drewN ?_ _ | refine blk_drew ?_ | refine blk_alloc ?_ _)); exact BK176.out) Try.underlying61 rfl (by kernel_rfl)) rfl ?_
                                exact ⟨by first | rfl | (simp [errW_none, errW_some] <;> rfl) | (simp only [← hji11, ← hji15, ← hji17]; first | rfl | (simp [errW_none, errW_some] <;> rfl)) | (simp [*, errW_none, errW_some] <;> rfl), by repeat (first | (with_reducible first | exact HB.out | apply below_alloc | apply pw_below_drewN | apply below_drew1 | refine below_set ?_ GE176.out) | exact HB.out)⟩
                              · rw [if_neg c23] at H
                                have c23b0 : (t177.toList == (a0.extract (a1 : Int).toNat ((wrap64 ((ji11) + 1)) : Int).toNat).toList) = false := beq_eq_false_iff_ne.mpr c23
                                have c23b1 : (t177.toList != (a0.extract (a1 : Int).toNat ((wrap64 ((ji11) + 1)) : Int).toNat).toList) = true := bne_iff_ne.mpr c23
                                simp only [Option.some.injEq, Prod.mk.injEq] at H
                                obtain ⟨rfl, rfl, rfl⟩ := H
                                have p14 : 0 ≤ ((ji11) : Int) := of_decide_eq_true (by first | (with_reducible assumption) | assumption)
                                have q14 : (ji11) < (a0.size : Int) := of_decide_eq_true (by first | (with_reducible assumption) | assumption)
                                have hx14 := bt_at a0 (ji11)
                                replace p14 := eq_true p14
                                replace q14 := eq_true q14
                                try go_wp2
                                have n0_ := Aside0.mk (blk_drew BK176.out)
                                have n1_ := Aside0.mk (below_drew1 HB.out)
                                clear BK176
                                clear HB
                                have BK176 := n0_
                                have HB := n1_
                                clear n0_ n1_
                                refine start_ (n := 10) (S := fun w' => True) (ds := []) #[false, false, false, false, false, false, false, false, false, false] (by kernel_rfl) rfl rfl trivial (fun hHeld => ?_); refine with_tabW wringerref1_GetVint.tab12 wringerref1_GetVint.bits12 (fun HT_ HW_ => ?_)
                                generalize wr.drew = w27 at BK176 HB hHeld ⊢
                                refine pure_ (i := 0) (N := some 43) (v := ?_) (a' := ?_) #[true, false, false, false, false, false, false, false, false, false] rfl rfl (any_of HT_.out (by kernel_rfl)) (fun _ _ _ h => h) (Or.inl ⟨by rfl, ?_⟩) ?_ ?_
                                rotate_left
                                · intro w'
                                  go_simp
                                  with_reducible rfl
                                rotate_left
                                · simp only [Act.put, List.setIfInBounds_toArray, List.set_cons_zero, List.set_cons_succ, i64_w, i32_w]
                                  rfl
                                refine pure_ (i := 2) (N := some 45) (v := ?_) (a' := ?_) #[true, false, true, false, false, false, false, false, false, false] rfl rfl (any_of HT_.out (by kernel_rfl)) (fun _ _ _ h => h) (Or.inl ⟨by rfl, ?_⟩) ?_ ?_
                                rotate_left
                                · intro w'
                                  go_simp
                                  with_reducible rfl
                                rotate_left
                                · simp only [Act.put, List.setIfInBounds_toArray, List.set_cons_zero, List.set_cons_succ, i64_w, i32_w]
                                  rfl
                                refine pure_ (i := 3) (N := some 46) (v := ?_) (a' := ?_) #[true, false, true, true, false, false, false, false, false, false] rfl rfl (any_of HT_.out (by kernel_rfl)) (fun _ _ _ h => h) (Or.inl ⟨by rfl, ?_⟩) ?_ ?_
                                rotate_left
                                · intro w'
                                  go_simp
                                  with_reducible rfl
                                rotate_left
                                · simp only [Act.put, List.setIfInBounds_toArray, List.set_cons_zero, List.set_cons_succ, i64_w, i32_w]
                                  rfl
                                refine pure_ (i := 4) (N := some 47) (v := ?_) (a' := ?_) #[true, false, true, true, true, false, false, false, false, false] rfl rfl (any_of HT_.out (by kernel_rfl)) (fun _ _ _ h => h) (Or.inl ⟨by rfl, ?_⟩) ?_ ?_
                                rotate_left
                                · intro w'
                                  go_simp
                                  with_reducible rfl
                                rotate_left
                                · simp only [Act.put, List.setIfInBounds_toArray, List.set_cons_zero, List.set_cons_succ, i64_w, i32_w]
                                  rfl
                                refine pure_ (i := 5) (N := some 48) (v := ?_) (a' := ?_) #[true, false, true, true, true, true, false, false, false, false] rfl rfl (any_of HT_.out (by kernel_rfl)) (fun _ _ _ h => h) (Or.inl ⟨by rfl, ?_⟩) ?_ ?_
                                rotate_left
                                · intro w'
                                  go_simp
                                  with_reducible rfl
                                rotate_left
                                · simp only [Act.put, List.setIfInBounds_toArray, List.set_cons_zero, List.set_cons_succ, i64_w, i32_w]
                                  rfl
                                refine pure_ (i := 6) (N := some 49) (v := ?_) (a' := ?_) #[true, false, true, true, true, true, true, false, false, false] rfl rfl (any_of HT_.out (by kernel_rfl)) (fun _ _ _ h => h) (Or.inl ⟨by rfl, ?_⟩) ?_ ?_
                                rotate_left
                                · intro w'
                                  go_simp
                                  with_reducible rfl
                                rotate_left
                                · simp only [Act.put, List.setIfInBounds_toArray, List.set_cons_zero, List.set_cons_succ, i64_w, i32_w]
                                  rfl
                                refine pure_ (i := 7) (N := some 50) (v := ?_) (a' := ?_) #[true, false, true, true, true, true, true, true, false, false] rfl rfl (any_of HT_.out (by kernel_rfl)) (fun _ _ _ h => h) (Or.inl ⟨by rfl, ?_⟩) ?_ ?_
                                rotate_left
                                · intro w'
                                  go_simp
                                  with_reducible rfl
                                rotate_left
                                · simp only [Act.put, List.setIfInBounds_toArray, List.set_cons_zero, List.set_cons_succ, i64_w, i32_w]
                                  rfl
                                refine pure_ (i := 8) (N := some 51) (v := ?_) (a' := ?_) #[true, false, true, true, true, true, true, true, true, false] rfl rfl (any_of HT_.out (by kernel_rfl)) (fun _ _ _ h => h) (Or.inl ⟨by rfl, ?_⟩) ?_ ?_
                                rotate_left
                                · intro w'
                                  go_simp
                                  with_reducible rfl
                                rotate_left
                                · simp only [Act.put, List.setIfInBounds_toArray, List.set_cons_zero, List.set_cons_succ, i64_w, i32_w]
                                  rfl
                                refine one_ (i := 1) (N := some 44) #[true, true, true, true, true, true, true, true, true, false] rfl rfl (one_of HT_.out (by kernel_rfl)) (by decide) (fun K hK => ?_)
                                refine goes_ Try.func36 (by kernel_rfl) rfl #[.int .u64 (Go.bits .or .u64 x5_2 (ji17))] (by rfl) rfl rfl (by (try simp only [List.map_toArray, List.map_cons, List.map_nil]); first | done | (simp only [hji17]; rfl) | rfl | (simp only [List.length_drop, List.length_take]; rfl)) ?_
                                with_reducible refine (wringerref1_PutVint.calls k2 (Go.bits .or .u64 x5_2 (ji17)) t177 _ A19.out).mono ?_
                                rintro e w28 ⟨rfl, hb⟩
                                refine ⟨_, rfl, ?_⟩
                                have n0_ := Aside0.mk (blk_below (g := gb176) (o := .cells #[.int .u64 x177000_2, .int .i64 x177001_2, .int .i64 x177002_2] 61 (0, 0)) (by (with_reducible repeat (first | refine blk_drewN ?_ _ | refine blk_drew ?_ | refine blk_alloc ?_ _)); exact BK176.out) hb)
                                have n1_ := Aside0.mk (below_step (by repeat (first | (with_reducible first | exact HB.out | apply below_alloc | apply pw_below_drewN | apply below_drew1 | refine below_set ?_ GE176.out) | exact HB.out)) hb)
                                clear BK176
                                clear HB
                                have BK176 := n0_
                                have HB := n1_
                                clear n0_ n1_
                                (try clear hb)
                                (try clear hb2)
                                (try clear hk)
                                (try clear hi)
                                refine hK.out _ _ trivial (fun hHeld => ?_)
                                clear hK K
                                refine norm_ (a' := ?_) ?_ ?_
                                rotate_left
                                · show Act.put _ (some 44) _ = _
                                  simp only [Act.put, List.setIfInBounds_toArray, List.set_cons_zero, List.set_cons_succ, i64_w, i32_w]
                                  rfl
                                refine pure_ (i := 9) (N := some 52) (v := ?_) (a' := ?_) #[true, true, true, true, true, true, true, true, true, true] rfl rfl (any_of HT_.out (by kernel_rfl)) (fun _ _ _ h => h) (Or.inl ⟨by rfl, ?_⟩) ?_ ?_
                                rotate_left
                                · intro w'
                                  go_simp
                                  with_reducible rfl
                                rotate_left
                                · simp only [Act.put, List.setIfInBounds_toArray, List.set_cons_zero, List.set_cons_succ, i64_w, i32_w]
                                  rfl
                                refine done_ (done_of HT_.out (by kernel_rfl)) ?_
                                have hcz29_0 : w28.cell? ⟨gb176, 0, none⟩ = some (.int .u64 x177000_2) := (blk_cell BK176.out 0).trans rfl
                                have hcz29_1 : w28.cell? ⟨gb176, 1, none⟩ = some (.int .i64 x177001_2) := (blk_cell BK176.out 1).trans rfl
                                have hcz29_2 : w28.cell? ⟨gb176, 2, none⟩ = some (.int .i64 x177002_2) := (blk_cell BK176.out 2).trans rfl
                                have hfz29_0 := blk_frozen BK176.out 0
                                have hfz29_1 := blk_frozen BK176.out 1
                                have hfz29_2 := blk_frozen BK176.out 2
                                try go_wp2
                                refine bodyPost_ret (results_cell_row rfl _ _ gb176 61 #[.int .u64 0, .int .i64 0, .int .i64 3] (0, 0) _ rfl (by (with_reducible repeat (first | refine blk_drewN ?_ _ | refine blk_drew ?_ | refine blk_alloc ?_ _)); refine blk_put (cs := #[.int .u64 0, .int .i64 0, .int .i64 x177002_2]) ?_ 2 _ rfl; (with_reducible repeat (first | refine blk_drewN ?_ _ | refine blk_drew ?_ | refine blk_alloc ?_ _)); refine blk_put (cs := #[.int .u64 0, .int .i64 x177001_2, .int .i64 x177002_2]) ?_ 1 _ rfl; (with_reducible repeat (first | refine blk_drewN ?_ _ | refine blk_drew ?_ | refine blk_alloc ?_ _)); refine blk_put (cs := #[.int .u64 x177000_2, .int .i64 x177001_2, .int .i64 x177002_2]) ?_ 0 _ rfl; (with_reducible repeat (first | refine blk_drewN ?_ _ | refine blk_drew ?_ | refine blk_alloc ?_ _)); exact BK176.out) Try.underlying61 rfl (by kernel_rfl)) rfl ?_
                                exact ⟨by first | rfl | (simp [errW_none, errW_some] <;> rfl) | (simp only [← hji11, ← hji15, ← hji17]; first | rfl | (simp [errW_none, errW_some] <;> rfl)) | (simp [*, errW_none, errW_some] <;> rfl), by repeat (first | (with_reducible first | exact HB.out | apply below_alloc | apply pw_below_drewN | apply below_drew1 | refine below_set ?_ GE176.out) | exact HB.out)⟩
                            · rw [if_neg c22] at H
                              exact absurd H (by simp)
                          · rw [if_neg c21] at H
                            exact absurd H (by simp)
                        · rw [if_neg c20] at H
                          exact absurd H (by simp)
                      · rw [if_neg c18] at H
                        have c18b0 : decide ((bt a0 (ji11)) < 128) = false := decide_eq_false c18
                        clear c18
                        have H' := Aside0.mk H
                        clear H
                        have p14 : 0 ≤ ((ji11) : Int) := of_decide_eq_true (by first | (with_reducible assumption) | assumption)
                        have q14 : (ji11) < (a0.size : Int) := of_decide_eq_true (by first | (with_reducible assumption) | assumption)
                        have hx14 := bt_at a0 (ji11)
                        replace p14 := eq_true p14
                        replace q14 := eq_true q14
                        go_wp2
                        go_roundg k2
                        case measure => have := HJ2.out; have := HK2.out; omega
                        case rel => exact ⟨(Go.bits .or .u64 x5_2 (ji17)), (wrap64 (x6_2 + 1)), (x177000_2), (x177001_2), (x177002_2), (by first | rfl | (simp; done) | (simp only [← hji17] <;> (first | rfl | simp)) | (simp [*]; done)), (by first | rfl | (simp; done) | (simp [*]; done)), H', ⟨by have := HJ2.out; have := HK2.out; omega⟩, ⟨by (with_reducible repeat (first | refine blk_drewN ?_ _ | refine blk_drew ?_ | refine blk_alloc ?_ _)); exact BK176.out⟩, ⟨by repeat (first | (with_reducible first | exact HB.out | apply below_alloc | apply pw_below_drewN | apply below_drew1 | refine below_set ?_ GE176.out) | exact HB.out)⟩⟩
                    · rw [if_neg c16] at H
                      exact absurd H (by simp)
                  · rw [if_neg c13] at H
                    exact absurd H (by simp)
                · rw [if_neg c12] at H
                  exact absurd H (by simp)
            · rw [if_neg c8] at H
              have c8b0 : decide (x6_2 < 10) = false := decide_eq_false c8
              clear c8
              simp only [Option.some.injEq, Prod.mk.injEq] at H
              obtain ⟨rfl, rfl, rfl⟩ := H
              have hcz30_0 : wr.cell? ⟨gb176, 0, none⟩ = some (.int .u64 x177000_2) := (blk_cell BK176.out 0).trans rfl
              have hcz30_1 : wr.cell? ⟨gb176, 1, none⟩ = some (.int .i64 x177001_2) := (blk_cell BK176.out 1).trans rfl
              have hcz30_2 : wr.cell? ⟨gb176, 2, none⟩ = some (.int .i64 x177002_2) := (blk_cell BK176.out 2).trans rfl
              have hfz30_0 := blk_frozen BK176.out 0
              have hfz30_1 := blk_frozen BK176.out 1
              have hfz30_2 := blk_frozen BK176.out 2
              go_wp2
              refine bodyPost_ret (results_cell_row rfl _ _ gb176 61 #[.int .u64 0, .int .i64 0, .int .i64 3] (0, 0) _ rfl (by (with_reducible repeat (first | refine blk_drewN ?_ _ | refine blk_drew ?_ | refine blk_alloc ?_ _)); refine blk_put (cs := #[.int .u64 0, .int .i64 0, .int .i64 x177002_2]) ?_ 2 _ rfl; (with_reducible repeat (first | refine blk_drewN ?_ _ | refine blk_drew ?_ | refine blk_alloc ?_ _)); refine blk_put (cs := #[.int .u64 0, .int .i64 x177001_2, .int .i64 x177002_2]) ?_ 1 _ rfl; (with_reducible repeat (first | refine blk_drewN ?_ _ | refine blk_drew ?_ | refine blk_alloc ?_ _)); refine blk_put (cs := #[.int .u64 x177000_2, .int .i64 x177001_2, .int .i64 x177002_2]) ?_ 0 _ rfl; (with_reducible repeat (first | refine blk_drewN ?_ _ | refine blk_drew ?_ | refine blk_alloc ?_ _)); exact BK176.out) Try.underlying61 rfl (by kernel_rfl)) rfl ?_
              exact ⟨by first | rfl | (simp [errW_none, errW_some] <;> rfl) | (simp [*, errW_none, errW_some] <;> rfl), by repeat (first | (with_reducible first | exact HB.out | apply below_alloc | apply pw_below_drewN | apply below_drew1 | refine below_set ?_ GE176.out) | exact HB.out)⟩

end Go.Proofs.Ytbldocbijihpgaa.PA

-- ---- Ux
/- Whole numbers in bytes: what the print's functions come to. No program in sight. -/
namespace Go.Proofs.Ytbldocbijihpgaa.PA
set_option linter.unusedVariables false
set_option linter.unusedSimpArgs false
open Go.RowKit Go.Proofs.YtbldocbijihpgaaW.PrintWords Go.Proofs.YtbldocbijihpgaaW.PrintLast Go.Proofs.YtbldocbijihpgaaW.PrintMore Vt Np Bits VintH

theorem strOf_txt (l : List Nat) : strOfNums (l.map fun b : Nat => (b : Int)) = txt l := by
  unfold strOfNums txt
  rw [List.map_map]
  congr 2
set_option maxRecDepth 10000 in
theorem or128 (n : Nat) : Go.bits .or .u8 ((n : Int) % 256) 128 = ((n % 128 + 128 : Nat) : Int) := by
  have e : (n : Int) % 256 = ((n % 256 : Nat) : Int) := by omega
  have key : ∀ x : Fin 256, x.val ||| 128 = x.val % 128 + 128 := by decide
  rw [e]
  have h := u8_or_nat (n % 256) 128 (by omega) (by decide)
  rw [show ((128 : Nat) : Int) = 128 from rfl] at h
  have h2 := key ⟨n % 256, by omega⟩
  simp only at h2
  rw [h, h2]
  congr 1; omega
theorem vput_l0 (d : Nat) : ∀ (n : Nat) (acc : List Nat), n < 128 ^ (d + 1) → acc.length + d < 1000 → Ev (fun k => vint_Put.l0 k (n : Int) (acc.map fun b : Nat => (b : Int))) (txt (acc ++ putV n)) := by
  induction d with
  | zero =>
    intro n acc hn hl
    have hn : n < 128 := by simpa using hn
    refine Ev.step (f := fun _ => some (txt (acc ++ [n]))) (fun k => ?_) (Ev.ofSome (by rw [putV_lt hn]))
    simp only [vint_Put.l0, List.length_map]
    rw [if_neg (by omega), if_pos (by omega), show (n : Int) % 256 = (n : Int) by omega]
    have := strOf_txt (acc ++ [n])
    rw [List.map_append] at this
    rw [← this]; rfl
  | succ d ih =>
    intro n acc hn hl
    rcases Nat.lt_or_ge n 128 with h | h
    · refine Ev.step (f := fun _ => some (txt (acc ++ [n]))) (fun k => ?_) (Ev.ofSome (by rw [putV_lt h]))
      simp only [vint_Put.l0, List.length_map]
      rw [if_neg (by omega), if_pos (by omega), show (n : Int) % 256 = (n : Int) by omega]
      have := strOf_txt (acc ++ [n])
      rw [List.map_append] at this
      rw [← this]; rfl
    · have e : txt (acc ++ putV n) = txt ((acc ++ [n % 128 + 128]) ++ putV (n / 128)) := by rw [putV_ge h]; simp
      rw [e]
      refine Ev.step (f := fun k => vint_Put.l0 k ((n / 128 : Nat) : Int) ((acc ++ [n % 128 + 128]).map fun b : Nat => (b : Int))) (fun k => ?_) (ih (n / 128) (acc ++ [n % 128 + 128]) (by rw [Nat.div_lt_iff_lt_mul (by decide)]; rwa [Nat.pow_succ] at hn) (by simp; omega))
      simp only [vint_Put.l0, List.length_map]
      rw [if_pos (by omega), if_pos (by omega), or128, List.map_append]; rfl
theorem vput_is (n : Nat) (h : n < 18446744073709551616) : Ev (fun k => vint_Put.f k (n : Int)) (txt (putV n)) := by
  have := vput_l0 9 n [] (Nat.lt_trans h (by decide)) (by decide)
  simpa [vint_Put.f] using this
theorem rvput_l0 (d : Nat) : ∀ (n : Nat) (acc : List Nat), n < 128 ^ (d + 1) → acc.length + d < 1000 → Ev (fun k => wringerref1_PutVint.l0 k (n : Int) (acc.map fun b : Nat => (b : Int))) (txt (acc ++ putV n)) := by
  induction d with
  | zero =>
    intro n acc hn hl
    have hn : n < 128 := by simpa using hn
    refine Ev.step (f := fun _ => some (txt (acc ++ [n]))) (fun k => ?_) (Ev.ofSome (by rw [putV_lt hn]))
    simp only [wringerref1_PutVint.l0, List.length_map]
    rw [if_neg (by omega), if_pos (by omega), show (n : Int) % 256 = (n : Int) by omega]
    have := strOf_txt (acc ++ [n])
    rw [List.map_append] at this
    rw [← this]; rfl
  | succ d ih =>
    intro n acc hn hl
    rcases Nat.lt_or_ge n 128 with h | h
    · refine Ev.step (f := fun _ => some (txt (acc ++ [n]))) (fun k => ?_) (Ev.ofSome (by rw [putV_lt h]))
      simp only [wringerref1_PutVint.l0, List.length_map]
      rw [if_neg (by omega), if_pos (by omega), show (n : Int) % 256 = (n : Int) by omega]
      have := strOf_txt (acc ++ [n])
      rw [List.map_append] at this
      rw [← this]; rfl
    · have e : txt (acc ++ putV n) = txt ((acc ++ [n % 128 + 128]) ++ putV (n / 128)) := by rw [putV_ge h]; simp
      rw [e]
      refine Ev.step (f := fun k => wringerref1_PutVint.l0 k ((n / 128 : Nat) : Int) ((acc ++ [n % 128 + 128]).map fun b : Nat => (b : Int))) (fun k => ?_) (ih (n / 128) (acc ++ [n % 128 + 128]) (by rw [Nat.div_lt_iff_lt_mul (by decide)]; rwa [Nat.pow_succ] at hn) (by simp; omega))
      simp only [wringerref1_PutVint.l0, List.length_map]
      rw [if_pos (by omega), if_pos (by omega), or128, List.map_append]; rfl
theorem rvput_is (n : Nat) (h : n < 18446744073709551616) : Ev (fun k => wringerref1_PutVint.f k (n : Int)) (txt (putV n)) := by
  have := rvput_l0 9 n [] (Nat.lt_trans h (by decide)) (by decide)
  simpa [wringerref1_PutVint.f] using this

theorem bt_byteV (s : ByteArray) (i : Nat) (h : i < s.size) : bt s (i : Int) = (byteS s i : Int) := by
  unfold bt
  rw [dif_pos (by rw [Int.toNat_natCast]; exact h)]
  congr 1
  exact byteS_eq s i h
theorem toList_injV {a b : ByteArray} : a.toList = b.toList ↔ a = b := by
  constructor
  · intro h
    have : a.data.toList = b.data.toList := by simpa [ByteArray.toList_eq] using h
    exact ByteArray.ext (Array.toList_inj.1 this)
  · rintro rfl; rfl
theorem shl_u64v (x k : Nat) (hk : k ≤ 64) : shl .u64 (x : Int) (k : Int) = IntKind.u64.wrap ((x : Int) * 2 ^ k) := by
  unfold shl
  have e : min ((k : Int).toNat) (IntKind.bits .u64) = k := by simp [IntKind.bits]; omega
  first | rw [e] | (simp only [Int.toNat_natCast]; rw [Nat.min_eq_left (by simpa [IntKind.bits] using hk)])
/-- The number so far, as both reckon it. -/
theorem num_next (acc b i : Nat) (hi9 : i ≤ 9) (haccb : acc < 128 ^ i) : ∃ n : Nat, Go.bits .or .u64 (acc : Int) (IntKind.u64.wrap (((b % 128 : Nat) : Int) * 2 ^ (7 * i))) = (n : Int) ∧ n < 18446744073709551616 ∧ (¬ (i = 9 ∧ 1 < b % 128) → n = acc + 128 ^ i * (b % 128)) := by
  have hacc2 : acc < 18446744073709551616 := by
    have hp63 : (128 : Nat) ^ i ≤ 128 ^ 9 := Nat.pow_le_pow_right (by decide) hi9
    have : (128 : Nat) ^ 9 < 18446744073709551616 := by decide
    omega
  by_cases h9 : i = 9 ∧ 1 < b % 128
  · have hx : (IntKind.u64.wrap (((b % 128 : Nat) : Int) * 2 ^ (7 * i))) = ((((b % 128) * 2 ^ (7 * i)) % 18446744073709551616 : Nat) : Int) := by
      have e0 : ((b % 128 : Nat) : Int) * 2 ^ (7 * i) = (((b % 128) * 2 ^ (7 * i) : Nat) : Int) := by simp
      rw [e0, IntKind.wrap_u64]; rfl
    rw [hx, u64_or_nat _ _ hacc2 (Nat.mod_lt _ (by decide))]
    exact ⟨_, rfl, Nat.or_lt_two_pow (n := 64) hacc2 (Nat.mod_lt _ (by decide)), fun h => absurd h9 h⟩
  · rw [or_shl acc (b % 128) i hi9 haccb (Nat.mod_lt _ (by decide)) (fun h => Nat.not_lt.1 fun h2 => h9 ⟨h, h2⟩)]
    refine ⟨_, rfl, ?_, fun _ => rfl⟩
    by_cases h : i = 9
    · subst h
      have h1 : b % 128 ≤ 1 := Nat.not_lt.1 fun h2 => h9 ⟨rfl, h2⟩
      have h2 := Nat.mul_le_mul_left (128 ^ 9) h1
      have : (128 : Nat) ^ 9 = 9223372036854775808 := by decide
      rw [this] at *
      omega
    · have h2 := Nat.mul_le_mul_left (128 ^ i) (show b % 128 ≤ 127 by have := Nat.mod_lt b (show 0 < 128 by decide); omega)
      have h3 : (128 : Nat) ^ i ≤ 128 ^ 8 := Nat.pow_le_pow_right (by decide) (by omega)
      have : (128 : Nat) ^ 8 = 72057594037927936 := by decide
      omega
def resV (m : Nat) (r : Nat × Nat × Nat) : Int × Int × Int := if r.2.2 = 0 then ((r.1 : Int), (m : Int) + (r.2.1 : Int), 0) else (0, 0, (r.2.2 : Int))
theorem resV_bad (m e : Nat) (h : e ≠ 0) : resV m (0, 0, e) = (0, 0, (e : Int)) := by unfold resV; rw [if_neg h]
theorem goV_nil (d : Nat) (f : Bool) : goV (d + 1) f [] = (0, 0, 2) := by rw [goV]
theorem goV_zero (f : Bool) (l : List Nat) : goV 0 f l = (0, 0, 3) := by rw [goV]
theorem comb_err (i acc e : Nat) (h : e ≠ 0) : comb i acc (0, 0, e) = (0, 0, e) := by unfold comb; rw [if_neg h]
theorem vgetE_res (s : ByteArray) (m : Nat) (h : m ≤ s.size) : vgetE s (m : Int) = resV m (goV 10 true ((bsOf s).drop m)) := by
  unfold vgetE resV
  rw [if_neg (by omega), Int.toNat_natCast]
theorem rgetv_end (s : ByteArray) (m : Int) (x : Int) : Ev (fun k => wringerref1_GetVint.l0 k s m x 10) (0, 0, 3) :=
  Ev.step (f := fun _ => some (0, 0, 3)) (fun k => by simp only [wringerref1_GetVint.l0]; rw [if_neg (by omega)]) (Ev.now _)
theorem w_add (m i : Nat) (h : m + i < 4611686018427387904) : wrap64 ((m : Int) + (i : Int)) = ((m + i : Nat) : Int) := by rw [w64 (by omega) (by omega)]; rfl
theorem w_mul7 (i : Nat) (h : 7 * i < 4611686018427387904) : wrap64 (7 * (i : Int)) = ((7 * i : Nat) : Int) := by rw [w64 (by omega) (by omega)]; omega
theorem w_succ (m : Nat) (h : m + 1 < 4611686018427387904) : wrap64 ((m : Int) + 1) = ((m + 1 : Nat) : Int) := by rw [w64 (by omega) (by omega)]; rfl
theorem rgetv_l0 (s : ByteArray) (m : Nat) (hs : s.size ≤ 1000000000000) : ∀ (d i : Nat) (acc : Nat) (p : List Nat), i + d = 10 → m + i ≤ s.size → p.length = i → (∀ x ∈ p, 128 ≤ x ∧ x < 256) → acc = vval p → ((bsOf s).take (m + i)).drop m = p →
    Ev (fun k => wringerref1_GetVint.l0 k s (m : Int) (acc : Int) (i : Int)) (resV m (comb i acc (goV (10 - i) (decide (i = 0)) ((bsOf s).drop (m + i))))) := by
  intro d
  induction d with
  | zero =>
    intro i acc p hi hmi hp hpb hacc hpre
    have : i = 10 := by omega
    subst this
    refine evq ?_ (rgetv_end s (m : Int) (acc : Int))
    rw [Nat.sub_self, goV_zero, comb_err _ _ _ (by decide), resV_bad _ _ (by decide)]; rfl
  | succ d ih =>
    intro i acc p hi hmi hp hpb hacc hpre
    have hi9 : i ≤ 9 := by omega
    have hb1 : m + i + 1 < 4611686018427387904 := by omega
    have hb2 : m + i < 4611686018427387904 := by omega
    have hb3 : 7 * i < 4611686018427387904 := by omega
    have hb4 : i + 1 < 4611686018427387904 := by omega
    by_cases hend : s.size ≤ m + i
    · have hd : (bsOf s).drop (m + i) = [] := List.drop_eq_nil_of_le (by rw [length_bsOf]; omega)
      rw [hd, show 10 - i = (9 - i) + 1 by omega, goV_nil, comb_err _ _ _ (by decide), resV_bad _ _ (by decide)]
      refine Ev.step (f := fun _ => some (0, 0, 2)) (fun k => ?_) (Ev.ofSome rfl)
      simp only [wringerref1_GetVint.l0, w_add m i hb2]
      rw [if_pos (by omega), if_pos (by omega)]
    · have hlt : m + i < s.size := by omega
      have hat := bsOf_at s (m + i) hlt
      have hbt := bt_byteV s (m + i) hlt
      have hb := byteS_lt s (m + i)
      obtain ⟨b, hbb⟩ : ∃ b, b = byteS s (m + i) := ⟨_, rfl⟩
      rw [← hbb] at hat hbt hb
      have hpos : ¬ s.size ≤ m + i := hend
      have hpre2 : ((bsOf s).take (m + i + 1)).drop m = p ++ [b] := by
        have hl := length_bsOf s
        have e1 : (bsOf s).take (m + i + 1) = (bsOf s).take (m + i) ++ [b] := by
          rw [List.take_succ_eq_append_getElem (by omega)]
          congr 2
          have := List.drop_eq_getElem_cons (l := bsOf s) (i := m + i) (by omega)
          rw [hat] at this
          injection this with h1 _
          exact h1.symm
        rw [e1, List.drop_append_of_le_length (by rw [List.length_take]; omega), hpre]
      have hand : IntKind.u64.wrap (Go.bits .and .u8 (b : Int) 127) = ((b % 128 : Nat) : Int) := by rw [and127 b hb, IntKind.wrap_u64]; omega
      have hv : vval (p ++ [b]) = acc + 128 ^ i * (b % 128) := by rw [vval_append, hp, ← hacc]; simp [vval]
      have haccb : acc < 128 ^ i := by rw [hacc, ← hp]; exact vval_lt p
      -- the number so far
      obtain ⟨n, hn⟩ := num_next acc b i hi9 haccb
      rw [← hv] at hn
      obtain ⟨hn1, hn2, hn3⟩ := hn
      have hsh : shl .u64 ((b % 128 : Nat) : Int) ((7 * i : Nat) : Int) = IntKind.u64.wrap (((b % 128 : Nat) : Int) * 2 ^ (7 * i)) := shl_u64v _ _ (by omega)
      rw [hat]
      by_cases h128 : b < 128
      · -- the last one
        have hres : resV m (comb i acc (goV (10 - i) (decide (i = 0)) (b :: (bsOf s).drop (m + i + 1)))) = if putV n = p ++ [b] then ((n : Int), ((m + i + 1 : Nat) : Int), 0) else (0, 0, 3) := by
          by_cases h9 : i = 9 ∧ 1 < b % 128
          · rw [comb_bad i acc b _ _ hi9 h9, if_neg]
            · rw [resV_bad _ _ (by decide)]; rfl
            · intro h
              have := ((putV_is p b n hpb h128).1 h).1
              rw [hv, h9.1] at this
              have h3 := Nat.mul_le_mul_left (128 ^ 9) (show 2 ≤ b % 128 by omega)
              omega
          · have hnv := hn3 h9
            by_cases h0 : b = 0 ∧ decide (i = 0) = false
            · rw [comb_zero i acc b _ _ hi9 h9 h128 h0, if_neg]
              · rw [resV_bad _ _ (by decide)]; rfl
              · intro h
                rcases ((putV_is p b n hpb h128).1 h).2 with h | h
                · have := of_decide_eq_false h0.2
                  rw [h] at hp; simp at hp; omega
                · exact h h0.1
            · rw [comb_last i acc b _ _ hi9 h9 h128 h0, if_pos]
              · unfold resV
                rw [if_pos rfl, hnv, hv, Nat.mod_eq_of_lt h128]
                simp only [Prod.mk.injEq]
                exact ⟨trivial, by omega, trivial⟩
              · refine (putV_is p b n hpb h128).2 ⟨hnv, ?_⟩
                by_cases hb0 : b = 0
                · left
                  have : i = 0 := by
                    apply Classical.byContradiction
                    intro hne
                    exact h0 ⟨hb0, decide_eq_false hne⟩
                  exact List.length_eq_zero_iff.1 (by omega)
                · exact .inr hb0
        rw [show m + i + 1 = m + i + 1 from rfl, hres]
        refine Ev.step (f := fun k => (wringerref1_PutVint.f k (n : Int)).bind fun t177 => (if t177.toList = (s.extract m (m + i + 1)).toList then some ((n : Int), ((m + i + 1 : Nat) : Int), 0) else some (0, 0, 3))) (fun k => ?_) (Ev.bind (rvput_is n hn2) ?_)
        · simp only [wringerref1_GetVint.l0, w_add m i hb2, w_mul7 i hb3, hbt, hand, hsh, hn1, w_succ (m + i) hb1, Int.toNat_natCast]
          clear hbt hand hsh hn1 hres hpre hpre2 hv hacc
          have g1 : (0 : Int) ≤ (m : Int) := by omega
          have g2 : (m : Int) ≤ ((m + i + 1 : Nat) : Int) := by omega
          have g3 : ((m + i + 1 : Nat) : Int) ≤ (s.size : Int) := by omega
          rw [if_pos (by omega), if_neg (by omega), if_pos (by omega), if_pos (by omega), if_pos (by omega), if_pos (by omega)]
          simp only [g1, g2, g3, if_true]
        · have hq : (txt (putV n)).toList = (s.extract m (m + i + 1)).toList ↔ putV n = p ++ [b] := by
            rw [toList_injV]
            constructor
            · intro h
              have := congrArg bsOf h
              rwa [bsOf_txt _ (putV_byte n), bsOf_extract, hpre2] at this
            · intro h
              apply bsOf_inj
              rw [bsOf_txt _ (putV_byte n), bsOf_extract, hpre2, h]
          by_cases hc : putV n = p ++ [b]
          · rw [if_pos hc]; exact Ev.ite_pos (hq.2 hc) (Ev.now _)
          · rw [if_neg hc]; exact Ev.ite_neg (fun h => hc (hq.1 h)) (Ev.now _)
      · -- one more
        have step : ∀ k, wringerref1_GetVint.l0 (k + 1) s (m : Int) (acc : Int) (i : Int) = wringerref1_GetVint.l0 k s (m : Int) (n : Int) ((i + 1 : Nat) : Int) := fun k => by
          simp only [wringerref1_GetVint.l0, w_add m i hb2, w_mul7 i hb3, hbt, hand, hsh, hn1, w_succ i hb4]
          clear hbt hand hsh hn1 hpre hpre2 hv hacc
          rw [if_pos (by omega), if_neg (by omega), if_pos (by omega), if_pos (by omega), if_pos (by omega), if_neg (by omega)]
        by_cases h9 : i = 9 ∧ 1 < b % 128
        · rw [comb_bad i acc b _ _ hi9 h9, resV_bad _ _ (by decide)]
          obtain ⟨rfl, _⟩ := h9
          exact Ev.step (f := fun k => wringerref1_GetVint.l0 k s (m : Int) (n : Int) ((9 + 1 : Nat) : Int)) step (rgetv_end s (m : Int) (n : Int))
        · have hnv := hn3 h9
          rw [comb_more (bsOf s) i acc b _ _ hi9 h9 (by omega), ← hv, ← hnv]
          refine Ev.step (f := fun k => wringerref1_GetVint.l0 k s (m : Int) (n : Int) ((i + 1 : Nat) : Int)) step ?_
          have := ih (i + 1) n (p ++ [b]) (by omega) (by omega) (by simp; omega) (fun x hx => by
            rcases List.mem_append.1 hx with h | h
            · exact hpb x h
            · have : x = b := by simpa using h
              omega) hnv (by rw [show m + (i + 1) = m + i + 1 by omega]; exact hpre2)
          rw [show decide (i + 1 = 0) = false from rfl, show m + (i + 1) = m + i + 1 by omega] at this
          exact this
theorem rgetv_is (s : ByteArray) (a : Int) (hs : s.size ≤ 1000000000000) : Ev (fun k => wringerref1_GetVint.f k s a) (vgetE s a) := by
  unfold wringerref1_GetVint.f
  have bad : Ev (fun k => wringerref1_GetVint.j0 k s a true) (0, 0, 1) := Ev.step (f := fun _ => some (0, 0, 1)) (fun k => by simp only [wringerref1_GetVint.j0]; rfl) (Ev.now _)
  by_cases h0 : a < 0
  · have e : vgetE s a = (0, 0, 1) := by unfold vgetE; rw [if_pos (.inl h0)]
    rw [e]; exact Ev.ite_pos h0 bad
  · refine Ev.ite_neg h0 ?_
    by_cases h1 : a > (s.size : Int)
    · have e : vgetE s a = (0, 0, 1) := by unfold vgetE; rw [if_pos (.inr h1)]
      rw [e, decide_eq_true h1]; exact bad
    · obtain ⟨m, rfl⟩ := Int.eq_ofNat_of_zero_le (show 0 ≤ a by omega)
      have h := rgetv_l0 s m hs 10 0 0 [] rfl (by omega) rfl (fun x hx => by simp at hx) rfl (by rw [Nat.add_zero]; exact List.drop_eq_nil_of_le (by rw [List.length_take]; omega))
      rw [Nat.add_zero, show decide (0 = 0) = true from rfl, show 10 - 0 = 10 from rfl, comb_start _ (goV_err 10 true _), ← vgetE_res s m (by omega)] at h
      rw [decide_eq_false h1]
      refine Ev.step (f := fun k => wringerref1_GetVint.l0 k s (m : Int) ((0 : Nat) : Int) ((0 : Nat) : Int)) (fun k => ?_) h
      simp only [wringerref1_GetVint.j0]; rfl
end Go.Proofs.Ytbldocbijihpgaa.PA

-- ---- Nj
/- norm.Put: the bytes of numbers. Conditions: no number is below nought; the list is not longer than a hundred thousand. -/
namespace Go.Proofs.Ytbldocbijihpgaa.NormP
set_option linter.unusedSimpArgs false
set_option linter.unusedVariables false
open Go.RowKit Mix _root_.Go.Proofs.Ytbldocbijihpgaa.Own Vt Np PA
open Go.Proofs.YtbldocbijihpgaaW.PrintWords

abbrev IsB (b : Nat) (B : Nat) (done : List Nat) (w : World) : Prop := Lib.IsBuilderF 65 5 B b (Lib.byteCells (done.map UInt8.ofNat)) w
theorem isB_later {b B : Nat} {done : List Nat} {w w' : World} (h : IsB b B done w) (hb : Below w.heap.size w w') : IsB b B done w' := by
  have key : ∀ p, Lib.BuilderAtF 65 5 B b p (Lib.byteCells (done.map UInt8.ofNat)) w → Lib.BuilderAtF 65 5 B b p (Lib.byteCells (done.map UInt8.ofNat)) w' := by
    rintro p ⟨hB, v, hbk, hown, hne⟩
    refine ⟨hB, v, (hb.block b (Array.getElem?_eq_some_iff.1 hbk).1).trans hbk, ?_, hne⟩
    rcases hown.2 with ⟨hv, h0⟩ | ⟨g, cap, cur, fz, hv, hg, hh, rest⟩
    · exact ⟨hown.1, .inl ⟨hv, h0⟩⟩
    · exact ⟨hown.1, .inr ⟨g, cap, cur, fz, hv, hg, (hb.block g (Array.getElem?_eq_some_iff.1 hh).1).trans hh, rest⟩⟩
  exact h.elim (fun h => .inl (key _ h)) (fun h => .inr (key _ h))
theorem strCells_txt (l : List Nat) : Lib.strCells (txt l) = Lib.byteCells (l.map UInt8.ofNat) := rfl
theorem vput_calls (n : Nat) (w : World) (h : n < 18446744073709551616) : Calls Try.prog 34 #[.int .u64 (n : Int)] w fun e w' => e = .returned (.string (txt (putV n))) ∧ Below w.heap.size w w' := by
  obtain ⟨k, hk⟩ := (vput_is n h).rounds
  exact vint_Put.calls k n _ w hk
/-- One number more. -/
theorem write_more (B b : Nat) (done more : List Nat) (w : World) (h : IsB b B done w) (hlen : done.length + more.length ≤ 100000000) (hBw : B ≤ w.heap.size) :
    Calls Try.prog 33 #[.pointer (some ⟨b, 0, none⟩), .string (txt more)] w fun e w' => (∃ n : Int, e = .returned (.tuple #[.int .i64 n, .nilIface])) ∧ IsB b B (done ++ more) w' ∧ Below B w w' := by
  refine (Sb.write_calls B b _ (txt more) w h (by rw [Lib.byteCells_length, List.length_map, size_txt]; omega) hBw).mono ?_
  rintro e w' ⟨rfl, h1, h2⟩
  refine ⟨⟨_, rfl⟩, ?_, h2⟩
  rw [strCells_txt] at h1
  unfold IsB
  rw [List.map_append]
  have : Lib.byteCells (done.map UInt8.ofNat ++ more.map UInt8.ofNat) = Lib.byteCells (done.map UInt8.ofNat) ++ Lib.byteCells (more.map UInt8.ofNat) := by simp [Lib.byteCells]
  rw [this]; exact h1

theorem len_facts (done : List Nat) (R i n : Nat) (h1 : done.length ≤ 30 * i) (h2 : i + R + 1 ≤ n) (h3 : n ≤ 100000) (h4 : (putV R).length ≤ 10) :
    (done ++ putV 0).length + (putV R).length ≤ 100000000 ∧ (done ++ putV 0 ++ putV R).length ≤ 30 * (i + R + 1) ∧ i + R + 1 ≤ n ∧ done.length + (putV 0).length ≤ 100000000 := by
  have h0 := congrArg List.length (putV_lt (show 0 < 128 by decide))
  simp only [List.length_singleton] at h0
  generalize putV 0 = p0 at *
  generalize putV R = pR at *
  simp only [List.length_append]
  omega
theorem cell_add {w : World} {x : Addr} {n : Nat} {v : Value} (h : w.cell? (x.add n) = some v) (hn : n ≠ 0) : w.cell? ⟨x.block, x.off + n, none⟩ = some v := by
  unfold Addr.add at h; rw [if_neg hn] at h; exact h
set_option maxRecDepth 20000 in
set_option maxHeartbeats 8000000 in
theorem nput_calls (A0 : Option Addr) (c0 : Nat) (l : List Int) (w : World) (hr0 : Kd.C (Kd.int .i64) w A0 l.length l) (hc0 : l.length ≤ c0) (hnn : ∀ x ∈ l, 0 ≤ x ∧ x < 9223372036854775808) (hl : l.length ≤ 100000) :
    Calls Try.prog 19 #[.slice A0 l.length c0] w fun e w' => e = .returned (.string (txt (nputL l))) ∧ Below w.heap.size w w' := by
  have hR := Own.rd_of_C hr0
  obtain ⟨n, hn⟩ : ∃ n, n = l.length := ⟨_, rfl⟩
  rw [← hn] at hR hl ⊢
  obtain ⟨B, hB⟩ : ∃ B, B = w.heap.size := ⟨_, rfl⟩
  have HR := kept hR
  have HL := kept hn
  have HN := kept hnn
  have HB := kept hB
  rw [← hB]
  clear hr0 hc0 hR hn hnn hB
  go_enter Try.func19, Try.ntmps19
  go_wp2_with fail
  rw [← HB.out]
  generalize hwa : World.alloc w _ = wa
  have HI := kept (show IsB B B [] wa by rw [← hwa, HB.out]; exact Lib.IsBuilderF.of (Lib.fresh_isBuilder _ _ w))
  have HBa := kept (show Below B w wa by rw [← hwa, HB.out]; exact (Below.refl _ _).alloc (Nat.le_refl _) _)
  have HSa := kept (show B ≤ wa.heap.size by rw [HB.out]; exact (show Below w.heap.size w wa by rw [← HB.out]; exact HBa.out).size)
  clear hwa
  go_loopw [4] (fun s4 wr => ∃ (i : Nat) (done : List Nat), i ≤ n ∧ s4 = .int .i64 (i : Int) ∧ IsB B B done wr ∧ Below B w wr ∧ B ≤ wr.heap.size ∧ done ++ nputL (l.drop i) = nputL l ∧ done.length ≤ 30 * i) (fun s4 _ => n - (intOf s4).toNat)
  case atStart => exact ⟨0, [], by omega, rfl, HI.out, HBa.out, HSa.out, by simp, by simp⟩
  case round =>
    obtain ⟨i, done, hin, rfl, hI, hb, hs, hd, hdl⟩ := hrel
    obtain ⟨wq, rfl⟩ : ∃ wq, wq = wr := ⟨wr, rfl⟩
    have HI1 := kept hI
    have HB1 := kept hb
    have HS1 := kept hs
    have HD1 := kept hd
    clear hI hb hs hd HI HBa HSa
    by_cases hlt : i < n
    · have hil : i < l.length := by rw [← HL.out]; exact hlt
      obtain ⟨x, rfl, hcw⟩ := HR.out.at (Own.ints_at .i64 l i hil)
      have hxB : (x.add i).block < B := by rw [HB.out]; exact World.block_lt_of_cell? w _ hcw
      have hc := (HB1.out.cell hxB).trans hcw
      have hy := HN.out (l.getD i 0) (by simp [List.getD_eq_getElem?_getD, hil])
      have hdr : l.drop i = l.getD i 0 :: l.drop (i + 1) := by rw [List.drop_eq_getElem_cons hil]; simp [List.getD_eq_getElem?_getD, hil]
      obtain ⟨y, hye⟩ : ∃ y : Nat, l.getD i 0 = (y : Int) := ⟨(l.getD i 0).toNat, by omega⟩
      rw [hye] at hc hy hdr hcw
      have hy63 : y < 9223372036854775808 := by omega
      have HYe := kept hye
      have HDr := kept hdr
      have HYl := kept (putV_len64 y (by omega))
      have HVp := kept (vput_calls y wq (by omega))
      have HCw := kept hcw
      have HDl := kept hdl
      clear hye hil hy hdr hcw
      by_cases hy0 : y = 0
      · subst hy0
        obtain ⟨R, hRn⟩ : ∃ R, R = runZ (l.drop (i + 1)) := ⟨_, rfl⟩
        have hR2 := runZ_le (l.drop (i + 1))
        rw [← hRn, List.length_drop, ← HL.out] at hR2
        have hAt : Kept (∀ q, q < R → l.getD (i + 1 + q) 0 = 0) := kept (fun q hq => by
          have h := runZ_at (l.drop (i + 1)) q (by rw [← hRn]; exact hq)
          simpa [List.getD_eq_getElem?_getD] using h)
        have hEnd : Kept (i + 1 + R = n ∨ l.getD (i + 1 + R) 0 ≠ 0) := kept (by
          rcases runZ_end (l.drop (i + 1)) with h | h
          · left; rw [← hRn, List.length_drop, ← HL.out] at h; omega
          · right; rw [← hRn] at h; simpa [List.getD_eq_getElem?_getD] using h)
        have hnb : Kept (done ++ putV 0 ++ putV R ++ nputL (l.drop (i + R + 1)) = nputL l) := kept (by
          have h := HD1.out
          have h2 := nputL_zero (l.drop (i + 1))
          rw [show ((0 : Nat) : Int) = 0 from rfl] at HDr
          rw [← HDr.out, ← hRn, List.drop_drop, show i + 1 + R = i + R + 1 by omega] at h2
          rw [← h, h2, putV_lt (show 0 < 128 by decide)]; simp)
        have HVp2 : Kept (∀ wx, Calls Try.prog 34 #[.int .u64 ((i : Int) + (R : Int) - (i : Int))] wx fun e w' => e = .returned (.string (txt (putV R))) ∧ Below wx.heap.size wx w') := kept (fun wx => by
          rw [show (i : Int) + (R : Int) - (i : Int) = (R : Int) by omega]; exact vput_calls R wx (by omega))
        have HRl := kept (putV_len64 R (by omega))
        have HLen := kept (len_facts done R i n hdl (by omega) hl HRl.out)
        have hR63 : R < 9223372036854775808 := by omega
        clear hRn
        go_upto_block 2 with (first
          | (go_at_call 34; refine HVp.out.mono ?_; rintro e w2 ⟨rfl, hb2⟩; have HI2 := kept (isB_later HI1.out hb2); have HB2 := kept (HB1.out.trans (hb2.mono HS1.out)); have HS2 := kept (Nat.le_trans HS1.out hb2.size); clear hb2 hc)
          | (go_at_call 33; refine (write_more B B done (putV 0) _ HI2.out HLen.out.2.2.2 HS2.out).mono ?_; rintro e w3 ⟨⟨n3, rfl⟩, hI3, hb3⟩; have HI3 := kept hI3; have HB3 := kept (HB2.out.trans hb3); have HS3 := kept (Nat.le_trans HS2.out hb3.size); have hc3 := (HB3.out.cell hxB).trans HCw.out; clear hI3 hb3))
        go_cut [4] from 25 to 39 (fun s4 wx => s4 = .int .i64 ((i : Int) + (R : Int)) ∧ wx = w3)
        case first =>
          go_wp2_with fail
          go_loopw [4] (fun s4 wr => ∃ q : Nat, q ≤ R ∧ s4 = .int .i64 ((i : Int) + (q : Int)) ∧ wr = w3) (fun s4 _ => i + R - (intOf s4).toNat)
          case atStart => exact ⟨0, by omega, by simp, rfl⟩
          case round =>
            obtain ⟨q, hq, rfl, rfl⟩ := hrel
            have cellq : i + 1 + q < n → wr.cell? (x.add (i + 1 + q)) = some (.int .i64 (l.getD (i + 1 + q) 0)) := fun h => by
              obtain ⟨x2, hx2, hcw2⟩ := HR.out.at (Own.ints_at .i64 l (i + 1 + q) (by rw [← HL.out]; exact h))
              cases hx2
              exact (HB3.out.cell (by rw [HB.out]; exact World.block_lt_of_cell? w _ hcw2)).trans hcw2
            rw [show i + 1 + q = i + q + 1 by omega] at cellq
            by_cases hqr : q < R
            · have hiq : i + q + 1 < n := by omega
              have t1 : decide ((i : Int) + (q : Int) + 1 < (n : Int)) = true := decide_eq_true (by omega)
              have hcq := cellq hiq
              rw [show i + q + 1 = i + 1 + q by omega, hAt.out q hqr, show i + 1 + q = i + q + 1 by omega] at hcq
              replace hcq := cell_add hcq (by omega)
              clear cellq hc3
              go_wp2_with fail
              go_roundw
              case rel => exact ⟨q + 1, by omega, by go_num, trivial⟩
              case measure => simp [intOf]; omega
            · have hqe : q = R := by omega
              subst hqe
              by_cases h65 : i + 1 + q = n
              · have t1 : decide ((i : Int) + (q : Int) + 1 < (n : Int)) = false := decide_eq_false (by omega)
                clear cellq hqr hc3
                go_wp2_with fail
                go_meet
                case rel => exact ⟨rfl, by first | trivial | rfl⟩
              · have t1 : decide ((i : Int) + (q : Int) + 1 < (n : Int)) = true := decide_eq_true (by omega)
                have hiq : i + q + 1 < n := by omega
                have hcq := cellq hiq
                obtain ⟨z, hz⟩ : ∃ z, z = l.getD (i + q + 1) 0 := ⟨_, rfl⟩
                have hEz := hEnd.out
                rw [show i + 1 + q = i + q + 1 by omega, ← hz] at hEz
                rw [← hz] at hcq
                have hz0 : z ≠ 0 := by rcases hEz with h | h; exact absurd h (by omega); exact h
                have t2 : (z == 0) = false := by rw [beq_eq_false_iff_ne]; exact hz0
                replace hcq := cell_add hcq (by omega)
                clear cellq hqr hEz hz hz0 hc3
                go_wp2_with fail
                go_meet
                case rel => exact ⟨rfl, by first | trivial | rfl⟩
        case rest =>
          obtain ⟨rfl, rfl⟩ := hcut
          clear hc3
          go_wp2_with (first
            | (go_at_call 34; refine (HVp2.out _).mono ?_; rintro e w4 ⟨rfl, hb4⟩; have HI4 := kept (isB_later HI3.out hb4); have HB4 := kept (HB3.out.trans (hb4.mono HS3.out)); have HS4 := kept (Nat.le_trans HS3.out hb4.size); clear hb4)
            | (go_at_call 33; refine (write_more B B (done ++ putV 0) (putV R) _ HI4.out HLen.out.1 HS4.out).mono ?_; rintro e w5 ⟨⟨n5, rfl⟩, hI5, hb5⟩; have HI5 := kept hI5; have HB5 := kept (HB4.out.trans hb5); have HS5 := kept (Nat.le_trans HS4.out hb5.size); clear hI5 hb5))
          go_roundw
          case rel => exact ⟨i + R + 1, done ++ putV 0 ++ putV R, HLen.out.2.2.1, by go_num, HI5.out, HB5.out, HS5.out, hnb.out, HLen.out.2.1⟩
          case measure => simp [intOf]; omega
      · have HLy : Kept (done.length + (putV y).length ≤ 100000000) := kept (by have := HYl.out; omega)
        have hnb : Kept (done ++ putV y ++ nputL (l.drop (i + 1)) = nputL l) := kept (by
          have h := HD1.out
          rw [HDr.out, nputL_pos _ _ (by omega), Int.toNat_natCast] at h
          rw [← h]; simp)
        go_wp2_with (first
          | (go_at_call 34; refine HVp.out.mono ?_; rintro e w2 ⟨rfl, hb2⟩; have HI2 := kept (isB_later HI1.out hb2); have HB2 := kept (HB1.out.trans (hb2.mono HS1.out)); have HS2 := kept (Nat.le_trans HS1.out hb2.size); clear hb2 hc)
          | (go_at_call 33; refine (write_more B B done (putV y) _ HI2.out HLy.out HS2.out).mono ?_; rintro e w3 ⟨⟨n3, rfl⟩, hI3, hb3⟩; have HI3 := kept hI3; have HB3 := kept (HB2.out.trans hb3); have HS3 := kept (Nat.le_trans HS2.out hb3.size); have hc3 := (HB3.out.cell hxB).trans HCw.out; clear hI3 hb3))
        go_roundw
        case rel => exact ⟨i + 1, done ++ putV y, by omega, by go_num, HI3.out, HB3.out, HS3.out, hnb.out, by have := HYl.out; have := HDl.out; rw [List.length_append]; omega⟩
        case measure => simp [intOf]; omega
    · have hie : i = n := by omega
      subst hie
      have HF : Kept (nputL l = done) := kept (by
        have h := HD1.out
        rw [List.drop_eq_nil_of_le (by rw [← HL.out]; exact Nat.le_refl _), nputL_nil, List.append_nil] at h
        exact h.symm)
      have HStr := kept (Sb.string_calls B B (done.map UInt8.ofNat) wq HI1.out HS1.out)
      clear hlt hdl
      go_wp2_with (first | (go_at_call 35; refine HStr.out.mono ?_; rintro e w2 ⟨rfl, hb2⟩; have HB2 := kept (HB1.out.trans hb2)))
      go_ret
      exact ⟨by rw [HF.out]; rfl, HB2.out⟩
end Go.Proofs.Ytbldocbijihpgaa.NormP

-- ---- PAx3

namespace Go.Proofs.Ytbldocbijihpgaa.PA
open Go.RowKit Go.Proofs.YtbldocbijihpgaaW.PrintWords Go.Proofs.YtbldocbijihpgaaW.PrintLast Go.Proofs.YtbldocbijihpgaaW.PrintMore
attribute [local go_sem] max2_int min2_int max_two min_two max_three min_three max_four min_four   -- for this text's walks alone
set_option linter.unusedVariables false
set_option linter.unusedSimpArgs false

/-! ### norm_mayLog: function 23 -/
def norm_mayLog.f (a0 : Int) : Option (Bool) := if a0 ≥ 7 then (some (decide (a0 ≤ 12))) else (some false)
set_option maxHeartbeats 8000000 in
set_option maxRecDepth 100000 in
theorem norm_mayLog.calls (a0 : Int) (r : Bool) (w : World) (h : norm_mayLog.f a0 = some r) :
    Calls Try.prog 23 #[.int .i64 a0] w fun e w' => e = .returned (.bool r) ∧ Drawn0 w w' := by
  have H : (if a0 ≥ 7 then (some (decide (a0 ≤ 12))) else (some false)) = some r := h
  clear h
  by_cases c2 : a0 ≥ 7
  · rw [if_pos c2] at H
    have c2b0 : decide (7 ≤ a0) = true := decide_eq_true c2
    clear c2
    obtain rfl := Option.some.inj H
    go_enter Try.func23, Try.ntmps23
    go_wp2
    go_ret
    exact ⟨by first | rfl | (simp; done) | (simp [*]; done), by repeat (first | exact Drawn0.refl _ | apply Drawn0.step)⟩
  · rw [if_neg c2] at H
    have c2b0 : decide (7 ≤ a0) = false := decide_eq_false c2
    clear c2
    obtain rfl := Option.some.inj H
    go_enter Try.func23, Try.ntmps23
    go_wp2
    go_ret
    exact ⟨by first | rfl | (simp; done) | (simp [*]; done), by repeat (first | exact Drawn0.refl _ | apply Drawn0.step)⟩

end Go.Proofs.Ytbldocbijihpgaa.PA

-- ---- PAx15

namespace Go.Proofs.Ytbldocbijihpgaa.PA
open Go.RowKit Go.Proofs.YtbldocbijihpgaaW.PrintWords Go.Proofs.YtbldocbijihpgaaW.PrintLast Go.Proofs.YtbldocbijihpgaaW.PrintMore
attribute [local go_sem] max2_int min2_int max_two min_two max_three min_three max_four min_four   -- for this text's walks alone
set_option linter.unusedVariables false
set_option linter.unusedSimpArgs false

/-! ### norm_May: function 15 -/
mutual
def norm_May.j0 : Nat → List Int → Int → Bool → Option (Bool)
  | 0, _, _, _ => none
  | k + 1, x0, x1, x16 => if x16 = true then (some false) else (if 0 ≤ x1 then (norm_May.l0 k (shl .i64 1 x1) 0 x0 (x0.length : Int) 0) else (none))
def norm_May.l0 : Nat → Int → Int → List Int → Int → Int → Option (Bool)
  | 0, _, _, _, _, _ => none
  | k + 1, x5, x6, x19, x20, x21 => if x21 < x20 then (if 0 ≤ x21 then (if x21 < (x19.length : Int) then (if (rd x19 x21) < 0 then (some false) else (if (rd x19 x21) > x5 then (some false) else (norm_May.l0 k x5 (wrap64 (x6 + (rd x19 x21))) x19 x20 (wrap64 (x21 + 1))))) else (none)) else (none)) else (some (x6 == x5))
end
def norm_May.f (k : Nat) (l0 : List Int) (a1 : Int) : Option (Bool) := (norm_mayLog.f a1).bind fun t117 => (if t117 = true then (norm_May.j0 k l0 a1 ((l0.length : Int) != 65)) else (norm_May.j0 k l0 a1 true))
theorem norm_May.mono_l : ∀ k, (∀ y0 y1 y2, LeO (norm_May.j0 k y0 y1 y2) (norm_May.j0 (k + 1) y0 y1 y2)) ∧ (∀ y0 y1 y2 y3 y4, LeO (norm_May.l0 k y0 y1 y2 y3 y4) (norm_May.l0 (k + 1) y0 y1 y2 y3 y4))
  | 0 => ⟨fun _ _ _ r h => by simp [norm_May.j0] at h, fun _ _ _ _ _ r h => by simp [norm_May.l0] at h⟩
  | k + 1 => by
    obtain ⟨ih0, ih1⟩ := norm_May.mono_l k
    refine ⟨?_, ?_⟩
    · intro y0 y1 y2
      unfold norm_May.j0
      repeat' first
      | (with_reducible exact ih0 _ _ _)
      | (with_reducible exact ih1 _ _ _ _ _)
      | (with_reducible exact LeO.refl _)
      | (with_reducible exact LeO.none _)
      | (with_reducible refine LeO.ite ?_ ?_)
      | (with_reducible refine LeO.bind ?_ (fun _ => ?_))
      | exact ih0 _ _ _
      | exact ih1 _ _ _ _ _
      | exact LeO.none _
      | refine LeO.ite ?_ ?_
      | refine LeO.bind ?_ (fun _ => ?_)
    · intro y0 y1 y2 y3 y4
      unfold norm_May.l0
      repeat' first
      | (with_reducible exact ih0 _ _ _)
      | (with_reducible exact ih1 _ _ _ _ _)
      | (with_reducible exact LeO.refl _)
      | (with_reducible exact LeO.none _)
      | (with_reducible refine LeO.ite ?_ ?_)
      | (with_reducible refine LeO.bind ?_ (fun _ => ?_))
      | exact ih0 _ _ _
      | exact ih1 _ _ _ _ _
      | exact LeO.none _
      | refine LeO.ite ?_ ?_
      | refine LeO.bind ?_ (fun _ => ?_)
theorem norm_May.mono : ∀ a0 a1 k, LeO (norm_May.f k a0 a1) (norm_May.f (k + 1) a0 a1) := by
  intro a0 a1 k
  obtain ⟨ih0, ih1⟩ := norm_May.mono_l k
  unfold norm_May.f
  repeat' first
      | (with_reducible exact ih0 _ _ _)
      | (with_reducible exact ih1 _ _ _ _ _)
      | (with_reducible exact LeO.refl _)
      | (with_reducible exact LeO.none _)
      | (with_reducible refine LeO.ite ?_ ?_)
      | (with_reducible refine LeO.bind ?_ (fun _ => ?_))
      | exact ih0 _ _ _
      | exact ih1 _ _ _ _ _
      | exact LeO.none _
      | refine LeO.ite ?_ ?_
      | refine LeO.bind ?_ (fun _ => ?_)
set_option maxHeartbeats 8000000 in
set_option maxRecDepth 100000 in
theorem norm_May.calls (k : Nat) (A0 : Option Addr) (c0 : Nat) (l0 : List Int) (a1 : Int) (r : Bool) (w : World) (hr0 : Kd.C (Kd.int .i64) w A0 l0.length l0) (hc0 : l0.length ≤ c0) (h : norm_May.f k l0 a1 = some r) :
    Calls Try.prog 15 #[.slice A0 l0.length c0, .int .i64 a1] w fun e w' => e = .returned (.bool r) ∧ Drawn0 w w' := by
  have HR0 := Aside0.mk hr0
  have HC0 := Aside0.mk hc0
  clear hr0 hc0
  have H : ((norm_mayLog.f a1).bind fun t117 => (if t117 = true then (norm_May.j0 k l0 a1 ((l0.length : Int) != 65)) else (norm_May.j0 k l0 a1 true))) = some r := h
  clear h
  have HC3 := Aside0.mk H
  clear H
  go_enter Try.func15, Try.ntmps15
  go_upto_region 1 with (fail)
  go_cut [16] (fun v16 wc => ∃ (kq : Nat) (x16_2 : Bool), v16 = .bool x16_2 ∧ Aside0 (norm_May.j0 kq l0 a1 x16_2 = some r) ∧ Aside0 (kq ≤ k) ∧ Drawn0 w wc)
  case first =>
    have H := HC3.out
    clear HC3
    replace H := Option.bind_eq_some_iff.mp H
    obtain ⟨t117, A40, H⟩ := H
    replace H : (if t117 = true then (norm_May.j0 k l0 a1 ((l0.length : Int) != 65)) else (norm_May.j0 k l0 a1 true)) = some r := H
    have A4 := Aside0.mk A40
    clear A40
    by_cases c5 : t117 = true
    · subst c5
      have H1 : (norm_May.j0 k l0 a1 ((l0.length : Int) != 65)) = some r := by rw [if_pos rfl] at H; exact H
      clear H
      have H := H1
      clear H1
      have H' := Aside0.mk H
      clear H
      go_wp2_with (first | ((with_reducible refine gate_callee (f := 23) rfl ?_); refine goesL_ (some 10) rfl rfl Try.func23 (by kernel_rfl) rfl #[.int .i64 a1] rfl (by (try simp only [List.map_toArray, List.map_cons, List.map_nil]); first | done | rfl | (simp only [List.length_drop, List.length_take]; rfl)) ?_; (with_reducible refine (norm_mayLog.calls a1 true _ A4.out).mono ?_); rintro e w' ⟨rfl, ⟨nd, rfl⟩⟩; refine ⟨_, rfl, ?_⟩))
      go_meet
      case rel => exact ⟨_, (((l0.length : Int) != 65)), (by first | rfl | (simp; done) | (simp [*]; done)), H', ⟨by first | omega | exact Nat.le_refl _⟩, by repeat (first | exact Drawn0.refl _ | apply Drawn0.step)⟩
    · replace c5 := Bool.eq_false_iff.mpr c5
      subst c5
      have H1 : (norm_May.j0 k l0 a1 true) = some r := by rw [if_neg (show ¬ (false = true) by decide)] at H; exact H
      clear H
      have H := H1
      clear H1
      have H' := Aside0.mk H
      clear H
      go_wp2_with (first | ((with_reducible refine gate_callee (f := 23) rfl ?_); refine goesL_ (some 10) rfl rfl Try.func23 (by kernel_rfl) rfl #[.int .i64 a1] rfl (by (try simp only [List.map_toArray, List.map_cons, List.map_nil]); first | done | rfl | (simp only [List.length_drop, List.length_take]; rfl)) ?_; (with_reducible refine (norm_mayLog.calls a1 false _ A4.out).mono ?_); rintro e w' ⟨rfl, ⟨nd, rfl⟩⟩; refine ⟨_, rfl, ?_⟩))
      go_meet
      case rel => exact ⟨_, (true), (by first | rfl | (simp; done) | (simp [*]; done)), H', ⟨by first | omega | exact Nat.le_refl _⟩, by repeat (first | exact Drawn0.refl _ | apply Drawn0.step)⟩
  case rest =>
    clear HC3
    try clear c1
    try clear c2
    try clear p2
    try clear c5
    obtain ⟨kq, x16_2, rfl, HA, HJ2, ⟨mc2, rfl⟩⟩ := hcut
    cases kq with
    | zero => exact absurd HA.out (by simp [norm_May.j0])
    | succ kj2 =>
      have H := HA.out
      clear HA
      simp only [norm_May.j0] at H
      by_cases c6 : x16_2 = true
      · subst c6
        have H1 : (some false) = some r := by rw [if_pos rfl] at H; exact H
        clear H
        have H := H1
        clear H1
        obtain rfl := Option.some.inj H
        go_wp2
        go_ret
        exact ⟨by first | rfl | (simp; done) | (simp [*]; done), by repeat (first | exact Drawn0.refl _ | apply Drawn0.step)⟩
      · replace c6 := Bool.eq_false_iff.mpr c6
        subst c6
        have H1 : (if 0 ≤ a1 then (norm_May.l0 kj2 (shl .i64 1 a1) 0 l0 (l0.length : Int) 0) else (none)) = some r := by rw [if_neg (show ¬ (false = true) by decide)] at H; exact H
        clear H
        have H := H1
        clear H1
        by_cases c7 : 0 ≤ a1
        · rw [if_pos c7] at H
          have c7b0 := eq_true c7
          have c7b1 : decide (0 ≤ a1) = true := decide_eq_true c7
          clear c7
          obtain ⟨ji8, hji8⟩ : ∃ j_ : Int, (shl .i64 1 a1) = j_ := ⟨_, rfl⟩
          replace H : (norm_May.l0 kj2 ji8 0 l0 (l0.length : Int) 0) = some r := by first | (rw [hji8] at H; exact H) | (simp only [hji8] at H ⊢; exact H)
          have hji8_ : (IntKind.i64.wrap (1 * 2 ^ min a1.toNat 64)) = ji8 := hji8
          have hji8z : a1 ≤ 64 → (IntKind.i64.wrap (1 * 2 ^ a1.toNat)) = ji8 := shl_small hji8
          have hji8u : (IntKind.i64.wrap (2 ^ min a1.toNat 64)) = ji8 := by have h_ := hji8_; rw [Int.one_mul] at h_; exact h_
          have hji8v : a1 ≤ 64 → (IntKind.i64.wrap (2 ^ a1.toNat)) = ji8 := fun hle_ => by have h_ := hji8z hle_; rw [Int.one_mul] at h_; exact h_
          have hji8y : (wrap64 (1 * 2 ^ min a1.toNat 64)) = ji8 := (i64_w _).symm.trans hji8_
          have hji8x : a1 ≤ 64 → (wrap64 (1 * 2 ^ a1.toNat)) = ji8 := fun h_ => (i64_w _).symm.trans (hji8z h_)
          have H' := Aside0.mk H
          clear H
          go_wp2
          go_loopg [6, 21] kj2 (fun kq v6 v21 w' => ∃ (x6_2 : Int) (x21_2 : Int), v6 = .int .i64 x6_2 ∧ v21 = .int .i64 x21_2 ∧ Aside0 (norm_May.l0 kq ji8 x6_2 l0 (l0.length : Int) x21_2 = some r) ∧ Aside0 (kq ≤ kj2) ∧ Drawn0 w w')
          case atStart => exact ⟨(0), (0), (by first | rfl | (simp; done) | (simp [*]; done)), (by first | rfl | (simp; done) | (simp [*]; done)), H', ⟨Nat.le_refl _⟩, by repeat (first | exact Drawn0.refl _ | apply Drawn0.step)⟩
          case round =>
            clear H'
            try clear c1
            try clear c2
            try clear p2
            try clear c5
            try clear c6
            try clear p6
            try clear c7
            try clear c7b0
            try clear c7b1
            try clear p2
            obtain ⟨x6_2, x21_2, rfl, rfl, HA, HK2, ⟨m2, rfl⟩⟩ := hrel
            cases gk with
            | zero => exact absurd HA.out (by simp [norm_May.l0])
            | succ k2 =>
              have H := HA.out
              clear HA
              simp only [norm_May.l0] at H
              by_cases c9 : x21_2 < (l0.length : Int)
              · rw [if_pos c9] at H
                have c9b0 : decide (x21_2 < (l0.length : Int)) = true := decide_eq_true c9
                clear c9
                by_cases c10 : 0 ≤ x21_2
                · rw [if_pos c10] at H
                  have c10b0 : decide (0 ≤ x21_2) = true := decide_eq_true c10
                  clear c10
                  by_cases c11 : x21_2 < (l0.length : Int)
                  · rw [if_pos c11] at H
                    have c11b0 : decide (x21_2 < (l0.length : Int)) = true := decide_eq_true c11
                    clear c11
                    by_cases c12 : (rd l0 x21_2) < 0
                    · rw [if_pos c12] at H
                      have c12b0 : decide ((rd l0 x21_2) < 0) = true := decide_eq_true c12
                      clear c12
                      obtain rfl := Option.some.inj H
                      have p118 : 0 ≤ (x21_2 : Int) := of_decide_eq_true (by first | (with_reducible assumption) | assumption)
                      have q118 : x21_2 < (l0.length : Int) := of_decide_eq_true (by first | (with_reducible assumption) | assumption)
                      obtain ⟨ad118, e118, hx118_0⟩ := Kd.at_int HR0.out x21_2 p118 q118
                      cases e118
                      replace p118 := eq_true p118
                      replace q118 := eq_true q118
                      go_wp2
                      go_ret
                      exact ⟨by first | rfl | (simp; done) | (simp only [← hji8] <;> (first | rfl | simp)) | (simp [*]; done), by repeat (first | exact Drawn0.refl _ | apply Drawn0.step)⟩
                    · rw [if_neg c12] at H
                      have c12b0 : decide ((rd l0 x21_2) < 0) = false := decide_eq_false c12
                      clear c12
                      by_cases c13 : (rd l0 x21_2) > ji8
                      · rw [if_pos c13] at H
                        have c13b0 : decide (ji8 < (rd l0 x21_2)) = true := decide_eq_true c13
                        clear c13
                        obtain rfl := Option.some.inj H
                        have p118 : 0 ≤ (x21_2 : Int) := of_decide_eq_true (by first | (with_reducible assumption) | assumption)
                        have q118 : x21_2 < (l0.length : Int) := of_decide_eq_true (by first | (with_reducible assumption) | assumption)
                        obtain ⟨ad118, e118, hx118_0⟩ := Kd.at_int HR0.out x21_2 p118 q118
                        cases e118
                        replace p118 := eq_true p118
                        replace q118 := eq_true q118
                        go_wp2
                        go_ret
                        exact ⟨by first | rfl | (simp; done) | (simp only [← hji8] <;> (first | rfl | simp)) | (simp [*]; done), by repeat (first | exact Drawn0.refl _ | apply Drawn0.step)⟩
                      · rw [if_neg c13] at H
                        have c13b0 : decide (ji8 < (rd l0 x21_2)) = false := decide_eq_false c13
                        clear c13
                        have H' := Aside0.mk H
                        clear H
                        have p118 : 0 ≤ (x21_2 : Int) := of_decide_eq_true (by first | (with_reducible assumption) | assumption)
                        have q118 : x21_2 < (l0.length : Int) := of_decide_eq_true (by first | (with_reducible assumption) | assumption)
                        obtain ⟨ad118, e118, hx118_0⟩ := Kd.at_int HR0.out x21_2 p118 q118
                        cases e118
                        replace p118 := eq_true p118
                        replace q118 := eq_true q118
                        go_wp2
                        go_roundg k2
                        case measure => have := HJ2.out; have := HK2.out; omega
                        case rel => exact ⟨(wrap64 (x6_2 + (rd l0 x21_2))), (wrap64 (x21_2 + 1)), (by first | rfl | (simp; done) | (simp [*]; done)), (by first | rfl | (simp; done) | (simp [*]; done)), H', ⟨by have := HJ2.out; have := HK2.out; omega⟩, by repeat (first | exact Drawn0.refl _ | apply Drawn0.step)⟩
                  · rw [if_neg c11] at H
                    exact absurd H (by simp)
                · rw [if_neg c10] at H
                  exact absurd H (by simp)
              · rw [if_neg c9] at H
                have c9b0 : decide (x21_2 < (l0.length : Int)) = false := decide_eq_false c9
                clear c9
                obtain rfl := Option.some.inj H
                go_wp2
                go_ret
                exact ⟨by first | rfl | (simp; done) | (simp only [← hji8] <;> (first | rfl | simp)) | (simp [*]; done), by repeat (first | exact Drawn0.refl _ | apply Drawn0.step)⟩
        · rw [if_neg c7] at H
          exact absurd H (by simp)

end Go.Proofs.Ytbldocbijihpgaa.PA

-- ---- PAx18

namespace Go.Proofs.Ytbldocbijihpgaa.PA
open Go.RowKit Go.Proofs.YtbldocbijihpgaaW.PrintWords Go.Proofs.YtbldocbijihpgaaW.PrintLast Go.Proofs.YtbldocbijihpgaaW.PrintMore
attribute [local go_sem] max2_int min2_int max_two min_two max_three min_three max_four min_four   -- for this text's walks alone
set_option linter.unusedVariables false
set_option linter.unusedSimpArgs false

/-! ### wringerref7_isLog: function 28 -/
def wringerref7_isLog.f (a0 : Int) : Option (Bool) := if a0 ≥ 7 then (some (decide (a0 ≤ 12))) else (some false)
set_option maxHeartbeats 8000000 in
set_option maxRecDepth 100000 in
theorem wringerref7_isLog.calls (a0 : Int) (r : Bool) (w : World) (h : wringerref7_isLog.f a0 = some r) :
    Calls Try.prog 28 #[.int .i64 a0] w fun e w' => e = .returned (.bool r) ∧ Drawn0 w w' := by
  have H : (if a0 ≥ 7 then (some (decide (a0 ≤ 12))) else (some false)) = some r := h
  clear h
  by_cases c2 : a0 ≥ 7
  · rw [if_pos c2] at H
    have c2b0 : decide (7 ≤ a0) = true := decide_eq_true c2
    clear c2
    obtain rfl := Option.some.inj H
    go_enter Try.func28, Try.ntmps28
    go_wp2
    go_ret
    exact ⟨by first | rfl | (simp; done) | (simp [*]; done), by repeat (first | exact Drawn0.refl _ | apply Drawn0.step)⟩
  · rw [if_neg c2] at H
    have c2b0 : decide (7 ≤ a0) = false := decide_eq_false c2
    clear c2
    obtain rfl := Option.some.inj H
    go_enter Try.func28, Try.ntmps28
    go_wp2
    go_ret
    exact ⟨by first | rfl | (simp; done) | (simp [*]; done), by repeat (first | exact Drawn0.refl _ | apply Drawn0.step)⟩

end Go.Proofs.Ytbldocbijihpgaa.PA

-- ---- PAx29

namespace Go.Proofs.Ytbldocbijihpgaa.PA
open Go.RowKit Go.Proofs.YtbldocbijihpgaaW.PrintWords Go.Proofs.YtbldocbijihpgaaW.PrintLast Go.Proofs.YtbldocbijihpgaaW.PrintMore
attribute [local go_sem] max2_int min2_int max_two min_two max_three min_three max_four min_four   -- for this text's walks alone
set_option linter.unusedVariables false
set_option linter.unusedSimpArgs false

/-! ### wringerref7_MayNorm: function 18 -/
mutual
def wringerref7_MayNorm.j0 : Nat → List Int → Int → Bool → Option (Bool)
  | 0, _, _, _ => none
  | k + 1, x0, x1, x14 => if x14 = true then (some false) else (wringerref7_MayNorm.l0 k x0 x1 0 0)
def wringerref7_MayNorm.l0 : Nat → List Int → Int → Int → Int → Option (Bool)
  | 0, _, _, _, _ => none
  | k + 1, x0, x1, x5, x6 => if x6 < (x0.length : Int) then (if 0 ≤ x6 then (if (rd x0 x6) < 0 then (some false) else (if 0 ≤ x1 then (if (rd x0 x6) > (shl .i64 1 x1) then (some false) else (wringerref7_MayNorm.l0 k x0 x1 (wrap64 (x5 + (rd x0 x6))) (wrap64 (x6 + 1)))) else (none))) else (none)) else (if 0 ≤ x1 then (some (x5 == (shl .i64 1 x1))) else (none))
end
def wringerref7_MayNorm.f (k : Nat) (l0 : List Int) (a1 : Int) : Option (Bool) := (wringerref7_isLog.f a1).bind fun t160 => (if t160 = true then (wringerref7_MayNorm.j0 k l0 a1 ((l0.length : Int) != 65)) else (wringerref7_MayNorm.j0 k l0 a1 true))
theorem wringerref7_MayNorm.mono_l : ∀ k, (∀ y0 y1 y2, LeO (wringerref7_MayNorm.j0 k y0 y1 y2) (wringerref7_MayNorm.j0 (k + 1) y0 y1 y2)) ∧ (∀ y0 y1 y2 y3, LeO (wringerref7_MayNorm.l0 k y0 y1 y2 y3) (wringerref7_MayNorm.l0 (k + 1) y0 y1 y2 y3))
  | 0 => ⟨fun _ _ _ r h => by simp [wringerref7_MayNorm.j0] at h, fun _ _ _ _ r h => by simp [wringerref7_MayNorm.l0] at h⟩
  | k + 1 => by
    obtain ⟨ih0, ih1⟩ := wringerref7_MayNorm.mono_l k
    refine ⟨?_, ?_⟩
    · intro y0 y1 y2
      unfold wringerref7_MayNorm.j0
      repeat' first
      | (with_reducible exact ih0 _ _ _)
      | (with_reducible exact ih1 _ _ _ _)
      | (with_reducible exact LeO.refl _)
      | (with_reducible exact LeO.none _)
      | (with_reducible refine LeO.ite ?_ ?_)
      | (with_reducible refine LeO.bind ?_ (fun _ => ?_))
      | exact ih0 _ _ _
      | exact ih1 _ _ _ _
      | exact LeO.none _
      | refine LeO.ite ?_ ?_
      | refine LeO.bind ?_ (fun _ => ?_)
    · intro y0 y1 y2 y3
      unfold wringerref7_MayNorm.l0
      repeat' first
      | (with_reducible exact ih0 _ _ _)
      | (with_reducible exact ih1 _ _ _ _)
      | (with_reducible exact LeO.refl _)
      | (with_reducible exact LeO.none _)
      | (with_reducible refine LeO.ite ?_ ?_)
      | (with_reducible refine LeO.bind ?_ (fun _ => ?_))
      | exact ih0 _ _ _
      | exact ih1 _ _ _ _
      | exact LeO.none _
      | refine LeO.ite ?_ ?_
      | refine LeO.bind ?_ (fun _ => ?_)
theorem wringerref7_MayNorm.mono : ∀ a0 a1 k, LeO (wringerref7_MayNorm.f k a0 a1) (wringerref7_MayNorm.f (k + 1) a0 a1) := by
  intro a0 a1 k
  obtain ⟨ih0, ih1⟩ := wringerref7_MayNorm.mono_l k
  unfold wringerref7_MayNorm.f
  repeat' first
      | (with_reducible exact ih0 _ _ _)
      | (with_reducible exact ih1 _ _ _ _)
      | (with_reducible exact LeO.refl _)
      | (with_reducible exact LeO.none _)
      | (with_reducible refine LeO.ite ?_ ?_)
      | (with_reducible refine LeO.bind ?_ (fun _ => ?_))
      | exact ih0 _ _ _
      | exact ih1 _ _ _ _
      | exact LeO.none _
      | refine LeO.ite ?_ ?_
      | refine LeO.bind ?_ (fun _ => ?_)
set_option maxHeartbeats 8000000 in
set_option maxRecDepth 100000 in
theorem wringerref7_MayNorm.calls (k : Nat) (A0 : Option Addr) (c0 : Nat) (l0 : List Int) (a1 : Int) (r : Bool) (w : World) (hr0 : Kd.C (Kd.int .i64) w A0 l0.length l0) (hc0 : l0.length ≤ c0) (h : wringerref7_MayNorm.f k l0 a1 = some r) :
    Calls Try.prog 18 #[.slice A0 l0.length c0, .int .i64 a1] w fun e w' => e = .returned (.bool r) ∧ Drawn0 w w' := by
  have HR0 := Aside0.mk hr0
  have HC0 := Aside0.mk hc0
  clear hr0 hc0
  have H : ((wringerref7_isLog.f a1).bind fun t160 => (if t160 = true then (wringerref7_MayNorm.j0 k l0 a1 ((l0.length : Int) != 65)) else (wringerref7_MayNorm.j0 k l0 a1 true))) = some r := h
  clear h
  have HC3 := Aside0.mk H
  clear H
  go_enter Try.func18, Try.ntmps18
  go_upto_region 1 with (fail)
  repeat (go_quiet (fail); go_upto_region 1 with (fail))
  go_cut [14] (fun v14 wc => ∃ (kq : Nat) (x14_2 : Bool), v14 = .bool x14_2 ∧ Aside0 (wringerref7_MayNorm.j0 kq l0 a1 x14_2 = some r) ∧ Aside0 (kq ≤ k) ∧ Drawn0 w wc)
  case first =>
    have H := HC3.out
    clear HC3
    replace H := Option.bind_eq_some_iff.mp H
    obtain ⟨t160, A40, H⟩ := H
    replace H : (if t160 = true then (wringerref7_MayNorm.j0 k l0 a1 ((l0.length : Int) != 65)) else (wringerref7_MayNorm.j0 k l0 a1 true)) = some r := H
    have A4 := Aside0.mk A40
    clear A40
    by_cases c5 : t160 = true
    · subst c5
      have H1 : (wringerref7_MayNorm.j0 k l0 a1 ((l0.length : Int) != 65)) = some r := by rw [if_pos rfl] at H; exact H
      clear H
      have H := H1
      clear H1
      have H' := Aside0.mk H
      clear H
      go_wp2_with (first | (go_at_call 28; (with_reducible refine (wringerref7_isLog.calls a1 true _ A4.out).mono ?_); rintro e w' ⟨rfl, ⟨nd, rfl⟩⟩; (try first | exact ⟨rfl, _, World.drewN_drewN _ _ _⟩ | exact ⟨rfl, _, Eq.trans (World.drewN_drewN _ _ _) (congrArg (World.drewN _) (Nat.add_assoc _ _ _))⟩)))
      repeat (go_quiet (first | (go_at_call 28; (with_reducible refine (wringerref7_isLog.calls a1 true _ A4.out).mono ?_); rintro e w' ⟨rfl, ⟨nd, rfl⟩⟩; (try first | exact ⟨rfl, _, World.drewN_drewN _ _ _⟩ | exact ⟨rfl, _, Eq.trans (World.drewN_drewN _ _ _) (congrArg (World.drewN _) (Nat.add_assoc _ _ _))⟩))); try go_wp2_with (first | (go_at_call 28; (with_reducible refine (wringerref7_isLog.calls a1 true _ A4.out).mono ?_); rintro e w' ⟨rfl, ⟨nd, rfl⟩⟩; (try first | exact ⟨rfl, _, World.drewN_drewN _ _ _⟩ | exact ⟨rfl, _, Eq.trans (World.drewN_drewN _ _ _) (congrArg (World.drewN _) (Nat.add_assoc _ _ _))⟩))))
      go_meet
      case rel => exact ⟨_, (((l0.length : Int) != 65)), (by first | rfl | (simp; done) | (simp [*]; done)), H', ⟨by first | omega | exact Nat.le_refl _⟩, by repeat (first | exact Drawn0.refl _ | apply Drawn0.step)⟩
    · replace c5 := Bool.eq_false_iff.mpr c5
      subst c5
      have H1 : (wringerref7_MayNorm.j0 k l0 a1 true) = some r := by rw [if_neg (show ¬ (false = true) by decide)] at H; exact H
      clear H
      have H := H1
      clear H1
      have H' := Aside0.mk H
      clear H
      go_wp2_with (first | (go_at_call 28; (with_reducible refine (wringerref7_isLog.calls a1 false _ A4.out).mono ?_); rintro e w' ⟨rfl, ⟨nd, rfl⟩⟩; (try first | exact ⟨rfl, _, World.drewN_drewN _ _ _⟩ | exact ⟨rfl, _, Eq.trans (World.drewN_drewN _ _ _) (congrArg (World.drewN _) (Nat.add_assoc _ _ _))⟩)))
      repeat (go_quiet (first | (go_at_call 28; (with_reducible refine (wringerref7_isLog.calls a1 false _ A4.out).mono ?_); rintro e w' ⟨rfl, ⟨nd, rfl⟩⟩; (try first | exact ⟨rfl, _, World.drewN_drewN _ _ _⟩ | exact ⟨rfl, _, Eq.trans (World.drewN_drewN _ _ _) (congrArg (World.drewN _) (Nat.add_assoc _ _ _))⟩))); try go_wp2_with (first | (go_at_call 28; (with_reducible refine (wringerref7_isLog.calls a1 false _ A4.out).mono ?_); rintro e w' ⟨rfl, ⟨nd, rfl⟩⟩; (try first | exact ⟨rfl, _, World.drewN_drewN _ _ _⟩ | exact ⟨rfl, _, Eq.trans (World.drewN_drewN _ _ _) (congrArg (World.drewN _) (Nat.add_assoc _ _ _))⟩))))
      go_meet
      case rel => exact ⟨_, (true), (by first | rfl | (simp; done) | (simp [*]; done)), H', ⟨by first | omega | exact Nat.le_refl _⟩, by repeat (first | exact Drawn0.refl _ | apply Drawn0.step)⟩
  case rest =>
    clear HC3
    try clear c1
    try clear p2
    try clear c5
    obtain ⟨kq, x14_2, rfl, HA, HJ2, ⟨mc2, rfl⟩⟩ := hcut
    cases kq with
    | zero => exact absurd HA.out (by simp [wringerref7_MayNorm.j0])
    | succ kj2 =>
      have H := HA.out
      clear HA
      simp only [wringerref7_MayNorm.j0] at H
      by_cases c6 : x14_2 = true
      · subst c6
        have H1 : (some false) = some r := by rw [if_pos rfl] at H; exact H
        clear H
        have H := H1
        clear H1
        obtain rfl := Option.some.inj H
        go_wp2
        repeat (go_quiet (fail); try go_wp2)
        go_ret
        exact ⟨by first | rfl | (simp; done) | (simp [*]; done), by repeat (first | exact Drawn0.refl _ | apply Drawn0.step)⟩
      · replace c6 := Bool.eq_false_iff.mpr c6
        subst c6
        have H1 : (wringerref7_MayNorm.l0 kj2 l0 a1 0 0) = some r := by rw [if_neg (show ¬ (false = true) by decide)] at H; exact H
        clear H
        have H := H1
        clear H1
        have H' := Aside0.mk H
        clear H
        go_wp2
        repeat (go_quiet (fail); try go_wp2)
        go_loopg [5, 6] kj2 (fun kq v5 v6 w' => ∃ (x5_2 : Int) (x6_2 : Int), v5 = .int .i64 x5_2 ∧ v6 = .int .i64 x6_2 ∧ Aside0 (wringerref7_MayNorm.l0 kq l0 a1 x5_2 x6_2 = some r) ∧ Aside0 (kq ≤ kj2) ∧ Drawn0 w w')
        case atStart => exact ⟨(0), (0), (by first | rfl | (simp; done) | (simp [*]; done)), (by first | rfl | (simp; done) | (simp [*]; done)), H', ⟨Nat.le_refl _⟩, by repeat (first | exact Drawn0.refl _ | apply Drawn0.step)⟩
        case round =>
          clear H'
          try clear c1
          try clear c2
          try clear p2
          try clear c5
          try clear c6
          try clear p2
          obtain ⟨x5_2, x6_2, rfl, rfl, HA, HK2, ⟨m2, rfl⟩⟩ := hrel
          cases gk with
          | zero => exact absurd HA.out (by simp [wringerref7_MayNorm.l0])
          | succ k2 =>
            have H := HA.out
            clear HA
            simp only [wringerref7_MayNorm.l0] at H
            by_cases c7 : x6_2 < (l0.length : Int)
            · rw [if_pos c7] at H
              have c7b0 : decide (x6_2 < (l0.length : Int)) = true := decide_eq_true c7
              clear c7
              by_cases c8 : 0 ≤ x6_2
              · rw [if_pos c8] at H
                have c8b0 : decide (0 ≤ x6_2) = true := decide_eq_true c8
                clear c8
                by_cases c9 : (rd l0 x6_2) < 0
                · rw [if_pos c9] at H
                  have c9b0 : decide ((rd l0 x6_2) < 0) = true := decide_eq_true c9
                  clear c9
                  obtain rfl := Option.some.inj H
                  have p161 : 0 ≤ (x6_2 : Int) := of_decide_eq_true (by first | (with_reducible assumption) | assumption)
                  have q161 : x6_2 < (l0.length : Int) := of_decide_eq_true (by first | (with_reducible assumption) | assumption)
                  obtain ⟨ad161, e161, hx161_0⟩ := Kd.at_int HR0.out x6_2 p161 q161
                  cases e161
                  replace p161 := eq_true p161
                  replace q161 := eq_true q161
                  go_wp2
                  repeat (go_quiet (fail); try go_wp2)
                  go_ret
                  exact ⟨by first | rfl | (simp; done) | (simp [*]; done), by repeat (first | exact Drawn0.refl _ | apply Drawn0.step)⟩
                · rw [if_neg c9] at H
                  have c9b0 : decide ((rd l0 x6_2) < 0) = false := decide_eq_false c9
                  clear c9
                  by_cases c10 : 0 ≤ a1
                  · rw [if_pos c10] at H
                    have c10b0 := eq_true c10
                    have c10b1 : decide (0 ≤ a1) = true := decide_eq_true c10
                    clear c10
                    obtain ⟨ji11, hji11⟩ : ∃ j_ : Int, (shl .i64 1 a1) = j_ := ⟨_, rfl⟩
                    replace H : (if (rd l0 x6_2) > (ji11) then (some false) else (wringerref7_MayNorm.l0 k2 l0 a1 (wrap64 (x5_2 + (rd l0 x6_2))) (wrap64 (x6_2 + 1)))) = some r := by first | (rw [hji11] at H; exact H) | (simp only [hji11] at H ⊢; exact H)
                    have hji11_ : (IntKind.i64.wrap (1 * 2 ^ min a1.toNat 64)) = ji11 := hji11
                    have hji11z : a1 ≤ 64 → (IntKind.i64.wrap (1 * 2 ^ a1.toNat)) = ji11 := shl_small hji11
                    have hji11u : (IntKind.i64.wrap (2 ^ min a1.toNat 64)) = ji11 := by have h_ := hji11_; rw [Int.one_mul] at h_; exact h_
                    have hji11v : a1 ≤ 64 → (IntKind.i64.wrap (2 ^ a1.toNat)) = ji11 := fun hle_ => by have h_ := hji11z hle_; rw [Int.one_mul] at h_; exact h_
                    have hji11y : (wrap64 (1 * 2 ^ min a1.toNat 64)) = ji11 := (i64_w _).symm.trans hji11_
                    have hji11x : a1 ≤ 64 → (wrap64 (1 * 2 ^ a1.toNat)) = ji11 := fun h_ => (i64_w _).symm.trans (hji11z h_)
                    by_cases c12 : (rd l0 x6_2) > (ji11)
                    · rw [if_pos c12] at H
                      have c12b0 : decide ((ji11) < (rd l0 x6_2)) = true := decide_eq_true c12
                      clear c12
                      obtain rfl := Option.some.inj H
                      have p161 : 0 ≤ (x6_2 : Int) := of_decide_eq_true (by first | (with_reducible assumption) | assumption)
                      have q161 : x6_2 < (l0.length : Int) := of_decide_eq_true (by first | (with_reducible assumption) | assumption)
                      obtain ⟨ad161, e161, hx161_0⟩ := Kd.at_int HR0.out x6_2 p161 q161
                      cases e161
                      replace p161 := eq_true p161
                      replace q161 := eq_true q161
                      have p162 : 0 ≤ (x6_2 : Int) := of_decide_eq_true (by first | (with_reducible assumption) | assumption)
                      have q162 : x6_2 < (l0.length : Int) := of_decide_eq_true (by first | (with_reducible assumption) | assumption)
                      obtain ⟨ad162, e162, hx162_0⟩ := Kd.at_int HR0.out x6_2 p162 q162
                      obtain rfl : ad161 = ad162 := (by injection e162)
                      replace p162 := eq_true p162
                      replace q162 := eq_true q162
                      go_wp2
                      repeat (go_quiet (fail); try go_wp2)
                      go_ret
                      exact ⟨by first | rfl | (simp; done) | (simp only [← hji11] <;> (first | rfl | simp)) | (simp [*]; done), by repeat (first | exact Drawn0.refl _ | apply Drawn0.step)⟩
                    · rw [if_neg c12] at H
                      have c12b0 : decide ((ji11) < (rd l0 x6_2)) = false := decide_eq_false c12
                      clear c12
                      have H' := Aside0.mk H
                      clear H
                      have p161 : 0 ≤ (x6_2 : Int) := of_decide_eq_true (by first | (with_reducible assumption) | assumption)
                      have q161 : x6_2 < (l0.length : Int) := of_decide_eq_true (by first | (with_reducible assumption) | assumption)
                      obtain ⟨ad161, e161, hx161_0⟩ := Kd.at_int HR0.out x6_2 p161 q161
                      cases e161
                      replace p161 := eq_true p161
                      replace q161 := eq_true q161
                      have p162 : 0 ≤ (x6_2 : Int) := of_decide_eq_true (by first | (with_reducible assumption) | assumption)
                      have q162 : x6_2 < (l0.length : Int) := of_decide_eq_true (by first | (with_reducible assumption) | assumption)
                      obtain ⟨ad162, e162, hx162_0⟩ := Kd.at_int HR0.out x6_2 p162 q162
                      obtain rfl : ad161 = ad162 := (by injection e162)
                      replace p162 := eq_true p162
                      replace q162 := eq_true q162
                      have p163 : 0 ≤ (x6_2 : Int) := of_decide_eq_true (by first | (with_reducible assumption) | assumption)
                      have q163 : x6_2 < (l0.length : Int) := of_decide_eq_true (by first | (with_reducible assumption) | assumption)
                      obtain ⟨ad163, e163, hx163_0⟩ := Kd.at_int HR0.out x6_2 p163 q163
                      obtain rfl : ad161 = ad163 := (by injection e163)
                      replace p163 := eq_true p163
                      replace q163 := eq_true q163
                      go_wp2
                      repeat (go_quiet (fail); try go_wp2)
                      go_roundg k2
                      case measure => have := HJ2.out; have := HK2.out; omega
                      case rel => exact ⟨(wrap64 (x5_2 + (rd l0 x6_2))), (wrap64 (x6_2 + 1)), (by first | rfl | (simp; done) | (simp [*]; done)), (by first | rfl | (simp; done) | (simp [*]; done)), H', ⟨by have := HJ2.out; have := HK2.out; omega⟩, by repeat (first | exact Drawn0.refl _ | apply Drawn0.step)⟩
                  · rw [if_neg c10] at H
                    exact absurd H (by simp)
              · rw [if_neg c8] at H
                exact absurd H (by simp)
            · rw [if_neg c7] at H
              have c7b0 : decide (x6_2 < (l0.length : Int)) = false := decide_eq_false c7
              clear c7
              by_cases c13 : 0 ≤ a1
              · rw [if_pos c13] at H
                have c13b0 := eq_true c13
                have c13b1 : decide (0 ≤ a1) = true := decide_eq_true c13
                clear c13
                obtain ⟨ji14, hji14⟩ : ∃ j_ : Int, (shl .i64 1 a1) = j_ := ⟨_, rfl⟩
                replace H : (some (x5_2 == (ji14))) = some r := by first | (rw [hji14] at H; exact H) | (simp only [hji14] at H ⊢; exact H)
                have hji14_ : (IntKind.i64.wrap (1 * 2 ^ min a1.toNat 64)) = ji14 := hji14
                have hji14z : a1 ≤ 64 → (IntKind.i64.wrap (1 * 2 ^ a1.toNat)) = ji14 := shl_small hji14
                have hji14u : (IntKind.i64.wrap (2 ^ min a1.toNat 64)) = ji14 := by have h_ := hji14_; rw [Int.one_mul] at h_; exact h_
                have hji14v : a1 ≤ 64 → (IntKind.i64.wrap (2 ^ a1.toNat)) = ji14 := fun hle_ => by have h_ := hji14z hle_; rw [Int.one_mul] at h_; exact h_
                have hji14y : (wrap64 (1 * 2 ^ min a1.toNat 64)) = ji14 := (i64_w _).symm.trans hji14_
                have hji14x : a1 ≤ 64 → (wrap64 (1 * 2 ^ a1.toNat)) = ji14 := fun h_ => (i64_w _).symm.trans (hji14z h_)
                obtain rfl := Option.some.inj H
                go_wp2
                repeat (go_quiet (fail); try go_wp2)
                go_ret
                exact ⟨by first | rfl | (simp; done) | (simp only [← hji14] <;> (first | rfl | simp)) | (simp [*]; done), by repeat (first | exact Drawn0.refl _ | apply Drawn0.step)⟩
              · rw [if_neg c13] at H
                exact absurd H (by simp)

end Go.Proofs.Ytbldocbijihpgaa.PA

-- ---- Um
/- Which numbers may be: what both functions come to. -/
namespace Go.Proofs.Ytbldocbijihpgaa.PA
set_option linter.unusedVariables false
set_option linter.unusedSimpArgs false
open Go.RowKit Go.Proofs.YtbldocbijihpgaaW.PrintWords Go.Proofs.YtbldocbijihpgaaW.PrintLast Go.Proofs.YtbldocbijihpgaaW.PrintMore Nl Sp

theorem mayLog_is (a : Int) : norm_mayLog.f a = some (decide (7 ≤ a ∧ a ≤ 12)) := by
  unfold norm_mayLog.f
  by_cases h : a ≥ 7
  · rw [if_pos h]; congr 1; simp; omega
  · rw [if_neg h]; congr 1; simp; omega
theorem isLog_is (a : Int) : wringerref7_isLog.f a = some (decide (7 ≤ a ∧ a ≤ 12)) := by
  unfold wringerref7_isLog.f
  by_cases h : a ≥ 7
  · rw [if_pos h]; congr 1; simp; omega
  · rw [if_neg h]; congr 1; simp; omega

theorem drop_getD (l : List Int) (i : Nat) (h : i < l.length) : l.drop i = l.getD i 0 :: l.drop (i + 1) := by
  rw [List.drop_eq_getElem_cons h]; simp [List.getD_eq_getElem?_getD, h]

theorem may_l0 (P : Nat) (hP : P ≤ 4096) (l : List Int) (hl : l.length ≤ 100) : ∀ (d i : Nat) (t : Int), i + d = l.length → 0 ≤ t → t ≤ 4096 * (i : Int) →
    Ev (fun k => norm_May.l0 k (P : Int) t l (l.length : Int) (i : Int)) (decide ((∀ x ∈ l.drop i, 0 ≤ x ∧ x ≤ (P : Int)) ∧ t + (l.drop i).sum = (P : Int))) := by
  intro d
  induction d with
  | zero =>
    intro i t hi h0 h1
    refine Ev.step (f := fun _ => some (t == (P : Int))) (fun k => by simp only [norm_May.l0]; rw [if_neg (by omega)]) (Ev.ofSome ?_)
    rw [List.drop_eq_nil_of_le (by omega), Bool.eq_iff_iff]; simp
  | succ d ih =>
    intro i t hi h0 h1
    have hil : i < l.length := by omega
    rw [drop_getD l i hil]
    generalize hy : l.getD i 0 = y
    by_cases hy0 : y < 0
    · refine Ev.step (f := fun _ => some false) (fun k => by simp only [norm_May.l0]; rw [if_pos (by omega), if_pos (by omega), if_pos (by omega), rd_nat, hy, if_pos hy0]) (Ev.ofSome ?_)
      symm; rw [decide_eq_false_iff_not]; intro h; have := h.1 y (by simp); omega
    · by_cases hyP : y > (P : Int)
      · refine Ev.step (f := fun _ => some false) (fun k => by simp only [norm_May.l0]; rw [if_pos (by omega), if_pos (by omega), if_pos (by omega), rd_nat, hy, if_neg hy0, if_pos hyP]) (Ev.ofSome ?_)
        symm; rw [decide_eq_false_iff_not]; intro h; have := h.1 y (by simp); omega
      · refine evq ?_ (Ev.step (f := fun k => norm_May.l0 k (P : Int) (t + y) l (l.length : Int) ((i + 1 : Nat) : Int)) (fun k => by simp only [norm_May.l0]; rw [if_pos (by omega), if_pos (by omega), if_pos (by omega), rd_nat, hy, if_neg hy0, if_neg hyP, w64 (by omega) (by omega), w64 (by omega) (by omega)]; rfl) (ih (i + 1) (t + y) (by omega) (by omega) (by omega)))
        congr 1
        simp only [List.mem_cons, forall_eq_or_imp, List.sum_cons, eq_iff_iff]
        constructor
        · rintro ⟨a, b⟩; exact ⟨⟨⟨by omega, by omega⟩, a⟩, by omega⟩
        · rintro ⟨⟨_, a⟩, b⟩; exact ⟨a, by omega⟩

theorem may_is (l : List Int) (a : Int) : Ev (fun k => norm_May.f k l a) (mayN l a) := by
  unfold norm_May.f
  refine Ev.bind0 (mayLog_is a) ?_
  by_cases hlog : 7 ≤ a ∧ a ≤ 12
  · obtain ⟨m, rfl⟩ := Int.eq_ofNat_of_zero_le (show 0 ≤ a by omega)
    have hp : 2 ^ m ≤ 4096 := by have := pow2_le m 12 (by omega); omega
    refine Ev.ite_pos (by simpa using hlog) ?_
    by_cases h65 : l.length = 65
    · refine evq ?_ (Ev.step (f := fun k => norm_May.l0 k ((2 ^ m : Nat) : Int) 0 l (l.length : Int) ((0 : Nat) : Int)) (fun k => by simp only [norm_May.j0]; rw [if_neg (by simp; omega), if_pos (by omega), shl_1 m (by omega)]; rfl) (may_l0 (2 ^ m) hp l (by omega) l.length 0 0 (by omega) (by omega) (by omega)))
      unfold mayN
      rw [Int.toNat_natCast, List.drop_zero]
      congr 1
      rw [eq_iff_iff]
      constructor
      · rintro ⟨x, y⟩; exact ⟨by omega, by omega, h65, x, by omega⟩
      · rintro ⟨_, _, _, x, y⟩; exact ⟨x, by omega⟩
    · refine Ev.step (f := fun _ => some false) (fun k => by simp only [norm_May.j0]; rw [if_pos (by simp; omega)]) (Ev.ofSome ?_)
      symm; unfold mayN; rw [decide_eq_false_iff_not]; rintro ⟨_, _, h, _⟩; exact h65 h
  · refine Ev.ite_neg (by simpa using hlog) ?_
    refine Ev.step (f := fun _ => some false) (fun k => by simp only [norm_May.j0]; rfl) (Ev.ofSome ?_)
    symm; unfold mayN; rw [decide_eq_false_iff_not]; rintro ⟨h1, h2, _⟩; exact hlog ⟨h1, h2⟩

theorem rmay_l0 (m : Nat) (hm : m ≤ 12) (l : List Int) (hl : l.length ≤ 100) : ∀ (d i : Nat) (t : Int), i + d = l.length → 0 ≤ t → t ≤ 4096 * (i : Int) →
    Ev (fun k => wringerref7_MayNorm.l0 k l (m : Int) t (i : Int)) (decide ((∀ x ∈ l.drop i, 0 ≤ x ∧ x ≤ ((2 ^ m : Nat) : Int)) ∧ t + (l.drop i).sum = ((2 ^ m : Nat) : Int))) := by
  have hP : 2 ^ m ≤ 4096 := by have := pow2_le m 12 hm; omega
  have hs := shl_1 m (by omega)
  generalize 2 ^ m = P at hP hs
  intro d
  induction d with
  | zero =>
    intro i t hi h0 h1
    refine Ev.step (f := fun _ => some (t == (P : Int))) (fun k => by simp only [wringerref7_MayNorm.l0]; rw [if_neg (by omega), if_pos (by omega), hs]) (Ev.ofSome ?_)
    rw [List.drop_eq_nil_of_le (by omega), Bool.eq_iff_iff]; simp
  | succ d ih =>
    intro i t hi h0 h1
    have hil : i < l.length := by omega
    rw [drop_getD l i hil]
    generalize hy : l.getD i 0 = y
    by_cases hy0 : y < 0
    · refine Ev.step (f := fun _ => some false) (fun k => by simp only [wringerref7_MayNorm.l0]; rw [if_pos (by omega), if_pos (by omega), rd_nat, hy, if_pos hy0]) (Ev.ofSome ?_)
      symm; rw [decide_eq_false_iff_not]; intro h; have := h.1 y (by simp); omega
    · by_cases hyP : y > (P : Int)
      · refine Ev.step (f := fun _ => some false) (fun k => by simp only [wringerref7_MayNorm.l0]; rw [if_pos (by omega), if_pos (by omega), rd_nat, hy, if_neg hy0, if_pos (by omega), hs, if_pos hyP]) (Ev.ofSome ?_)
        symm; rw [decide_eq_false_iff_not]; intro h; have := h.1 y (by simp); omega
      · refine evq ?_ (Ev.step (f := fun k => wringerref7_MayNorm.l0 k l (m : Int) (t + y) ((i + 1 : Nat) : Int)) (fun k => by simp only [wringerref7_MayNorm.l0]; rw [if_pos (by omega), if_pos (by omega), rd_nat, hy, if_neg hy0, if_pos (by omega), hs, if_neg hyP, w64 (by omega) (by omega), w64 (by omega) (by omega)]; rfl) (ih (i + 1) (t + y) (by omega) (by omega) (by omega)))
        congr 1
        simp only [List.mem_cons, forall_eq_or_imp, List.sum_cons, eq_iff_iff]
        constructor
        · rintro ⟨a, b⟩; exact ⟨⟨⟨by omega, by omega⟩, a⟩, by omega⟩
        · rintro ⟨⟨_, a⟩, b⟩; exact ⟨a, by omega⟩

theorem rmay_is (l : List Int) (a : Int) : Ev (fun k => wringerref7_MayNorm.f k l a) (mayN l a) := by
  unfold wringerref7_MayNorm.f
  refine Ev.bind0 (isLog_is a) ?_
  by_cases hlog : 7 ≤ a ∧ a ≤ 12
  · obtain ⟨m, rfl⟩ := Int.eq_ofNat_of_zero_le (show 0 ≤ a by omega)
    refine Ev.ite_pos (by simpa using hlog) ?_
    by_cases h65 : l.length = 65
    · refine evq ?_ (Ev.step (f := fun k => wringerref7_MayNorm.l0 k l (m : Int) 0 ((0 : Nat) : Int)) (fun k => by simp only [wringerref7_MayNorm.j0]; rw [if_neg (by simp; omega)]; rfl) (rmay_l0 m (by omega) l (by omega) l.length 0 0 (by omega) (by omega) (by omega)))
      unfold mayN
      rw [Int.toNat_natCast, List.drop_zero]
      congr 1
      rw [eq_iff_iff]
      constructor
      · rintro ⟨x, y⟩; exact ⟨by omega, by omega, h65, x, by omega⟩
      · rintro ⟨_, _, _, x, y⟩; exact ⟨x, by omega⟩
    · refine Ev.step (f := fun _ => some false) (fun k => by simp only [wringerref7_MayNorm.j0]; rw [if_pos (by simp; omega)]) (Ev.ofSome ?_)
      symm; unfold mayN; rw [decide_eq_false_iff_not]; rintro ⟨_, _, h, _⟩; exact h65 h
  · refine Ev.ite_neg (by simpa using hlog) ?_
    refine Ev.step (f := fun _ => some false) (fun k => by simp only [wringerref7_MayNorm.j0]; rfl) (Ev.ofSome ?_)
    symm; unfold mayN; rw [decide_eq_false_iff_not]; rintro ⟨h1, h2, _⟩; exact hlog ⟨h1, h2⟩

/-- What those that may be are. -/
structure May (l : List Int) (m : Nat) : Prop where
  lo : 7 ≤ m
  hi : m ≤ 12
  len : l.length = 65
  each : ∀ x ∈ l, 0 ≤ x ∧ x ≤ ((2 ^ m : Nat) : Int)
  sum : l.sum = ((2 ^ m : Nat) : Int)
theorem may_iff (l : List Int) (a : Int) : mayN l a = true ↔ ∃ m : Nat, a = (m : Int) ∧ May l m := by
  unfold mayN
  rw [decide_eq_true_eq]
  constructor
  · rintro ⟨h1, h2, h3, h4, h5⟩
    exact ⟨a.toNat, by omega, by omega, by omega, h3, h4, h5⟩
  · rintro ⟨m, rfl, h⟩
    exact ⟨by have := h.lo; omega, by have := h.hi; omega, h.len, by rw [Int.toNat_natCast]; exact h.each, by rw [Int.toNat_natCast]; exact h.sum⟩
end Go.Proofs.Ytbldocbijihpgaa.PA

-- ---- Nk
/- norm.Get: the numbers that stand at a place: what the call answers. Conditions: the text is not longer than a thousand million bytes. -/
namespace Go.Proofs.Ytbldocbijihpgaa.NormG
open Go.RowKit Go.Proofs.YtbldocbijihpgaaW.PrintWords Go.Proofs.YtbldocbijihpgaaW.PrintLast Go.Proofs.YtbldocbijihpgaaW.PrintMore
open Mix _root_.Go.Proofs.Ytbldocbijihpgaa.Own Vt Np PA
set_option linter.unusedVariables false
set_option linter.unusedSimpArgs false
attribute [local go_sem] Own.max_int Own.min_int

theorem infoIntG : (Try.prog.info? 3).map (fun i => (i.zero, i.size, i.bytes)) = some (some (.int .i64 0), 1, 8) := by kernel_rfl
theorem info_partsG {i : Option TypeInfo} {z : Value} {s b : Nat} (h : i.map (fun i => (i.zero, i.size, i.bytes)) = some (some z, s, b)) : ∃ i0, i = some i0 ∧ i0.zero = some z ∧ i0.size = s ∧ i0.bytes = b := by
  cases i with
  | none => simp at h
  | some i => simp at h; exact ⟨i, rfl, h.1, h.2.1, h.2.2⟩

/-- The middle result lies in a cell. -/
theorem results_tct {fn : Func} {t u v : Tmp} {ty : TypeId} (h : fn.results = #[.tmp t, .cell u ty, .tmp v]) (tmps : Array Value) (P : Program) (w : World) (a : Addr) (x : Value)
    (hp : tmps.getD u undef = .pointer (some a)) (hl : (loadVar ty a).run P w = .ok x w) :
    (results fn tmps).run P w = .ok (.tuple #[tmps.getD t undef, x, tmps.getD v undef]) w := by
  have hp' : tmps[u]?.getD undef = .pointer (some a) := by simpa using hp
  simp [results, h, hp', asAddr, hl, Sem.run_bind, Result.andThen]
theorem load_int (w : World) (a : Addr) (x : Value) (hc : w.cell? a = some x) : (loadVar 3 a).run Try.prog w = .ok x w := by
  go_simp

set_option maxHeartbeats 1000000 in
theorem nread_calls (bs bn : Nat) (s : ByteArray) (m : Nat) (w : World) (hs : s.size ≤ 1000000000) (hm : m ≤ s.size) (h0 : w.cell? ⟨bs, 0, none⟩ = some (.string s)) (h1 : Blk w bn #[.int .i64 (m : Int)] 3) (r : Nat × Nat × Nat) (hr : r = goV 10 true ((bsOf s).drop m)) (m2 : Nat) (hm2 : m2 = if r.2.2 = 0 then m + r.2.1 else m) :
    Calls Try.prog 30 #[.pointer (some ⟨bs, 0, none⟩), .pointer (some ⟨bn, 0, none⟩)] w fun e w' => e = .returned (.tuple #[.int .u64 (r.1 : Int), .int .i64 (r.2.2 : Int)]) ∧
      Blk w' bn #[.int .i64 (m2 : Int)] 3 ∧ Chg (fun k => k = bn) w w' := by
  have he := goV_err 10 true ((bsOf s).drop m)
  rw [← hr] at he
  have hv : vgetE s (m : Int) = resV m r := by rw [vgetE_res s m hm, hr]
  obtain ⟨q1, q2, q3⟩ := r
  simp only at hm2
  have hc := h1.cell (i := 0) rfl
  have H1 := kept h1
  by_cases h3 : q3 = 0
  · subst h3
    rw [if_pos rfl] at hm2
    have hm3 : (m : Int) + (q2 : Int) = (m2 : Int) := by omega
    have hv2 : vgetE s (m : Int) = ((q1 : Int), (m : Int) + (q2 : Int), 0) := by rw [hv]; unfold resV; rw [if_pos rfl]
    have HV := kept (VintH.get_calls s (m : Int) w (by omega) _ _ _ hv2)
    rw [hm3] at HV
    clear hr he hv hv2 h1 hm2 hm3
    go_enter Try.func30, Try.ntmps30
    go_wp2_with (first | (go_at_call 31; refine HV.out.mono ?_; rintro e w2 ⟨rfl, hb2⟩; have HB2 := kept hb2; have H12 : Kept (Blk w2 bn #[.int .i64 (m : Int)] 3) := kept ((HB2.out.block bn H1.out.lt).trans H1.out); have hf2 := H12.out.free 0; have hc2 := H12.out.cell (i := 0) rfl; clear hb2))
    go_ret2
    exact ⟨rfl, H12.out.set 0 _, (Chg.of_below HB2.out).trans (Chg.setCell w2 ⟨bn, 0, none⟩ _) (fun k _ h => h)⟩
  · have hq : q1 = 0 ∧ q2 = 0 := by
      rcases he with h | h | h
      · exact absurd h h3
      · simp only [Prod.mk.injEq] at h; exact ⟨h.1, h.2.1⟩
      · simp only [Prod.mk.injEq] at h; exact ⟨h.1, h.2.1⟩
    obtain ⟨rfl, rfl⟩ := hq
    rw [if_neg h3] at hm2
    rw [hm2]
    clear hm2
    have hv2 : vgetE s (m : Int) = (0, 0, (q3 : Int)) := by rw [hv]; unfold resV; rw [if_neg h3]
    have HV := kept (VintH.get_calls s (m : Int) w (by omega) _ _ _ hv2)
    have t3 : ((q3 : Int) == 0) = false := by rw [beq_eq_false_iff_ne]; omega
    have H3 := kept h3
    clear hr he hv hv2 h1 h3
    go_enter Try.func30, Try.ntmps30
    go_wp2_with (first | (go_at_call 31; refine HV.out.mono ?_; rintro e w2 ⟨rfl, hb2⟩; have HB2 := kept hb2; have H12 : Kept (Blk w2 bn #[.int .i64 (m : Int)] 3) := kept ((HB2.out.block bn H1.out.lt).trans H1.out); clear hb2))
    go_ret2
    exact ⟨rfl, H12.out, Chg.of_below HB2.out⟩

/-- On the way: the text's block, the place's, the numbers' row. -/
structure StN (B : Nat) (w wr : World) (bs bn : Nat) (s : ByteArray) (m : Nat) (v : Value) (acc : List Int) : Prop where
  str : Blk wr bs #[.string s] 9
  nxt : Blk wr bn #[.int .i64 (m : Int)] 3
  own : Owns wr 3 v (ints .i64 acc)
  sB : B ≤ bs
  nB : B ≤ bn
  ne : bs ≠ bn
  new : ∀ g, v.ownBlock = some g → B ≤ g ∧ g ≠ bn ∧ g ≠ bs
  low : Below B w wr
  sz : B ≤ wr.heap.size
theorem StN.got {B : Nat} {w wr w' : World} {bs bn : Nat} {s : ByteArray} {m m' : Nat} {v : Value} {acc : List Int} (hS : StN B w wr bs bn s m v acc) (h1 : Blk w' bn #[.int .i64 (m' : Int)] 3) (h3 : Chg (fun k => k = bn) wr w') : StN B w w' bs bn s m' v acc := by
  have hb : Below B wr w' := h3.below hS.sz fun k hk e => by have := hS.nB; omega
  exact ⟨h3.keep hS.str hS.ne, h1, hS.own.chg h3 fun g hg e => (hS.new g hg).2.1 e, hS.sB, hS.nB, hS.ne, hS.new, hS.low.trans hb, Nat.le_trans hS.sz hb.size⟩
theorem StN.app {B : Nat} {w wr w' : World} {bs bn : Nat} {s : ByteArray} {m : Nat} {v v' : Value} {acc acc' : List Int} (hS : StN B w wr bs bn s m v acc) (ho : Owns w' 3 v' (ints .i64 acc')) (hc : Chg (fun k => some k = v.ownBlock) wr w') (hn : ∀ g, v'.ownBlock = some g → some g = v.ownBlock ∨ wr.heap.size ≤ g) : StN B w w' bs bn s m v' acc' := by
  have hb : Below B wr w' := hc.below hS.sz fun k hk e => by have := (hS.new k e.symm).1; omega
  exact ⟨hc.keep hS.str fun e => (hS.new _ e.symm).2.2 rfl, hc.keep hS.nxt fun e => (hS.new _ e.symm).2.1 rfl, ho, hS.sB, hS.nB, hS.ne, fun g hg => by
    rcases hn g hg with h | h
    · exact hS.new g h.symm
    · have h1 := hS.sz; have h2 := hS.str.lt; have h3 := hS.nxt.lt; omega, hS.low.trans hb, Nat.le_trans hS.sz hb.size⟩

theorem two_new (s : ByteArray) (w : World) (x : Value) : ((w.alloc (.cells #[.string s] 9)).alloc (.cells #[x] 3)).cell? ⟨w.heap.size + 1, 0, none⟩ = some x ∧ Below w.heap.size w ((w.alloc (.cells #[.string s] 9)).alloc (.cells #[x] 3)) := by
  have hb : Blk ((w.alloc (.cells #[.string s] 9)).alloc (.cells #[x] 3)) (w.heap.size + 1) #[x] 3 := Blk.fresh_at _ _ (by simp) _ _
  exact ⟨hb.cell (i := 0) rfl, ((Below.refl _ _).alloc (Nat.le_refl _) _).alloc (by simp) _⟩
set_option maxHeartbeats 2000000 in
theorem nget_arg (s : ByteArray) (a lg : Int) (w : World) (hs : s.size ≤ 1000000000) (ha : a < 0 ∨ (s.size : Int) < a ∨ ¬ (7 ≤ lg ∧ lg ≤ 12)) :
    Calls Try.prog 16 #[.string s, .int .i64 a, .int .i64 lg] w fun e w' => e = .returned (.tuple #[.slice none 0 0, .int .i64 0, .int .i64 1]) ∧ Below w.heap.size w w' := by
  have HT := kept (two_new s w (.int .i64 0))
  by_cases h0 : a < 0
  · have t1 : decide (a < 0) = true := decide_eq_true h0
    clear ha
    go_enter Try.func16, Try.ntmps16
    go_wp2_with fail
    exact bodyPost_ret (results_tct rfl _ _ _ ⟨w.heap.size + 1, 0, none⟩ (.int .i64 0) rfl (load_int _ _ _ (HT.out.1))) rfl ⟨rfl, HT.out.2⟩
  · have t1 : decide (a < 0) = false := decide_eq_false h0
    by_cases h1 : (s.size : Int) < a
    · have t2 : decide ((s.size : Int) < a) = true := decide_eq_true h1
      clear ha
      go_enter Try.func16, Try.ntmps16
      go_wp2_with fail
      exact bodyPost_ret (results_tct rfl _ _ _ ⟨w.heap.size + 1, 0, none⟩ (.int .i64 0) rfl (load_int _ _ _ (HT.out.1))) rfl ⟨rfl, HT.out.2⟩
    · have t2 : decide ((s.size : Int) < a) = false := decide_eq_false h1
      have hlg : ¬ (7 ≤ lg ∧ lg ≤ 12) := by omega
      have hM := fun w1 => NormF.mayLog_calls lg w1
      rw [show (decide (7 ≤ lg) && decide (lg ≤ 12)) = false by rw [← Bool.decide_and]; exact decide_eq_false hlg] at hM
      have HM := kept hM
      clear ha hlg hM
      go_enter Try.func16, Try.ntmps16
      go_wp2_with (first | (go_at_call 23; refine (HM.out _).mono ?_; rintro e w1 ⟨rfl, rfl⟩))
      exact bodyPost_ret (results_tct rfl _ _ _ ⟨w.heap.size + 1, 0, none⟩ (.int .i64 0) rfl (load_int _ _ _ (HT.out.1))) rfl ⟨rfl, HT.out.2⟩
end Go.Proofs.Ytbldocbijihpgaa.NormG

-- ---- Nm
/- Powers of two as the walk spells them. No program in sight. -/
namespace Go.Proofs.Ytbldocbijihpgaa
set_option linter.unusedSimpArgs false
set_option linter.unusedVariables false
open Go Go.RowKit

theorem shl_int (k : Nat) (h : k ≤ 62) : wrap64 ((2 : Int) ^ k) = ((2 ^ k : Nat) : Int) := by
  have h2 : 2 ^ k ≤ 2 ^ 62 := Nat.pow_le_pow_right (by decide) h
  have e : ((2 : Int) ^ k) = ((2 ^ k : Nat) : Int) := by simp
  have e3 : (2 : Nat) ^ 62 = 4611686018427387904 := by decide
  rw [e]
  generalize 2 ^ k = P at h2
  unfold wrap64
  omega
theorem pow12 (k : Nat) (h : k ≤ 12) : 2 ^ k ≤ 4096 := by
  have : 2 ^ k ≤ 2 ^ 12 := Nat.pow_le_pow_right (by decide) h
  omega
end Go.Proofs.Ytbldocbijihpgaa
