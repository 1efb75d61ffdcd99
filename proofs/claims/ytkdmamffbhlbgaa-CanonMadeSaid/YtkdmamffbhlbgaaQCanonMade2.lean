/- Part CanonMade2 of what the layer's laws stand on: Nl, Uq, PureCanonMade, LawCanonMade. Written by a program (merge.py) out of this session's own texts and of what the kit's print wrote over stand-ins (sp.py). Conditions: those that each theorem names. -/
import Derived.Test.YtkdmamffbhlbgaaQB1
import Derived.Test.YtkdmamffbhlbgaaQCanonMade1
import Derived.Test.YtkdmamffbhlbgaaQB3
import Derived.Test.YtkdmamffbhlbgaaRows
import Derived.WalkKit
import Derived.ProofKit
import Derived.OpenShut
import Derived.ShutString
import Derived.ChangeOld
import Derived.Below
import Derived.SizedLaws
import Derived.Test.YtkdmamffbhlbgaaWSized
-- ---- Nl
/- Numbers of a sum, out of how often each comes: plain facts. No program in sight. -/
namespace Go.Proofs.Ytkdmamffbhlbgaa.Nl
set_option linter.unusedSimpArgs false
set_option linter.unusedVariables false
set_option linter.unusedSectionVars false
open Hp Ol

def bump (l : List Int) (k : Nat) (d : Int) : List Int := l.set k (l.getD k 0 + d)
theorem length_bump (l : List Int) (k : Nat) (d : Int) : (bump l k d).length = l.length := by simp [bump]
theorem getD_bump (l : List Int) (k : Nat) (d : Int) (i : Nat) (hk : k < l.length) : (bump l k d).getD i 0 = if i = k then l.getD k 0 + d else l.getD i 0 := by
  unfold bump
  by_cases h : i = k
  · subst h; rw [if_pos rfl]; simp [List.getD_eq_getElem?_getD, hk]
  · rw [if_neg h]; simp only [List.getD_eq_getElem?_getD]; rw [List.getElem?_set_ne (Ne.symm h)]
theorem sum_set (l : List Int) : ∀ (k : Nat) (v : Int), k < l.length → (l.set k v).sum = l.sum - l.getD k 0 + v := by
  induction l with
  | nil => intro k v h; simp at h
  | cons a t ih =>
    intro k v h
    cases k with
    | zero => simp; omega
    | succ k =>
      have := ih k v (by simpa using h)
      simp only [List.set_cons_succ, List.sum_cons, this]
      have e : (a :: t).getD (k + 1) 0 = t.getD k 0 := by simp
      rw [e]; omega
theorem sum_bump (l : List Int) (k : Nat) (d : Int) (h : k < l.length) : (bump l k d).sum = l.sum + d := by
  unfold bump; rw [sum_set l k _ h]; omega

def share (size all n : Int) : Int := if 0 < n then max 1 (n * size / all) else 0
def shares (f : List Int) (size all : Int) : List Int := f.map (share size all)
def decTop : Nat → List Int → List Int
  | 0, l => l
  | m + 1, l => decTop m (bump l ((ordL l).headD 0) (-1))
def normL (f : List Int) (size : Int) : List Int :=
  if (shares f size f.sum).sum ≤ size then bump (shares f size f.sum) ((ordL f).headD 0) (size - (shares f size f.sum).sum) else decTop ((shares f size f.sum).sum - size).toNat (shares f size f.sum)

theorem getD_shares (f : List Int) (size all : Int) (i : Nat) (h : i < f.length) : (shares f size all).getD i 0 = share size all (f.getD i 0) := by
  simp [shares, List.getD_eq_getElem?_getD, h]
theorem length_shares (f : List Int) (size all : Int) : (shares f size all).length = f.length := by simp [shares]
theorem share_nonneg (size all n : Int) : 0 ≤ share size all n := by unfold share; split <;> omega
theorem share_pos (size all n : Int) : 0 < share size all n ↔ 0 < n := by
  unfold share
  split
  · rename_i h; exact ⟨fun _ => h, fun _ => by omega⟩
  · rename_i h; exact ⟨fun h2 => by omega, fun h2 => absurd h2 h⟩
theorem share_le (size all n : Int) (hs : 1 ≤ size) (ha : 0 < all) (hn : n ≤ all) : share size all n ≤ size := by
  unfold share
  split
  · rename_i h
    have h1 : n * size ≤ all * size := Int.mul_le_mul_of_nonneg_right hn (by omega)
    have h2 : n * size / all ≤ size := by
      have := Int.ediv_le_ediv ha h1
      rwa [Int.mul_ediv_cancel_left _ (by omega)] at this
    omega
  · omega
theorem share_mono (size all a b : Int) (hs : 1 ≤ size) (ha : 0 < all) (h : a ≤ b) : share size all a ≤ share size all b := by
  unfold share
  split
  · rw [if_pos (by omega)]
    have h1 : a * size ≤ b * size := Int.mul_le_mul_of_nonneg_right h (by omega)
    have := Int.ediv_le_ediv ha h1
    omega
  · split <;> omega

theorem sum_nonneg (l : List Int) (h : ∀ x ∈ l, 0 ≤ x) : 0 ≤ l.sum := by
  induction l with
  | nil => simp
  | cons a t ih => have := ih fun x hx => h x (List.mem_cons_of_mem _ hx); have := h a (by simp); simp; omega
theorem le_sum (l : List Int) (h : ∀ x ∈ l, 0 ≤ x) : ∀ x ∈ l, x ≤ l.sum := by
  induction l with
  | nil => simp
  | cons a t ih =>
    intro x hx
    have h0 := sum_nonneg t fun x hx => h x (List.mem_cons_of_mem _ hx)
    have h1 := h a (by simp)
    simp only [List.sum_cons]
    rcases List.mem_cons.1 hx with rfl | hx
    · omega
    · have := ih (fun x hx => h x (List.mem_cons_of_mem _ hx)) x hx; omega
theorem sum_le_max (l : List Int) (m : Int) (h : ∀ x ∈ l, x ≤ m) : l.sum ≤ m * l.length := by
  induction l with
  | nil => simp
  | cons a t ih =>
    have h1 := ih fun x hx => h x (List.mem_cons_of_mem _ hx)
    have h2 := h a (by simp)
    simp only [List.sum_cons, List.length_cons]
    have e : m * ((t.length + 1 : Nat) : Int) = m * (t.length : Int) + m := by rw [Int.natCast_add, Int.mul_add]; simp
    rw [e]; omega
theorem mem_getD {l : List Int} {x : Int} (h : x ∈ l) : ∃ i, i < l.length ∧ l.getD i 0 = x := by
  obtain ⟨i, hi, rfl⟩ := List.mem_iff_getElem.1 h
  exact ⟨i, hi, by simp [List.getD_eq_getElem?_getD, hi]⟩
theorem getD_mem {l : List Int} {i : Nat} (h : i < l.length) : l.getD i 0 ∈ l := by
  rw [List.getD_eq_getElem?_getD, List.getElem?_eq_getElem h]; exact List.getElem_mem _

/-- Where one number at least is greater than 1: the greatest is, and one is taken from it. -/
structure Top (l : List Int) (k : Nat) : Prop where
  lt : k < l.length
  two : 2 ≤ l.getD k 0
  max : ∀ i, i < l.length → l.getD i 0 ≤ l.getD k 0
  least : ∀ i, i < l.length → l.getD i 0 = l.getD k 0 → k ≤ i
theorem top_of {l : List Int} (h : (l.length : Int) < l.sum) : Top l ((ordL l).headD 0) ∧ ∃ t, ordL l = (ordL l).headD 0 :: t := by
  have h2 : ∃ x ∈ l, 2 ≤ x := by
    apply Classical.byContradiction
    intro hno
    have := sum_le_max l 1 fun x hx => by
      have : ¬ 2 ≤ x := fun h2 => hno ⟨x, hx, h2⟩
      omega
    omega
  obtain ⟨x, hx, hx2⟩ := h2
  obtain ⟨i, hi, rfl⟩ := mem_getD hx
  obtain ⟨k, t, hk⟩ := ordL_cons (f := l) ⟨i, hi, by omega⟩
  obtain ⟨a, b, c⟩ := ordL_head hk
  rw [hk]
  exact ⟨⟨a, by have := (c i hi).1; simp only [List.headD_cons]; omega, fun j hj => (c j hj).1, fun j hj => (c j hj).2⟩, t, rfl⟩

/-- What every step keeps. -/
structure Ok (f l : List Int) : Prop where
  len : l.length = f.length
  pos : ∀ i, i < f.length → (0 < l.getD i 0 ↔ 0 < f.getD i 0)
  nn : ∀ i, i < f.length → 0 ≤ l.getD i 0
  mono : ∀ i j, i < f.length → j < f.length → f.getD j 0 < f.getD i 0 → l.getD j 0 ≤ l.getD i 0 + 1
theorem Ok.step {f l : List Int} (h : Ok f l) {k : Nat} (ht : Top l k) : Ok f (bump l k (-1)) := by
  have hk := ht.lt
  have h2 := ht.two
  have G := fun i => getD_bump l k (-1) i hk
  refine ⟨by rw [length_bump]; exact h.len, fun i hi => ?_, fun i hi => ?_, fun i j hi hj hf => ?_⟩
  · rw [G i]
    have := h.pos i hi
    split
    · subst i; constructor
      · intro _; exact this.1 (by omega)
      · intro _; omega
    · exact this
  · rw [G i]; have := h.nn i hi; split <;> omega
  · rw [G i, G j]
    have := h.mono i j hi hj hf
    have hm := ht.max j (by rw [h.len]; exact hj)
    split <;> split <;> (try subst i) <;> (try subst j) <;> omega
theorem decTop_ok {f : List Int} : ∀ (m : Nat) (l : List Int), Ok f l → (f.length : Int) + (m : Int) ≤ l.sum → Ok f (decTop m l) ∧ (decTop m l).sum = l.sum - m := by
  intro m
  induction m with
  | zero => intro l h _; exact ⟨h, by simp [decTop]⟩
  | succ m ih =>
    intro l h hs
    obtain ⟨ht, _⟩ := top_of (l := l) (by rw [h.len]; omega)
    have h1 := h.step ht
    have h2 := sum_bump l ((ordL l).headD 0) (-1) ht.lt
    obtain ⟨a, b⟩ := ih _ h1 (by omega)
    unfold decTop
    exact ⟨a, by omega⟩

theorem bump_zero (l : List Int) (k : Nat) : bump l k 0 = l := by
  by_cases h : k < l.length
  · unfold bump
    rw [Int.add_zero]
    have e : l.getD k 0 = l[k] := by simp [List.getD_eq_getElem?_getD, h]
    rw [e]; exact List.set_getElem_self h
  · unfold bump; exact List.set_eq_of_length_le (by omega)
theorem decTop_succ : ∀ (m : Nat) (l : List Int), decTop (m + 1) l = bump (decTop m l) ((ordL (decTop m l)).headD 0) (-1) := by
  intro m
  induction m with
  | zero => intro l; rfl
  | succ m ih => intro l; show decTop (m + 1) _ = _; rw [ih]; rfl

/-- Frequencies that may be asked. -/
structure Fr (f : List Int) : Prop where
  len : f.length = 65
  nn : ∀ x ∈ f, 0 ≤ x
  le : ∀ x ∈ f, x ≤ 16777216
  pos : 0 < f.sum
theorem Fr.le_all {f : List Int} (h : Fr f) : ∀ x ∈ f, x ≤ f.sum := le_sum f h.nn
theorem Fr.some {f : List Int} (h : Fr f) : ∃ i, i < f.length ∧ 0 < f.getD i 0 := by
  apply Classical.byContradiction
  intro hno
  have := sum_le_max f 0 fun x hx => by
    obtain ⟨i, hi, rfl⟩ := mem_getD hx
    have : ¬ 0 < f.getD i 0 := fun h2 => hno ⟨i, hi, h2⟩
    omega
  have := h.pos
  omega
theorem Fr.sum_le {f : List Int} (h : Fr f) : f.sum ≤ 1090519040 := by
  have := sum_le_max f 16777216 h.le
  rw [h.len] at this
  omega
theorem Fr.shares_ok {f : List Int} (h : Fr f) {size : Int} (hs : 1 ≤ size) : Ok f (shares f size f.sum) := by
  refine ⟨length_shares .., fun i hi => ?_, fun i hi => ?_, fun i j hi hj hf => ?_⟩
  · rw [getD_shares f _ _ i hi]; exact share_pos ..
  · rw [getD_shares f _ _ i hi]; exact share_nonneg ..
  · rw [getD_shares f _ _ i hi, getD_shares f _ _ j hj]
    have := share_mono size f.sum _ _ hs h.pos (Int.le_of_lt hf)
    omega
theorem Fr.share_le {f : List Int} (h : Fr f) {size : Int} (hs : 1 ≤ size) {x : Int} (hx : x ∈ f) : 0 ≤ share size f.sum x ∧ share size f.sum x ≤ size :=
  ⟨share_nonneg .., Nl.share_le _ _ _ hs h.pos (h.le_all x hx)⟩
theorem Fr.shares_sum {f : List Int} (h : Fr f) {size : Int} (hs : 1 ≤ size) : 0 ≤ (shares f size f.sum).sum ∧ (shares f size f.sum).sum ≤ size * 65 := by
  constructor
  · apply sum_nonneg
    intro x hx
    obtain ⟨n, hn, rfl⟩ := List.mem_map.1 hx
    exact (h.share_le hs hn).1
  · have := sum_le_max (shares f size f.sum) size fun x hx => by
      obtain ⟨n, hn, rfl⟩ := List.mem_map.1 hx
      exact (h.share_le hs hn).2
    rw [length_shares, h.len] at this
    exact this
theorem Fr.head {f : List Int} (h : Fr f) : ∃ t, ordL f = (ordL f).headD 0 :: t ∧ (ordL f).headD 0 < 65 := by
  obtain ⟨k, t, hk⟩ := ordL_cons h.some
  have := (ordL_head hk).1
  rw [h.len] at this
  rw [hk]; exact ⟨t, rfl, this⟩

theorem Fr.norm {f : List Int} (h : Fr f) {size : Int} (hs : 66 ≤ size) : Ok f (normL f size) ∧ (normL f size).sum = size := by
  have ho := h.shares_ok (size := size) (by omega)
  unfold normL
  by_cases hle : (shares f size f.sum).sum ≤ size
  · rw [if_pos hle]
    obtain ⟨t, hk, hlt⟩ := h.head
    generalize hK : (ordL f).headD 0 = k at hk hlt
    obtain ⟨k1, k2, k3⟩ := ordL_head hk
    have hkl : k < (shares f size f.sum).length := by rw [length_shares]; exact k1
    refine ⟨⟨by rw [length_bump]; exact ho.len, fun i hi => ?_, fun i hi => ?_, fun i j hi hj hf => ?_⟩, by rw [sum_bump _ _ _ hkl]; omega⟩
    · rw [getD_bump _ _ _ _ hkl]
      have := ho.pos i hi
      split
      · subst i
        constructor
        · intro _; exact k2
        · intro _; have := this.2 k2; omega
      · exact this
    · rw [getD_bump _ _ _ _ hkl]; have := ho.nn i hi; split
      · subst i; omega
      · exact this
    · rw [getD_bump _ _ _ _ hkl, getD_bump _ _ _ _ hkl]
      have h1 := ho.mono i j hi hj hf
      have h2 := (k3 i hi).1
      split
      · subst j; omega
      · split
        · subst i; omega
        · exact h1
  · rw [if_neg hle]
    obtain ⟨a, b⟩ := decTop_ok (f := f) ((shares f size f.sum).sum - size).toNat _ ho (by rw [h.len]; omega)
    exact ⟨a, by omega⟩
theorem Fr.norm_len {f : List Int} (h : Fr f) {size : Int} (hs : 66 ≤ size) : (normL f size).length = 65 := by rw [(h.norm hs).1.len, h.len]
theorem Fr.norm_at {f : List Int} (h : Fr f) {size : Int} (hs : 66 ≤ size) : ∀ x ∈ normL f size, 0 ≤ x ∧ x ≤ size := by
  obtain ⟨ho, hsum⟩ := h.norm hs
  have hn : ∀ x ∈ normL f size, 0 ≤ x := fun x hx => by
    obtain ⟨i, hi, rfl⟩ := mem_getD hx
    exact ho.nn i (by rw [← ho.len]; exact hi)
  exact fun x hx => ⟨hn x hx, by have := le_sum _ hn x hx; omega⟩
/-- Which may be asked. -/
def frB (f : List Int) : Bool := decide (f.length = 65 ∧ (∀ x ∈ f, 0 ≤ x ∧ x ≤ 16777216) ∧ 0 < f.sum)
theorem frB_iff (f : List Int) : frB f = true ↔ Fr f := by
  unfold frB; rw [decide_eq_true_eq]
  exact ⟨fun ⟨a, b, c⟩ => ⟨a, fun x hx => (b x hx).1, fun x hx => (b x hx).2, c⟩, fun h => ⟨h.len, fun x hx => ⟨h.nn x hx, h.le x hx⟩, h.pos⟩⟩
/-- The shares of the first i, nought for the others. -/
def shN (f : List Int) (size all : Int) (i : Nat) : List Int := ((f.take i).map (share size all)) ++ List.replicate (f.length - i) 0
theorem shN_zero (f : List Int) (size all : Int) : shN f size all 0 = List.replicate f.length 0 := by simp [shN]
theorem shN_all (f : List Int) (size all : Int) : shN f size all f.length = shares f size all := by simp [shN, shares]
theorem length_shN (f : List Int) (size all : Int) (i : Nat) (h : i ≤ f.length) : (shN f size all i).length = f.length := by simp [shN]; omega
theorem shN_succ (f : List Int) (size all : Int) (i : Nat) (h : i < f.length) : shN f size all (i + 1) = (shN f size all i).set i (share size all (f.getD i 0)) := by
  unfold shN
  have e : f.length - i = (f.length - (i + 1)) + 1 := by omega
  have e2 : f.getD i 0 = f[i] := by simp [List.getD_eq_getElem?_getD, h]
  have hl : ((f.take i).map (share size all)).length = i := by simp; omega
  rw [List.take_succ_eq_append_getElem h, List.map_append, e, List.replicate_succ, e2]
  rw [List.set_append_right _ _ (by omega), hl, Nat.sub_self, List.set_cons_zero, List.append_assoc]; rfl
theorem shN_at (f : List Int) (size all : Int) (i : Nat) (h : i < f.length) : (shN f size all i).getD i 0 = 0 := by
  unfold shN
  have hl : ((f.take i).map (share size all)).length = i := by simp; omega
  rw [List.getD_eq_getElem?_getD, List.getElem?_append_right (by omega), hl, Nat.sub_self, List.getElem?_replicate, if_pos (by omega)]; rfl
theorem shN_same (f : List Int) (size all : Int) (i : Nat) (h : i < f.length) (h0 : ¬ 0 < f.getD i 0) : shN f size all (i + 1) = shN f size all i := by
  rw [shN_succ f size all i h]
  have hs : share size all (f.getD i 0) = 0 := by unfold share; rw [if_neg h0]
  rw [hs]
  have := bump_zero (shN f size all i) i
  unfold bump at this
  rwa [shN_at f size all i h, Int.add_zero] at this
theorem sum_shN (f : List Int) (size all : Int) (i : Nat) (h : i < f.length) : (shN f size all (i + 1)).sum = (shN f size all i).sum + share size all (f.getD i 0) := by
  rw [shN_succ f size all i h, sum_set _ _ _ (by rw [length_shN _ _ _ _ (by omega)]; exact h), shN_at f size all i h]; omega
theorem take_sum (f : List Int) (i : Nat) (h : i < f.length) : (f.take (i + 1)).sum = (f.take i).sum + f.getD i 0 := by
  rw [List.take_succ_eq_append_getElem h, List.sum_append]
  simp [List.getD_eq_getElem?_getD, h]
theorem Fr.take_sum {f : List Int} (h : Fr f) (i : Nat) : 0 ≤ (f.take i).sum ∧ (f.take i).sum ≤ 1090519040 := by
  have h1 := sum_nonneg (f.take i) fun x hx => h.nn x (List.mem_of_mem_take hx)
  have h2 := sum_nonneg (f.drop i) fun x hx => h.nn x (List.mem_of_mem_drop hx)
  have h3 : f.sum = (f.take i).sum + (f.drop i).sum := by rw [← List.sum_append, List.take_append_drop]
  have := h.sum_le
  omega
theorem Fr.shN_sum {f : List Int} (h : Fr f) {size : Int} (hs : 1 ≤ size) : ∀ i, i ≤ f.length → 0 ≤ (shN f size f.sum i).sum ∧ (shN f size f.sum i).sum ≤ size * (i : Int) := by
  intro i
  induction i with
  | zero => intro _; rw [shN_zero]; simp
  | succ i ih =>
    intro hi
    have := ih (by omega)
    rw [sum_shN f size f.sum i (by omega)]
    have h2 := h.share_le hs (getD_mem (show i < f.length by omega))
    have e : size * ((i + 1 : Nat) : Int) = size * (i : Int) + size := by rw [Int.natCast_add, Int.mul_add]; simp
    rw [e]; omega
end Go.Proofs.Ytkdmamffbhlbgaa.Nl

-- ---- Uq
/- Frequencies by numbers: what they are good for. -/
namespace Go.Proofs.Ytkdmamffbhlbgaa.PA
set_option linter.unusedVariables false
set_option linter.unusedSimpArgs false
open Go.RowKit Go.Proofs.YtkdmamffbhlbgaaW.PrintWords Go.Proofs.YtkdmamffbhlbgaaW.PrintLast Go.Proofs.YtkdmamffbhlbgaaW.PrintMore Nl

/-- 65 numbers, none below nought, none above 65535. -/
structure FreqOk (f : List Int) : Prop where
  len : f.length = 65
  each : ∀ x ∈ f, 0 ≤ x ∧ x ≤ 65535
theorem mem_set_or {l : List Int} {i : Nat} {v x : Int} (h : x ∈ l.set i v) : x ∈ l ∨ x = v := List.mem_or_eq_of_mem_set h
theorem freqOk_set {f : List Int} (h : FreqOk f) (i : Nat) (v : Int) (h0 : 0 ≤ v) (h1 : v ≤ 65535) : FreqOk (f.set i v) :=
  ⟨by rw [List.length_set]; exact h.len, fun x hx => by
    rcases mem_set_or hx with hx | rfl
    · exact h.each x hx
    · exact ⟨h0, h1⟩⟩
theorem u16_at {ns : List Int} (h : ∀ x ∈ ns, (Lit.int .u16 x).wf = true) (i : Nat) (hi : i < ns.length) : ∃ v : Nat, ns.getD i 0 = (v : Int) ∧ v ≤ 65535 := by
  have hw := h _ (getD_mem hi)
  simp only [Lit.wf, Bool.and_eq_true, decide_eq_true_eq] at hw
  have h1 : IntKind.u16.min = 0 := rfl
  have h2 : IntKind.u16.max = 65535 := rfl
  exact ⟨(ns.getD i 0).toNat, by omega, by omega⟩
theorem u16_wrap (n : Nat) (h : n ≤ 65535) : IntKind.u16.wrap (n : Int) = (n : Int) := by
  simp [IntKind.wrap, IntKind.bits, IntKind.signed]; omega
theorem freq_l0 (ns : List Int) (hw : ∀ x ∈ ns, (Lit.int .u16 x).wf = true) (hl : ns.length < 1000000) : ∀ (d i : Nat) (f : List Int), i + d = ns.length + 1 → FreqOk f →
    ∃ g, Ev (fun k => wringerlaw8_Freq.l0 k ns f (i : Int)) g ∧ FreqOk g := by
  intro d
  induction d using Nat.strongRecOn with
  | _ d ih =>
    intro i f hi hf
    by_cases hlt : i + 1 < ns.length
    · obtain ⟨v, hv, hvb⟩ := u16_at hw i (by omega)
      obtain ⟨u, hu, hub⟩ := u16_at hw (i + 1) hlt
      have hfl := hf.len
      have e5 : u / 2 ^ (v / 65 % 16) ≤ u := Nat.div_le_self _ _
      obtain ⟨p, hp⟩ : ∃ p, p = u / 2 ^ (v / 65 % 16) := ⟨_, rfl⟩
      rw [← hp] at e5
      obtain ⟨g, hg, hgf⟩ := ih (d - 2) (by omega) (i + 2) (f.set (v % 65) (p : Int)) (by omega) (freqOk_set hf _ _ (by omega) (by omega))
      refine ⟨g, Ev.step (f := fun k => wringerlaw8_Freq.l0 k ns (f.set (v % 65) (p : Int)) ((i + 2 : Nat) : Int)) (fun k => ?_) hg, hgf⟩
      have c1 : ((i + 1 : Nat) : Int) < (ns.length : Int) := by omega
      have c2 : (0 : Int) ≤ (i : Int) := by omega
      have c3 : (i : Int) < (ns.length : Int) := by omega
      have c4 : (0 : Int) ≤ ((i + 1 : Nat) : Int) := by omega
      have c5 : (0 : Int) ≤ ((v / 65 % 16 : Nat) : Int) := Int.natCast_nonneg _
      have c6 : (0 : Int) ≤ ((v % 65 : Nat) : Int) := Int.natCast_nonneg _
      have c7 : ((v % 65 : Nat) : Int) < (f.length : Int) := by omega
      have w1 : wrap64 ((i : Int) + 1) = ((i + 1 : Nat) : Int) := by rw [w64 (by omega) (by omega)]; rfl
      have w2 : wrap64 ((i : Int) + 2) = ((i + 2 : Nat) : Int) := by clear w1; rw [w64 (by omega) (by omega)]; rfl
      have w3 : wrap64 (v : Int) = (v : Int) := by clear w1 w2; exact w64 (by omega) (by omega)
      have w4 : wrap64 (u : Int) = (u : Int) := by clear w1 w2 w3; exact w64 (by omega) (by omega)
      have w5 : IntKind.u16.wrap ((v / 65 : Nat) : Int) = ((v / 65 : Nat) : Int) := by clear w1 w2 w3 w4; exact u16_wrap _ (by omega)
      have e4 := shr_nat u (v / 65 % 16) (by clear w1 w2 w3 w4 w5; omega)
      rw [← hp] at e4
      have e1 : Int.tdiv (v : Int) 65 = ((v / 65 : Nat) : Int) := tdiv_nat v 65
      have e2 : Int.tmod (v : Int) 65 = ((v % 65 : Nat) : Int) := tmod_nat v 65
      have e3 : Int.tmod ((v / 65 : Nat) : Int) 16 = ((v / 65 % 16 : Nat) : Int) := tmod_nat _ 16
      simp only [wringerlaw8_Freq.l0]
      rw [w1, w2, rd_nat, rd_nat, hv, hu, w3, w4, e1, w5, e3, e2, e4]
      rw [if_pos c1, if_pos c2, if_pos c3, if_pos c4, if_pos c5, if_pos c6, if_pos c7, Int.toNat_natCast]
    · refine ⟨f, Ev.step (f := fun _ => some f) (fun k => ?_) (Ev.now _), hf⟩
      simp only [wringerlaw8_Freq.l0]
      rw [w64 (x := (i : Int) + 1) (by omega) (by omega), if_neg (by omega)]
theorem freq_is (ns : List Int) (hw : ∀ x ∈ ns, (Lit.int .u16 x).wf = true) (hl : ns.length < 1000000) : ∃ f, Ev (fun k => wringerlaw8_Freq.f k ns) f ∧ FreqOk f := by
  obtain ⟨g, hg, hgf⟩ := freq_l0 ns hw hl (ns.length + 1) 0 (List.replicate 65 0) (by omega) ⟨by simp, fun x hx => by rw [(List.mem_replicate.1 hx).2]; omega⟩
  refine ⟨g, ?_, hgf⟩
  unfold wringerlaw8_Freq.f
  exact Ev.ite_pos (by decide) hg

/-- One more of one class: then they may be asked. -/
theorem fr_more {f : List Int} (h : FreqOk f) (i : Nat) (hi : i < 65) : Fr (f.set i (f.getD i 0 + 1)) := by
  have hg := h.each _ (getD_mem (show i < f.length by rw [h.len]; exact hi))
  have hx : ∀ x ∈ f.set i (f.getD i 0 + 1), 0 ≤ x ∧ x ≤ 65536 := fun x hx => by
    rcases mem_set_or hx with hx | rfl
    · have := h.each x hx; omega
    · omega
  refine ⟨by rw [List.length_set]; exact h.len, fun x hm => (hx x hm).1, fun x hm => by have := (hx x hm).2; omega, ?_⟩
  have h1 := sum_bump f i 1 (by rw [h.len]; exact hi)
  unfold bump at h1
  rw [h1]
  have := sum_nonneg f fun x hx => (h.each x hx).1
  omega
end Go.Proofs.Ytkdmamffbhlbgaa.PA

-- ---- PureCanonMade
/- So of lengths by numbers; no code begins another one; shorter ones are ahead: the plain statement of CanonMade holds for every input. Conditions: none. -/
namespace Go.Proofs.Ytkdmamffbhlbgaa.Pure
open Go.RowKit Go.Proofs.Ytkdmamffbhlbgaa.PA Go.Proofs.YtkdmamffbhlbgaaW.PrintWords Go.Proofs.YtkdmamffbhlbgaaW.PrintLast Go.Proofs.YtkdmamffbhlbgaaW.PrintMore Dp Cd
set_option linter.unusedVariables false
set_option linter.unusedSectionVars false
set_option linter.unusedSimpArgs false

theorem dn_mono (l : List Int) (n : Nat) {i j : Nat} (h : i ≤ j) : (dn l n i).Sublist (dn l n j) := by
  unfold dn
  refine List.Sublist.append_left ?_ _
  exact (List.range_sublist.2 h).filter _
theorem dn_up (l : List Int) (n : Nat) (h1 : 1 ≤ n) : ∀ (d : Nat), (dn l n l.length).Sublist (dn l (n + 1 + d) 0) := by
  intro d
  induction d with
  | zero => rw [← dn_next l n h1]; exact List.Sublist.refl _
  | succ d ih =>
    have e : dn l (n + 1 + (d + 1)) 0 = dn l (n + 1 + d) l.length := by rw [show n + 1 + (d + 1) = (n + 1 + d) + 1 by omega]; exact dn_next l _ (by omega)
    rw [e]
    exact ih.trans (dn_mono l _ (Nat.zero_le _))
/-- Who comes first fills up to where the other begins. -/
theorem turn_lt (l : List Int) {n m i j : Nat} (h1 : 1 ≤ n) (hi : i < l.length) (hn : l.getD i 0 = (n : Int)) (h : n < m ∨ (n = m ∧ i < j)) : kd l (dn l n i) + 2 ^ (15 - n) ≤ kd l (dn l m j) := by
  have e : kd l (dn l n (i + 1)) = kd l (dn l n i) + 2 ^ (15 - n) := by
    rw [dn_step, if_pos hn, kd_append]
    congr 1
    unfold kd; rw [List.map_cons, List.map_nil, List.sum_cons, List.sum_nil, hn, Int.toNat_natCast, Nat.add_zero]
  rw [← e]
  refine kd_sub l ?_
  rcases h with h | ⟨rfl, h⟩
  · obtain ⟨d, rfl⟩ : ∃ d, m = n + 1 + d := ⟨m - (n + 1), by omega⟩
    exact ((dn_mono l n (show i + 1 ≤ l.length by omega)).trans (dn_up l n h1 d)).trans (dn_mono l _ (Nat.zero_le _))
  · exact dn_mono l n (by omega)
/-- A class without a length has no code. -/
theorem code_none (l : List Int) {c : Nat} (h : c ∉ ordS l) : (codeL l).getD c (0, 0) = (0, 0) := by
  unfold codeL
  have := code_keep l c (ordS l) [] h
  rw [List.nil_append] at this
  rw [this]
  show (List.replicate 65 ((0 : Int), (0 : Int))).getD c (0, 0) = (0, 0)
  simp only [List.getD_eq_getElem?_getD, List.getElem?_replicate]; split <;> rfl
/-- Each class' code. -/
theorem code_all {l : List Int} (hm : mayL l = true) (i : Nat) (hi : i < 65) : ∃ (n b : Nat), l.getD i 0 = (n : Int) ∧ n ≤ 15 ∧ (codeL l).getD i (0, 0) = ((b : Int), (n : Int)) ∧ b < 2 ^ n ∧ (1 ≤ n → b * 2 ^ (15 - n) = kd l (dn l n i)) := by
  obtain ⟨h65, hr⟩ := may_range hm
  have hmem := hr (l.getD i 0) (by simp [List.getD_eq_getElem?_getD, show i < l.length by omega])
  obtain ⟨n, hn⟩ : ∃ n : Nat, l.getD i 0 = (n : Int) := ⟨(l.getD i 0).toNat, by omega⟩
  by_cases h1 : 1 ≤ n
  · obtain ⟨b, hb1, hb2, hb3⟩ := turn_at hm h1 (by omega) hi hn
    have hks := ks_le hm
    refine ⟨n, b, hn, by omega, hb1, ?_, fun _ => hb2⟩
    have e : 2 ^ n * 2 ^ (15 - n) = 32768 := by rw [← Nat.pow_add, show n + (15 - n) = 15 by omega]
    have hp : 0 < 2 ^ (15 - n) := Nat.pow_pos (by decide)
    refine Nat.lt_of_mul_lt_mul_right (a := 2 ^ (15 - n)) ?_
    rw [e, hb2]; omega
  · have hz : n = 0 := by omega
    subst hz
    refine ⟨0, 0, hn, by omega, code_none l (fun h => ?_), by decide, fun h => absurd h h1⟩
    have := (mem_ordS.1 h).2.1
    rw [hn] at this; omega
/-- No code begins another. -/
theorem code_apart {l : List Int} (hm : mayL l = true) {i j n m b c : Nat} (hi : i < 65) (hj : j < 65) (hij : i ≠ j) (hn : l.getD i 0 = (n : Int)) (hm2 : l.getD j 0 = (m : Int)) (h1 : 1 ≤ n) (hnm : n ≤ m) (h15 : m ≤ 15)
    (hb : b * 2 ^ (15 - n) = kd l (dn l n i)) (hc : c * 2 ^ (15 - m) = kd l (dn l m j)) : c / 2 ^ (m - n) ≠ b := by
  intro he
  have h65 := (may_range hm).1
  have hp : 0 < 2 ^ (15 - m) := Nat.pow_pos (by decide)
  have e : 2 ^ (15 - n) = 2 ^ (m - n) * 2 ^ (15 - m) := by rw [← Nat.pow_add]; congr 1; omega
  have hq : 0 < 2 ^ (m - n) := Nat.pow_pos (by decide)
  have hdm := Nat.div_add_mod c (2 ^ (m - n))
  have hml := Nat.mod_lt c hq
  rw [he] at hdm
  by_cases hlt : n < m ∨ (n = m ∧ i < j)
  · have h2 := turn_lt l h1 (by omega) hn hlt
    rw [← hb, ← hc, e] at h2
    have h3 : c < (b + 1) * 2 ^ (m - n) := by rw [Nat.add_mul, Nat.one_mul, Nat.mul_comm b]; omega
    have h4 : c * 2 ^ (15 - m) < (b + 1) * 2 ^ (m - n) * 2 ^ (15 - m) := Nat.mul_lt_mul_of_pos_right h3 hp
    rw [Nat.add_mul, Nat.one_mul, Nat.add_mul, Nat.mul_assoc] at h4
    omega
  · have hnm2 : n = m := by omega
    subst hnm2
    have h2 := turn_lt l h1 (by omega) hm2 (.inr ⟨rfl, show j < i by omega⟩)
    rw [← hb, ← hc] at h2
    rw [Nat.sub_self, Nat.pow_zero, Nat.div_one] at he
    rw [he] at h2
    omega

section
variable {L : List Int} (hm : mayL L = true)
include hm
theorem rd_code (i : Nat) (hi : i < 65) : rd_T40 ((codeL L).map codeS) (i : Int) = codeS ((codeL L).getD i (0, 0)) := by
  have hl : i < (codeL L).length := by unfold codeL; rw [length_cst]; exact hi
  rw [rdC_nat, List.getD_eq_getElem?_getD, List.getElem?_map, List.getElem?_eq_getElem hl, List.getD_eq_getElem?_getD, List.getElem?_eq_getElem hl]; rfl
theorem made_l1 (i : Nat) (hi : i < 65) (hnext : Ev (fun k => wringerlaw9_CanonMade.l0 k L ((codeL L).map codeS) ((i + 1 : Nat) : Int)) true) :
    ∀ (d j : Nat), j + d = 65 → Ev (fun k => wringerlaw9_CanonMade.l1 k L ((codeL L).map codeS) (i : Int) (j : Int)) true := by
  obtain ⟨n, b, hn, hn15, hcn, hbn, hkn⟩ := code_all hm i hi
  have hri := rd_code hm i hi
  rw [hcn] at hri
  have hcl : ((codeL L).map codeS).length = 65 := by rw [List.length_map]; exact length_cst L _
  intro d
  induction d with
  | zero =>
    intro j hj
    refine Ev.step (f := fun k => wringerlaw9_CanonMade.l0 k L ((codeL L).map codeS) ((i + 1 : Nat) : Int)) (fun k => ?_) hnext
    simp only [wringerlaw9_CanonMade.l1]
    rw [if_neg (by omega), w64 (by omega) (by omega)]; rfl
  | succ d ih =>
    intro j hj
    have hj65 : j < 65 := by omega
    obtain ⟨m, c, hm2, hm15, hcm, hbm, hkm⟩ := code_all hm j hj65
    have hrj := rd_code hm j hj65
    rw [hcm] at hrj
    have ew : wrap64 ((j : Int) + 1) = ((j + 1 : Nat) : Int) := by rw [w64 (by omega) (by omega)]; rfl
    refine Ev.step (f := fun k => wringerlaw9_CanonMade.l1 k L ((codeL L).map codeS) (i : Int) ((j + 1 : Nat) : Int)) (fun k => ?_) (ih (j + 1) (by omega))
    have ed : n ≤ m → wrap64 ((m : Int) - (n : Int)) = ((m - n : Nat) : Int) := fun h => by rw [w64 (by omega) (by omega)]; omega
    have es : shr .i64 (c : Int) ((m - n : Nat) : Int) = ((c / 2 ^ (m - n) : Nat) : Int) := shr_nat c (m - n) (by omega)
    have hap : 1 ≤ n → n ≤ m → i ≠ j → c / 2 ^ (m - n) ≠ b := fun h1 h2 h3 => code_apart hm hi hj65 h3 hn hm2 h1 h2 hm15 (hkn h1) (hkm (by omega))
    simp only [wringerlaw9_CanonMade.l1, hri, hrj, codeS, ew, hcl]
    clear ih hnext hri hrj hcn hcm hn hm2 hkn hkm ew
    rw [if_pos (by omega)]
    by_cases hij : i = j
    · rw [if_pos (by omega)]
    · rw [if_neg (by omega), if_pos (by omega), if_pos (by omega)]
      by_cases h1 : 1 ≤ n
      · rw [if_pos (by omega), if_pos (by omega), if_pos (by omega)]
        by_cases h2 : n ≤ m
        · rw [if_pos (by omega), ed h2, es]
          have h3 := hap h1 h2 hij
          clear ed es hap
          rw [if_pos (by omega), if_neg (by omega)]
        · rw [if_neg (by omega)]
      · rw [if_neg (by omega)]
theorem made_l0 : ∀ (d i : Nat), i + d = 65 → Ev (fun k => wringerlaw9_CanonMade.l0 k L ((codeL L).map codeS) (i : Int)) true := by
  have hcl : ((codeL L).map codeS).length = 65 := by rw [List.length_map]; exact length_cst L _
  have h65 := (may_range hm).1
  intro d
  induction d with
  | zero =>
    intro i hi
    refine Ev.step (f := fun k => (wringerlaw9_awake.f k).bind fun t190 => (some t190)) (fun k => ?_) (Ev.bind awake9 (Ev.now _))
    simp only [wringerlaw9_CanonMade.l0]
    rw [if_neg (by omega)]
  | succ d ih =>
    intro i hi
    have hi65 : i < 65 := by omega
    obtain ⟨n, b, hn, hn15, hcn, hbn, hkn⟩ := code_all hm i hi65
    have hri := rd_code hm i hi65
    rw [hcn] at hri
    have es : shr .i64 (b : Int) (n : Int) = ((b / 2 ^ n : Nat) : Int) := shr_nat b n (by omega)
    rw [Nat.div_eq_of_lt hbn] at es
    refine Ev.step (f := fun k => wringerlaw9_CanonMade.j2 k L ((codeL L).map codeS) (i : Int) false) (fun k => ?_) (Ev.step (f := fun k => wringerlaw9_CanonMade.l1 k L ((codeL L).map codeS) (i : Int) ((0 : Nat) : Int)) (fun k => ?_) (made_l1 hm i hi65 (ih (i + 1) (by omega)) 65 0 (by omega)))
    · simp only [wringerlaw9_CanonMade.l0, hri, codeS, rd_nat, hn, es, hcl, h65]
      clear ih hri hcn hkn es
      rw [if_pos (by omega), if_pos (by omega), if_pos (by omega), if_pos (by omega), if_pos trivial, if_neg (by omega), if_pos (by omega)]; rfl
    · simp only [wringerlaw9_CanonMade.j2]
      rw [if_neg (by simp)]; rfl
end
theorem fq_of {f : List Int} (h : FreqOk f) (m : Nat) (h7 : 7 ≤ m) (h15 : m ≤ 15) : Fq f m := ⟨h.len, fun x hx => by have := h.each x hx; omega, h7, h15⟩
theorem lens_f {f : List Int} (h : FreqOk f) {m : Nat} (h7 : 7 ≤ m) (h15 : m ≤ 15) : wringerref7_Lengths.f f (m : Int) = some (lenL f m, 0) := by
  unfold wringerref7_Lengths.f lenE
  rw [if_pos (by rw [h.len]; decide), if_pos ((fqB_iff f _).2 ⟨m, rfl, fq_of h m h7 h15⟩), Int.toNat_natCast]
theorem lim_of (v : Nat) (hv : v ≤ 255) : wrap64 (7 + Int.tmod (wrap64 (v : Int)) 9) = ((7 + v % 9 : Nat) : Int) := by
  have e : Int.tmod (v : Int) 9 = ((v % 9 : Nat) : Int) := tmod_nat v 9
  rw [w64 (x := (v : Int)) (by omega) (by omega), e, w64 (by omega) (by omega)]; omega
theorem CanonMade : wringerlaw9_CanonMade.Pure := by
  intro l0 a1 _ _ hw ha
  apply Ev.rounds
  unfold wringerlaw9_CanonMade.f
  by_cases h0 : (l0.length : Int) > 140
  · exact Ev.ite_pos h0 (Ev.bind awake9 (Ev.now _))
  · refine Ev.ite_neg h0 ?_
    simp only [Lit.wf, Bool.and_eq_true, decide_eq_true_eq] at ha
    have h1 : IntKind.u8.min = 0 := rfl
    have h2 : IntKind.u8.max = 255 := rfl
    obtain ⟨v, rfl⟩ := Int.eq_ofNat_of_zero_le (show 0 ≤ a1 by omega)
    obtain ⟨f, hf, hok⟩ := freq_is l0 hw (by omega)
    refine Ev.bind hf ?_
    rw [lim_of v (by omega)]
    have hfq := fq_of hok (7 + v % 9) (by omega) (by omega)
    refine Ev.bind0 (lens_f hok (by omega) (by omega)) ?_
    have hm := hfq.may
    obtain ⟨L, hL⟩ : ∃ L, L = lenL f (7 + v % 9) := ⟨_, rfl⟩
    rw [← hL] at hm ⊢
    have hce : codesE L = ((codeL L).map codeS, 0) := by unfold codesE; rw [if_pos hm]
    have hcl : ((codeL L).map codeS).length = 65 := by rw [List.length_map]; exact length_cst L _
    refine Ev.bind0 (a := ((codeL L).map codeS, 0)) (by unfold canon_Codes.f; rw [hce]) ?_
    refine Ev.bind0 (a := 0) rfl (Ev.ite_pos rfl (Ev.ite_pos (by rw [hcl]; rfl) (Ev.bind (may_is L) ?_)))
    rw [hm]
    refine Ev.ite_pos rfl (Ev.bind (rcanon_is L) ?_)
    rw [hce]
    refine Ev.bind (samec_self _ (by rw [hcl]; decide)) ?_
    refine Ev.step (f := fun k => wringerlaw9_CanonMade.l0 k L ((codeL L).map codeS) ((0 : Nat) : Int)) (fun k => ?_) (made_l0 hm 65 0 (by omega))
    simp only [wringerlaw9_CanonMade.j0]
    rw [if_neg (by simp)]; rfl
end Go.Proofs.Ytkdmamffbhlbgaa.Pure

-- ---- LawCanonMade

namespace Go.Proofs.Ytkdmamffbhlbgaa.canonMade
open Go.ChangeShapes Go.WideShapes Go.ChangeAt Go.RowKit
open Go.ChangeMaps (open_string shut_string)
set_option linter.unusedVariables false
theorem own : ownKnob Try.prog.godebug = none := by kernel_rfl
theorem laidOut : laidOutB Try.prog = true := by kernel_rfl
def IsRow (k : IntKind) (w : World) (a : Option Addr) (len cap : Nat) (zs : List Int) : Prop :=
  (a = none ∧ len = 0 ∧ cap = 0 ∧ zs = []) ∨
  ∃ x, a = some x ∧ len ≤ cap ∧ cap ≤ maxLen ∧ zs.length = cap ∧ (∀ i, i < zs.length → w.cell? (x.add i) = some (.int k (zs.getD i 0))) ∧ ∀ n ∈ zs, (Lit.int k n).wf = true
set_option maxRecDepth 100000 in
theorem lifted (os : Os) (started : os.Started) (H : Type) (enc : TypeId × Value → H) :
    ReturnsInHanded {} Try.checked os 4 .any (Rows.canonMadeSpec.pre6 enc Try.prog Try.f4 Rows.canonMadeRow.domain false) (Rows.canonMadeSpec.post enc Try.prog Try.f4 false true false false) := by
  refine returnsInHanded_of_change_sized (C := Try.checked) own started (by kernel_rfl) Try.func4
    (ChangeSpec.witness6 (enc := enc) (C := Try.checked) false ⟨#[], #[.slice none 0 0, .int .u8 0], []⟩ 8 (by kernel_rfl) (by kernel_rfl) (by kernel_rfl) (by kernel_rfl)) ?_
  intro W base args ds gs before hval0 hW hcnd hsz0 _
  have hsz : (DataW.weightsEach Try.prog (Try.f4.params.toList ++ Rows.canonMadeSpec.plain.varTypes Try.prog) (ds ++ gs)).all (· ≤ reachBytes) = true := hsz0
  have hval : ∀ (j : Nat) t v, Try.f4.params[j]? = some t → args[j]? = some v → Value.okWide Try.prog W .any base t v := hval0
  have hW' := hW
  obtain ⟨p, q, hA0, hV, rfl, hfz, hnd⟩ := hW
  have hA : DataW.TrodAll enc Try.prog W 0 (fun _ => true) true Try.f4.params.toList args.toList ds p := hA0
  rw [Try.params4] at hA hval hsz
  obtain ⟨v0, vs0, d0, ds0, p0, q0, hargs, rfl, rfl, h0, r0⟩ := trodAll_cons hA
  obtain ⟨v1, vs1, d1, ds1, p1, q1, rfl, rfl, rfl, h1, r1⟩ := trodAll_cons r0
  obtain ⟨rfl, rfl, rfl⟩ := trodAll_nil r1
  obtain rfl : args = #[v0, v1] := by cases args; simp_all
  obtain ⟨rfl, rfl⟩ := trodVars_none hV
  obtain ⟨a0, len0, cap0, rfl⟩ := okWide_slice Try.underlying34 (hval 0 34 v0 rfl rfl)
  have k0 := h0
  have lt0 : ∀ x ∈ p0, x.block < W.heap.size := by obtain ⟨m, hm⟩ := k0; exact DataW.trod_lt m _ _ _ hm
  obtain ⟨z0, w0⟩ : ∃ zs, IsRow .u16 W a0 len0 cap0 zs := by
    obtain ⟨fuel, hf⟩ := h0
    rcases open_ints Try.underlying34 Try.underlying60 (by kernel_rfl) hf with ⟨hcs, _⟩ | ⟨x, l, c, zs, hcs, _, hl, hm, hz, _, hcell, hwz⟩
    · simp [Value.cells] at hcs
      obtain ⟨rfl, rfl, rfl⟩ := hcs
      exact ⟨[], .inl ⟨rfl, rfl, rfl, rfl⟩⟩
    · simp [Value.cells] at hcs
      obtain ⟨rfl, rfl, rfl⟩ := hcs
      exact ⟨zs, .inr ⟨_, rfl, hl, hm, by simpa using hz, hcell, hwz⟩⟩
  have y0 : len0 * 2 ≤ 140737488351232 := Go.Proofs.YtkdmamffbhlbgaaW.PrintWords.sized_ints hsz (j := 0) (t := 34) rfl rfl Try.underlying34 Try.underlying60 (by kernel_rfl) (by kernel_rfl) h0
  obtain ⟨a1, rfl, rfl, rfl, w1⟩ := open_int Try.underlying5 (hval 1 5 v1 rfl rfl) h1
  clear hA0 hval0 hsz0 hsz
  refine (PA.wringerlaw9_CanonMade.walk Pure.CanonMade a0 len0 cap0 z0 a1 W w0 y0 w1).mono fun e W' ⟨he, bel⟩ => ?_
  subst he
  exact ⟨_, rfl, _, _, _, [], _, [], hW', trodAll_mk1 (shut_bool Try.underlying4 _), (trodAll_cons_mk (Below.trod laidOut (by kernel_rfl) (of_decide_eq_true (by kernel_rfl)) k0 bel lt0) (trodAll_cons_mk (shut_int Try.underlying5 w1) trodAll_mk0)), rfl, bel.frame _, fun h => by cases h⟩
theorem over : Rows.canonMadeRow.holds Try.pinned (OpenSpec.ofChange Rows.canonMadeSpec) :=
  OpenClaim.holds_of_wide 4 Try.f4 rfl rfl rfl rfl rfl rfl rfl ⟨rfl, rfl, rfl, rfl, rfl⟩ rfl rfl rfl rfl rfl (by kernel_rfl) Try.func4 (by kernel_rfl)
    (of_decide_eq_true (by kernel_rfl)) (by unfold Func.isWrapper; first | (rw [if_pos (by decide +kernel)]; kernel_rfl) | (rw [if_neg (by decide +kernel)]; exact ⟨rfl, rfl⟩))
    (fun os started H enc _ => lifted os started H enc)
theorem proved : Rows.CanonMadeSaid := over
#print axioms proved
end Go.Proofs.Ytkdmamffbhlbgaa.canonMade
namespace Go.Proofs.Ytkdmamffbhlbgaa
/-- The row, under a short name, for the claim. -/
theorem canonMade_holds : Rows.CanonMadeSaid := canonMade.proved
end Go.Proofs.Ytkdmamffbhlbgaa
