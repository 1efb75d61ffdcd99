/- Part StatesAll1 of what the layer's laws stand on: Hp, Ol, Nl, Sp, Sq, Sa, Vt, Np, Mix, Own, Bits, Bw, Bp, Bf, Len8, Zm, Rw, Rr, Sized, Rn, Kr, Bx, Br, Km, Sb, Bn, Ks, Spq, Mt, Mp, My, Owk. Written by a program (merge.py) out of this session's own texts and of what the kit's print wrote over stand-ins (sp.py). Conditions: those that each theorem names. -/
import Derived.WalkKit
import Derived.Laws.Strings
import Derived.OrdersHeld
import Derived.StillTail
import Derived.Deep.Quiet
import Derived.Below
import Derived.Deep.Draws
import Derived.Laws.Rows
import Derived.Laws.Tables
import Derived.Laws.BitsAllLaws
import Derived.Laws.Bits64
import Derived.Test.YteeegomdaebobaaProg
import Derived.WalkSpells
import Derived.WalkLawsBesides
import Derived.BigQuiet
import Derived.Lib.Hide
import Derived.Deep.DeepCutAuto
import Derived.Lib.Strings
import Derived.Lib.Slices
import Derived.Lib.Small
import Derived.Lib.Walk
import Derived.Lib.BitFns
import Derived.Deep.Light
import Derived.SizedLaws
import Derived.ChangeSlices
import Derived.OpenShut
import Derived.Deep.RegionWith
import Derived.Maps.AppendAt
import Derived.Laws.MakeOwn
-- ---- Hp
/- Heaps that lie in lists: plain facts. No program in sight. -/
namespace Go.Proofs.Yteeegomdaebobaa.Hp
set_option maxRecDepth 100000
set_option linter.unusedSimpArgs false
set_option linter.unusedVariables false
set_option linter.unusedSectionVars false

/-- What a total order's Less says. -/
structure Ord {α : Type} (lt : α → α → Bool) : Prop where
  irr : ∀ a, lt a a = false
  tr : ∀ a b c, lt a b = true → lt b c = true → lt a c = true
  tot : ∀ a b, lt a b = false → lt b a = false → a = b

section
variable {α : Type} {lt : α → α → Bool} (O : Ord lt)
include O
/-- Not less, in a row. -/
theorem Ord.le {a b c : α} (h1 : lt b a = false) (h2 : lt c b = false) : lt c a = false := by
  cases e : lt c a with
  | false => rfl
  | true =>
    cases e2 : lt a b with
    | true => have := O.tr _ _ _ e e2; rw [this] at h2; cases h2
    | false => have := O.tot _ _ e2 h1; subst this; rw [e] at h2; cases h2
end

theorem snoc_ind {β : Type} {P : List β → Prop} (h0 : P []) (h1 : ∀ l a, P l → P (l ++ [a])) (l : List β) : P l := by
  have : ∀ n (l : List β), l.length = n → P l := by
    intro n
    induction n with
    | zero => intro l h; rw [List.length_eq_zero_iff.1 h]; exact h0
    | succ n ih =>
      intro l h
      have hne : l ≠ [] := fun e => by rw [e] at h; simp at h
      rw [← List.dropLast_concat_getLast hne]
      exact h1 _ _ (ih _ (by simp; omega))
  exact this _ l rfl

variable {α : Type} [Inhabited α]
def at_ (l : List α) (i : Nat) : α := l.getD i default
def par (i : Nat) : Nat := (i - 1) / 2
/-- The first n elements are a heap. -/
def Heap (lt : α → α → Bool) (l : List α) (n : Nat) : Prop := ∀ i, 0 < i → i < n → lt (at_ l i) (at_ l (par i)) = false
section
variable {lt : α → α → Bool}
end
end Go.Proofs.Yteeegomdaebobaa.Hp

-- ---- Ol
/- The places of numbers above nought, the greatest number first: plain facts. No program in sight. -/
namespace Go.Proofs.Yteeegomdaebobaa.Ol
set_option maxRecDepth 100000
set_option linter.unusedSimpArgs false
set_option linter.unusedVariables false
set_option linter.unusedSectionVars false
open Hp

/-- A place with its number. -/
def pr (f : List Int) (i : Nat) : Int × Int := ((i : Int), f.getD i 0)
end Go.Proofs.Yteeegomdaebobaa.Ol

-- ---- Nl
/- Numbers of a sum, out of how often each comes: plain facts. No program in sight. -/
namespace Go.Proofs.Yteeegomdaebobaa.Nl
set_option maxRecDepth 100000
set_option linter.unusedSimpArgs false
set_option linter.unusedVariables false
set_option linter.unusedSectionVars false
open Hp Ol

def bump (l : List Int) (k : Nat) (d : Int) : List Int := l.set k (l.getD k 0 + d)
theorem length_bump (l : List Int) (k : Nat) (d : Int) : (bump l k d).length = l.length := by simp [bump]
theorem getD_bump (l : List Int) (k : Nat) (d : Int) (i : Nat) (hk : k < l.length) : (bump l k d).getD i 0 = if i = k then l.getD k 0 + d else l.getD i 0 := by
  unfold bump
  by_cases h : i = k
  · subst h; rw [if_pos rfl]; simp [List.getD_eq_getElem?_getD, hk]
  · rw [if_neg h]; simp only [List.getD_eq_getElem?_getD]; rw [List.getElem?_set_ne (Ne.symm h)]
def share (size all n : Int) : Int := if 0 < n then max 1 (n * size / all) else 0
theorem sum_le_max (l : List Int) (m : Int) (h : ∀ x ∈ l, x ≤ m) : l.sum ≤ m * l.length := by
  induction l with
  | nil => simp
  | cons a t ih =>
    have h1 := ih fun x hx => h x (List.mem_cons_of_mem _ hx)
    have h2 := h a (by simp)
    simp only [List.sum_cons, List.length_cons]
    have e : m * ((t.length + 1 : Nat) : Int) = m * (t.length : Int) + m := by rw [Int.natCast_add, Int.mul_add]; simp
    rw [e]; omega
theorem mem_getD {l : List Int} {x : Int} (h : x ∈ l) : ∃ i, i < l.length ∧ l.getD i 0 = x := by
  obtain ⟨i, hi, rfl⟩ := List.mem_iff_getElem.1 h
  exact ⟨i, hi, by simp [List.getD_eq_getElem?_getD, hi]⟩
theorem getD_mem {l : List Int} {i : Nat} (h : i < l.length) : l.getD i 0 ∈ l := by
  rw [List.getD_eq_getElem?_getD, List.getElem?_eq_getElem h]; exact List.getElem_mem _

/-- Where one number at least is greater than 1: the greatest is, and one is taken from it. -/
structure Top (l : List Int) (k : Nat) : Prop where
  lt : k < l.length
  two : 2 ≤ l.getD k 0
  max : ∀ i, i < l.length → l.getD i 0 ≤ l.getD k 0
  least : ∀ i, i < l.length → l.getD i 0 = l.getD k 0 → k ≤ i
/-- What every step keeps. -/
structure Ok (f l : List Int) : Prop where
  len : l.length = f.length
  pos : ∀ i, i < f.length → (0 < l.getD i 0 ↔ 0 < f.getD i 0)
  nn : ∀ i, i < f.length → 0 ≤ l.getD i 0
  mono : ∀ i j, i < f.length → j < f.length → f.getD j 0 < f.getD i 0 → l.getD j 0 ≤ l.getD i 0 + 1
theorem Ok.step {f l : List Int} (h : Ok f l) {k : Nat} (ht : Top l k) : Ok f (bump l k (-1)) := by
  have hk := ht.lt
  have h2 := ht.two
  have G := fun i => getD_bump l k (-1) i hk
  refine ⟨by rw [length_bump]; exact h.len, fun i hi => ?_, fun i hi => ?_, fun i j hi hj hf => ?_⟩
  · rw [G i]
    have := h.pos i hi
    split
    · subst i; constructor
      · intro _; exact this.1 (by omega)
      · intro _; omega
    · exact this
  · rw [G i]; have := h.nn i hi; split <;> omega
  · rw [G i, G j]
    have := h.mono i j hi hj hf
    have hm := ht.max j (by rw [h.len]; exact hj)
    split <;> split <;> (try subst i) <;> (try subst j) <;> omega
/-- Frequencies that may be asked. -/
structure Fr (f : List Int) : Prop where
  len : f.length = 65
  nn : ∀ x ∈ f, 0 ≤ x
  le : ∀ x ∈ f, x ≤ 16777216
  pos : 0 < f.sum
theorem Fr.some {f : List Int} (h : Fr f) : ∃ i, i < f.length ∧ 0 < f.getD i 0 := by
  apply Classical.byContradiction
  intro hno
  have := sum_le_max f 0 fun x hx => by
    obtain ⟨i, hi, rfl⟩ := mem_getD hx
    have : ¬ 0 < f.getD i 0 := fun h2 => hno ⟨i, hi, h2⟩
    omega
  have := h.pos
  omega
end Go.Proofs.Yteeegomdaebobaa.Nl

-- ---- Sp
/- Classes at their places, and the table of states: plain facts. No program in sight. -/
namespace Go.Proofs.Yteeegomdaebobaa.Sp
set_option maxRecDepth 100000
set_option linter.unusedSimpArgs false
set_option linter.unusedVariables false
set_option linter.unusedSectionVars false
open Hp Ol Nl

/-- Numbers that may be: 65 of them, each from nought to the sum, which is 2 to the log. -/
def mayN (l : List Int) (log : Int) : Bool :=
  decide (7 ≤ log ∧ log ≤ 12 ∧ l.length = 65 ∧ (∀ x ∈ l, 0 ≤ x ∧ x ≤ ((2 ^ log.toNat : Nat) : Int)) ∧ l.sum = ((2 ^ log.toNat : Nat) : Int))

/-- One more class at its place. -/
def put1 (size : Nat) (st : List Int × Nat) (c : Int) : List Int × Nat := (st.1.set st.2 c, (st.2 + size / 2 + size / 8 + 3) % size)
def putN (size : Nat) (cs : List Int) : List Int × Nat := cs.foldl (put1 size) (List.replicate size 0, 0)
theorem putN_snoc (size : Nat) (cs : List Int) (c : Int) : putN size (cs ++ [c]) = put1 size (putN size cs) c := by simp [putN]
theorem length_putN (size : Nat) (cs : List Int) : (putN size cs).1.length = size := by
  refine snoc_ind (P := fun cs => (putN size cs).1.length = size) (by simp [putN]) (fun cs c ih => ?_) cs
  rw [putN_snoc]; simp [put1, ih]
theorem at_putN (size : Nat) (h : 0 < size) (cs : List Int) : (putN size cs).2 < size := by
  refine snoc_ind (P := fun cs => (putN size cs).2 < size) (by simpa [putN] using h) (fun cs c ih => ?_) cs
  rw [putN_snoc]; exact Nat.mod_lt _ h

/-- Each class as often as it is said. -/
def expand (l : List Int) : Nat → List Int
  | 0 => []
  | n + 1 => expand l n ++ List.replicate (l.getD n 0).toNat (n : Int)
def spread (l : List Int) (size : Nat) : List Int := (putN size (expand l l.length)).1
theorem length_spread (l : List Int) (size : Nat) : (spread l size).length = size := length_putN ..
theorem length_expand (l : List Int) (h : ∀ x ∈ l, 0 ≤ x) : ∀ n, n ≤ l.length → ((expand l n).length : Int) = (l.take n).sum := by
  intro n
  induction n with
  | zero => intro _; simp [expand]
  | succ n ih =>
    intro hn
    have h0 := h _ (getD_mem (show n < l.length by omega))
    rw [List.take_succ_eq_append_getElem (by omega), List.sum_append]
    have e : l.getD n 0 = l[n] := by simp [List.getD_eq_getElem?_getD, show n < l.length by omega]
    have := ih (by omega)
    simp only [expand, List.length_append, List.length_replicate, List.sum_cons, List.sum_nil]
    rw [← e]
    omega

/-- A cell: its class, how many bits come, what they are added to. -/
def cellOf (log : Nat) (c : Int) (x : Nat) : Int × Int × Int := (c, ((log - Nat.log2 x : Nat) : Int), ((x * 2 ^ (log - Nat.log2 x) : Nat) : Int) - ((2 ^ log : Nat) : Int))
/-- The cells of places, one by one; next: of each class its next state. -/
def cells (log : Nat) : List Int → List Int → List (Int × Int × Int)
  | _, [] => []
  | next, c :: cs => cellOf log c (next.getD c.toNat 0).toNat :: cells log (bump next c.toNat 1) cs
def nexts : List Int → List Int → List Int
  | next, [] => next
  | next, c :: cs => nexts (bump next c.toNat 1) cs
theorem cells_snoc (log : Nat) (cs : List Int) (c : Int) : ∀ next, cells log next (cs ++ [c]) = cells log next cs ++ [cellOf log c ((nexts next cs).getD c.toNat 0).toNat] := by
  induction cs with
  | nil => intro next; rfl
  | cons a t ih => intro next; simp only [List.cons_append, cells, nexts, ih]
theorem nexts_snoc (cs : List Int) (c : Int) : ∀ next, nexts next (cs ++ [c]) = bump (nexts next cs) c.toNat 1 := by
  induction cs with
  | nil => intro next; rfl
  | cons a t ih => intro next; simp only [List.cons_append, nexts, ih]
theorem length_nexts (cs : List Int) : ∀ next, (nexts next cs).length = next.length := by
  induction cs with
  | nil => intro next; rfl
  | cons a t ih => intro next; simp only [nexts, ih, length_bump]
theorem length_cells (log : Nat) (cs : List Int) : ∀ next, (cells log next cs).length = cs.length := by
  induction cs with
  | nil => intro next; rfl
  | cons a t ih => intro next; simp only [cells, List.length_cons, ih]
def table (l : List Int) (log : Nat) : List (Int × Int × Int) := cells log l (spread l (2 ^ log))
theorem length_table (l : List Int) (log : Nat) : (table l log).length = 2 ^ log := by unfold table; rw [length_cells, length_spread]

theorem nexts_at (cs : List Int) (h : ∀ c ∈ cs, 0 ≤ c) : ∀ (next : List Int) (c : Nat), c < next.length → (nexts next cs).getD c 0 = next.getD c 0 + (cs.count (c : Int) : Int) := by
  induction cs with
  | nil => intro next c _; simp [nexts]
  | cons a t ih =>
    intro next c hc
    have ha := h a (by simp)
    have := ih (fun x hx => h x (List.mem_cons_of_mem _ hx)) (bump next a.toNat 1) c (by rw [length_bump]; exact hc)
    simp only [nexts, this]
    by_cases hal : a.toNat < next.length
    · rw [getD_bump _ _ _ _ hal, List.count_cons]
      by_cases e : c = a.toNat
      · subst e
        have e2 : (a == ((a.toNat : Nat) : Int)) = true := by rw [beq_iff_eq]; omega
        rw [if_pos rfl, e2]; simp; omega
      · have e2 : (a == (c : Int)) = false := by rw [beq_eq_false_iff_ne]; omega
        rw [if_neg e, e2]; simp
    · have e1 : bump next a.toNat 1 = next := by unfold bump; exact List.set_eq_of_length_le (by omega)
      have e2 : (a == (c : Int)) = false := by rw [beq_eq_false_iff_ne]; omega
      rw [e1, List.count_cons, e2]; simp
end Go.Proofs.Yteeegomdaebobaa.Sp

-- ---- Sq
/- The places of a spread: each comes once. Plain facts; no program in sight. -/
namespace Go.Proofs.Yteeegomdaebobaa.Sp
set_option maxRecDepth 100000
set_option linter.unusedSimpArgs false
set_option linter.unusedVariables false
set_option linter.unusedSectionVars false
open Hp Ol Nl

def stepS (S : Nat) : Nat := S / 2 + S / 8 + 3
def posS (S j : Nat) : Nat := (j * stepS S) % S
theorem step_coprime (m : Nat) (h7 : 7 ≤ m) (h12 : m ≤ 12) : Nat.Coprime (2 ^ m) (stepS (2 ^ m)) := by
  have : m = 7 ∨ m = 8 ∨ m = 9 ∨ m = 10 ∨ m = 11 ∨ m = 12 := by omega
  rcases this with rfl | rfl | rfl | rfl | rfl | rfl <;> decide +kernel
theorem step_inv (m : Nat) (h7 : 7 ≤ m) (h12 : m ≤ 12) : ∃ i, (i * stepS (2 ^ m)) % 2 ^ m = 1 := by
  have : m = 7 ∨ m = 8 ∨ m = 9 ∨ m = 10 ∨ m = 11 ∨ m = 12 := by omega
  rcases this with rfl | rfl | rfl | rfl | rfl | rfl
  · exact ⟨91, by decide +kernel⟩
  · exact ⟨11, by decide +kernel⟩
  · exact ⟨363, by decide +kernel⟩
  · exact ⟨43, by decide +kernel⟩
  · exact ⟨1451, by decide +kernel⟩
  · exact ⟨171, by decide +kernel⟩

theorem putN_at (S : Nat) (h : 0 < S) (cs : List Int) : (putN S cs).2 = posS S cs.length := by
  refine snoc_ind (P := fun cs => (putN S cs).2 = posS S cs.length) (by simp [putN, posS]) (fun cs c ih => ?_) cs
  rw [putN_snoc]
  simp only [put1, ih, List.length_append, List.length_singleton]
  unfold posS
  rw [Nat.add_assoc, Nat.add_assoc, Nat.succ_mul, show S / 2 + (S / 8 + 3) = stepS S by unfold stepS; omega, Nat.mod_add_mod]

section
variable {m : Nat} (h7 : 7 ≤ m) (h12 : m ≤ 12)
include h7 h12
theorem pos_inj {i j : Nat} (hi : i < 2 ^ m) (hj : j < 2 ^ m) (h : posS (2 ^ m) i = posS (2 ^ m) j) : i = j := by
  have key : ∀ {i j : Nat}, i ≤ j → j < 2 ^ m → posS (2 ^ m) i = posS (2 ^ m) j → i = j := by
    intro i j hij hj h
    unfold posS at h
    have hd : 2 ^ m ∣ (j - i) * stepS (2 ^ m) := by
      rw [Nat.sub_mul]
      exact Nat.dvd_of_mod_eq_zero (Nat.sub_mod_eq_zero_of_mod_eq h.symm)
    have := (step_coprime m h7 h12).dvd_of_dvd_mul_right hd
    rcases Nat.eq_zero_or_pos (j - i) with h0 | h0
    · omega
    · have := Nat.le_of_dvd h0 this; omega
  rcases Nat.le_total i j with hij | hij
  · exact key hij hj h
  · exact (key hij hi h.symm).symm
theorem pos_lt (j : Nat) : posS (2 ^ m) j < 2 ^ m := Nat.mod_lt _ (Nat.pow_pos (by decide))
theorem pos_surj {p : Nat} (hp : p < 2 ^ m) : ∃ j, j < 2 ^ m ∧ posS (2 ^ m) j = p := by
  obtain ⟨i, hi⟩ := step_inv m h7 h12
  refine ⟨(p * i) % 2 ^ m, Nat.mod_lt _ (Nat.pow_pos (by decide)), ?_⟩
  unfold posS
  rw [Nat.mod_mul_mod, Nat.mul_assoc, ← Nat.mul_mod_mod, hi, Nat.mul_one, Nat.mod_eq_of_lt hp]
theorem pos_perm : ((List.range (2 ^ m)).map (posS (2 ^ m))).Perm (List.range (2 ^ m)) := by
  refine (List.perm_ext_iff_of_nodup ?_ List.nodup_range).2 fun p => ?_
  · rw [List.Nodup, List.pairwise_map]
    exact List.Pairwise.imp_of_mem (fun {i j} hi hj hne h => hne (pos_inj h7 h12 (List.mem_range.1 hi) (List.mem_range.1 hj) h)) List.nodup_range
  · rw [List.mem_range, List.mem_map]
    constructor
    · rintro ⟨j, _, rfl⟩; exact pos_lt h7 h12 j
    · intro hp; obtain ⟨j, hj, e⟩ := pos_surj h7 h12 hp; exact ⟨j, List.mem_range.2 hj, e⟩
theorem putN_get (cs : List Int) (h : cs.length ≤ 2 ^ m) : ∀ j, j < cs.length → (putN (2 ^ m) cs).1.getD (posS (2 ^ m) j) 0 = cs.getD j 0 := by
  refine snoc_ind (P := fun cs => cs.length ≤ 2 ^ m → ∀ j, j < cs.length → (putN (2 ^ m) cs).1.getD (posS (2 ^ m) j) 0 = cs.getD j 0) (fun _ j hj => by simp at hj) (fun cs c ih => ?_) cs h
  intro hl j hj
  simp only [List.length_append, List.length_singleton] at hl hj
  rw [putN_snoc]
  simp only [put1]
  have ha := putN_at (2 ^ m) (Nat.pow_pos (by decide)) cs
  have hln := length_putN (2 ^ m) cs
  rw [ha]
  rcases Nat.lt_or_ge j cs.length with hlt | hge
  · have hne : posS (2 ^ m) cs.length ≠ posS (2 ^ m) j := fun e => by have := pos_inj h7 h12 (by omega) (by omega) e; omega
    have ih1 := ih (by omega) j hlt
    simp only [List.getD_eq_getElem?_getD] at ih1 ⊢
    rw [List.getElem?_set_ne hne, List.getElem?_append_left hlt]; exact ih1
  · have e : j = cs.length := by omega
    subst e
    simp only [List.getD_eq_getElem?_getD]
    rw [List.getElem?_set_self (by rw [hln]; exact pos_lt h7 h12 _)]
    simp
theorem list_of_range (l : List Int) : l = (List.range l.length).map fun i => l.getD i 0 := by
  apply List.ext_getElem
  · simp
  · intro i h1 h2; simp [List.getD_eq_getElem?_getD, h1]
theorem putN_perm (cs : List Int) (h : cs.length = 2 ^ m) : (putN (2 ^ m) cs).1.Perm cs := by
  have h1 : cs = ((List.range (2 ^ m)).map (posS (2 ^ m))).map fun p => (putN (2 ^ m) cs).1.getD p 0 := by
    rw [List.map_map]
    have e := list_of_range h7 h12 cs
    rw [h] at e
    conv => lhs; rw [e]
    refine List.map_congr_left fun j hj => ?_
    simp only [Function.comp]
    exact (putN_get h7 h12 cs (by omega) j (by rw [h]; exact List.mem_range.1 hj)).symm
  have h2 : (putN (2 ^ m) cs).1 = (List.range (2 ^ m)).map fun p => (putN (2 ^ m) cs).1.getD p 0 := by
    have e := list_of_range h7 h12 (putN (2 ^ m) cs).1
    rw [length_putN] at e
    exact e
  have h3 := (pos_perm h7 h12).map fun p => (putN (2 ^ m) cs).1.getD p 0
  rw [← h1, ← h2] at h3
  exact h3.symm
end

theorem count_expand (l : List Int) (c : Nat) : ∀ n, (expand l n).count (c : Int) = if c < n then (l.getD c 0).toNat else 0 := by
  intro n
  induction n with
  | zero => simp [expand]
  | succ n ih =>
    simp only [expand, List.count_append, ih, List.count_replicate]
    by_cases h1 : c < n
    · have : ¬ ((n : Int) == (c : Int)) = true := by simp; omega
      rw [if_neg this, if_pos h1, if_pos (show c < n + 1 by omega)]; omega
    · by_cases h2 : c = n
      · subst h2; rw [if_pos (show ((c : Int) == (c : Int)) = true by simp), if_neg h1, if_pos (show c < c + 1 by omega)]; omega
      · have : ¬ ((n : Int) == (c : Int)) = true := by simp; omega
        rw [if_neg this, if_neg h1, if_neg (show ¬ c < n + 1 by omega)]
theorem mem_expand (l : List Int) : ∀ n, ∀ x ∈ expand l n, 0 ≤ x ∧ x < (n : Int) := by
  intro n
  induction n with
  | zero => simp [expand]
  | succ n ih =>
    intro x hx
    simp only [expand, List.mem_append] at hx
    rcases hx with hx | hx
    · have := ih x hx; omega
    · have := (List.mem_replicate.1 hx).2; omega

/-- What those that may be are. -/
structure MayS (l : List Int) (m : Nat) : Prop where
  lo : 7 ≤ m
  hi : m ≤ 12
  len : l.length = 65
  each : ∀ x ∈ l, 0 ≤ x ∧ x ≤ ((2 ^ m : Nat) : Int)
  sum : l.sum = ((2 ^ m : Nat) : Int)
theorem mayS_of {l : List Int} {m : Nat} (h : mayN l (m : Int) = true) : MayS l m := by
  unfold mayN at h
  rw [decide_eq_true_eq, Int.toNat_natCast] at h
  exact ⟨by omega, by omega, h.2.2.1, h.2.2.2.1, h.2.2.2.2⟩
theorem MayS.length_expand {l : List Int} {m : Nat} (h : MayS l m) : (expand l l.length).length = 2 ^ m := by
  have := Sp.length_expand l (fun x hx => (h.each x hx).1) l.length (Nat.le_refl _)
  rw [List.take_length, h.sum] at this
  omega
theorem MayS.perm {l : List Int} {m : Nat} (h : MayS l m) : (spread l (2 ^ m)).Perm (expand l l.length) := putN_perm h.lo h.hi _ h.length_expand
theorem MayS.count {l : List Int} {m : Nat} (h : MayS l m) (c : Nat) (hc : c < 65) : (spread l (2 ^ m)).count (c : Int) = (l.getD c 0).toNat := by
  rw [h.perm.count_eq, count_expand, if_pos (by rw [h.len]; exact hc)]
theorem MayS.mem {l : List Int} {m : Nat} (h : MayS l m) : ∀ x ∈ spread l (2 ^ m), 0 ≤ x ∧ x < 65 := fun x hx => by
  have := mem_expand l l.length x (h.perm.mem_iff.1 hx)
  rw [h.len] at this; exact this
/-- The state of a class' next cell. -/
theorem MayS.next {l : List Int} {m : Nat} (h : MayS l m) (j : Nat) (hj : j < 2 ^ m) : ∃ c x r : Nat, (spread l (2 ^ m)).getD j 0 = (c : Int) ∧ c < 65 ∧ (nexts l ((spread l (2 ^ m)).take j)).getD c 0 = (x : Int) ∧ 0 < x ∧ x < 2 ^ (m + 1) ∧
    l.getD c 0 = (r : Int) ∧ x = r + ((spread l (2 ^ m)).take j).count (c : Int) ∧ ((spread l (2 ^ m)).take j).count (c : Int) < r ∧ r ≤ 2 ^ m := by
  have hl := length_spread l (2 ^ m)
  have hmem := h.mem _ (getD_mem (show j < (spread l (2 ^ m)).length by omega))
  obtain ⟨c, hc⟩ := Int.eq_ofNat_of_zero_le hmem.1
  have hc65 : c < 65 := by omega
  have hcl : c < l.length := by rw [h.len]; exact hc65
  have hx := h.each _ (getD_mem hcl)
  obtain ⟨r, hr⟩ := Int.eq_ofNat_of_zero_le hx.1
  have hcnt := h.count c hc65
  rw [hr, Int.toNat_natCast] at hcnt
  have hsplit : (spread l (2 ^ m)).count (c : Int) = ((spread l (2 ^ m)).take j).count (c : Int) + ((spread l (2 ^ m)).drop j).count (c : Int) := by
    rw [← List.count_append, List.take_append_drop]
  have hpos : 0 < ((spread l (2 ^ m)).drop j).count (c : Int) := by
    rw [List.count_pos_iff, List.drop_eq_getElem_cons (by omega)]
    have e : (spread l (2 ^ m)).getD j 0 = (spread l (2 ^ m))[j] := by simp [List.getD_eq_getElem?_getD, show j < (spread l (2 ^ m)).length by omega]
    rw [← hc, e]; exact List.mem_cons_self
  have hn := nexts_at ((spread l (2 ^ m)).take j) (fun x hx => (h.mem x (List.mem_of_mem_take hx)).1) l c hcl
  rw [hr] at hn
  refine ⟨c, r + ((spread l (2 ^ m)).take j).count (c : Int), r, hc, hc65, by rw [hn]; simp, by omega, ?_, hr, rfl, by omega, by omega⟩
  rw [Nat.pow_succ]; omega
end Go.Proofs.Yteeegomdaebobaa.Sp

-- ---- Sa
/- The table of states: from each state, by each class that comes, one comes to one place. Plain facts; no program in sight. -/
namespace Go.Proofs.Yteeegomdaebobaa.St
set_option maxRecDepth 100000
set_option linter.unusedSimpArgs false
set_option linter.unusedVariables false
set_option linter.unusedSectionVars false
open Hp Ol Nl Sp

def bX (m x : Nat) : Nat := m - Nat.log2 x
def lX (m x : Nat) : Nat := x * 2 ^ bX m x - 2 ^ m
theorem log2_of {x t : Nat} (h1 : 2 ^ t ≤ x) (h2 : x < 2 ^ (t + 1)) : Nat.log2 x = t := by
  have h0 : x ≠ 0 := by have := Nat.pow_pos (n := t) (show 0 < 2 by decide); omega
  have a := Nat.log2_self_le h0
  have b := Nat.lt_log2_self (n := x)
  rcases Nat.lt_trichotomy (Nat.log2 x) t with h | h | h
  · have : 2 ^ (Nat.log2 x + 1) ≤ 2 ^ t := Nat.pow_le_pow_right (by decide) h
    omega
  · exact h
  · have : 2 ^ (t + 1) ≤ 2 ^ Nat.log2 x := Nat.pow_le_pow_right (by decide) h
    omega
/-- A cell's states: from where, to where. -/
theorem rangeX {m x t : Nat} (ht : t ≤ m) (h1 : 2 ^ t ≤ x) (h2 : x < 2 ^ (t + 1)) : bX m x = m - t ∧ lX m x + 2 ^ m = x * 2 ^ (m - t) ∧ lX m x + 2 ^ bX m x ≤ 2 ^ m := by
  have e := log2_of h1 h2
  have hb : bX m x = m - t := by unfold bX; rw [e]
  have hS : 2 ^ m = 2 ^ t * 2 ^ (m - t) := by rw [← Nat.pow_add]; congr 1; omega
  have g1 : 2 ^ t * 2 ^ (m - t) ≤ x * 2 ^ (m - t) := Nat.mul_le_mul_right _ h1
  have g2 : (x + 1) * 2 ^ (m - t) ≤ 2 ^ (t + 1) * 2 ^ (m - t) := Nat.mul_le_mul_right _ h2
  have g3 : 2 ^ (t + 1) * 2 ^ (m - t) = 2 * (2 ^ t * 2 ^ (m - t)) := by rw [Nat.pow_succ, Nat.mul_comm (2 ^ t) 2, Nat.mul_assoc]
  have g4 : (x + 1) * 2 ^ (m - t) = x * 2 ^ (m - t) + 2 ^ (m - t) := Nat.succ_mul _ _
  unfold lX
  rw [hb]
  refine ⟨rfl, by omega, by omega⟩
theorem log2_leM {m x : Nat} (h0 : 0 < x) (h : x < 2 ^ (m + 1)) : Nat.log2 x ≤ m := by
  have h1 := Nat.log2_self_le (n := x) (by omega)
  rcases Nat.lt_or_ge m (Nat.log2 x) with h2 | h2
  · have : 2 ^ (m + 1) ≤ 2 ^ Nat.log2 x := Nat.pow_le_pow_right (by decide) h2
    omega
  · exact h2
theorem rangeX2 {m x : Nat} (h0 : 0 < x) (h : x < 2 ^ (m + 1)) : lX m x + 2 ^ m = x * 2 ^ bX m x ∧ lX m x + 2 ^ bX m x ≤ 2 ^ m ∧ bX m x ≤ m := by
  obtain ⟨a, b, c⟩ := rangeX (log2_leM h0 h) (Nat.log2_self_le (n := x) (by omega)) (Nat.lt_log2_self (n := x))
  exact ⟨by rw [b, a], c, by unfold bX; omega⟩
theorem div_at {q D s : Nat} (hD : 0 < D) (h1 : q * D ≤ s) (h2 : s < q * D + D) : q = s / D := by
  symm
  exact Nat.div_eq_of_lt_le h1 (by rw [Nat.succ_mul]; exact h2)
/-- Of a class with r states each state has one. -/
theorem x_of {m r s : Nat} (h0 : 0 < r) (hr : r ≤ 2 ^ m) (hs : s < 2 ^ m) : ∃ x, r ≤ x ∧ x < 2 * r ∧ lX m x ≤ s ∧ s < lX m x + 2 ^ bX m x ∧ ∀ y, r ≤ y → y < 2 * r → lX m y ≤ s → s < lX m y + 2 ^ bX m y → y = x := by
  have h1 := Nat.log2_self_le (n := r) (by omega)
  have h2 := Nat.lt_log2_self (n := r)
  have htm : Nat.log2 r ≤ m := log2_leM h0 (by rw [Nat.pow_succ]; omega)
  obtain ⟨t, ht⟩ : ∃ t, t = Nat.log2 r := ⟨_, rfl⟩
  rw [← ht] at h1 h2 htm
  obtain ⟨D, hDe⟩ : ∃ D, D = 2 ^ (m - t) := ⟨_, rfl⟩
  have hD : 0 < D := by rw [hDe]; exact Nat.pow_pos (by decide)
  have hS : 2 ^ m = 2 ^ t * D := by rw [hDe, ← Nat.pow_add]; congr 1; omega
  have p2 : 2 ^ (t + 1) = 2 * 2 ^ t := by rw [Nat.pow_succ, Nat.mul_comm]
  have hS2 : 2 ^ (t + 1) * D = 2 * 2 ^ m := by rw [p2, hS, Nat.mul_assoc]
  -- what a state of the class is
  have lowY : ∀ y, r ≤ y → y < 2 ^ (t + 1) → lX m y + 2 ^ m = y * D ∧ 2 ^ bX m y = D := fun y hy1 hy2 => by
    obtain ⟨a, b, _⟩ := rangeX htm (show 2 ^ t ≤ y by omega) hy2
    exact ⟨by rw [b, hDe], by rw [a, hDe]⟩
  have highY : ∀ y, 2 ^ (t + 1) ≤ y → y < 2 * r → ∃ E, D = 2 * E ∧ lX m y + 2 ^ m = y * E ∧ 2 ^ bX m y = E := fun y hy1 hy2 => by
    have htm1 : t + 1 ≤ m := by
      rcases Nat.lt_or_ge t m with h | h
      · exact h
      · have e : t = m := by omega
        rw [e] at p2 hy1
        omega
    have hy3 : y < 2 ^ (t + 1 + 1) := by rw [Nat.pow_succ]; omega
    obtain ⟨a, b, _⟩ := rangeX htm1 hy1 hy3
    exact ⟨2 ^ (m - (t + 1)), by rw [hDe, show m - t = (m - (t + 1)) + 1 by omega, Nat.pow_succ, Nat.mul_comm], b, by rw [a]⟩
  by_cases hc : r * D ≤ s + 2 ^ m
  · have hq := Nat.div_add_mod (s + 2 ^ m) D
    have hmod := Nat.mod_lt (s + 2 ^ m) hD
    obtain ⟨x, hx⟩ : ∃ x, x = (s + 2 ^ m) / D := ⟨_, rfl⟩
    rw [← hx, Nat.mul_comm] at hq
    have hxr : r ≤ x := by rw [hx]; exact (Nat.le_div_iff_mul_le hD).2 hc
    have hxt : x < 2 ^ (t + 1) := by rw [hx]; exact (Nat.div_lt_iff_lt_mul hD).2 (by omega)
    obtain ⟨e1, e2⟩ := lowY x hxr hxt
    refine ⟨x, hxr, by omega, by omega, by rw [e2]; omega, fun y hy1 hy2 hy3 hy4 => ?_⟩
    rcases Nat.lt_or_ge y (2 ^ (t + 1)) with hl | hg
    · obtain ⟨f1, f2⟩ := lowY y hy1 hl
      rw [f2] at hy4
      rw [hx]; exact div_at hD (by omega) (by omega)
    · exfalso
      obtain ⟨E, g1, g2, g3⟩ := highY y hg hy2
      have : (y + 1) * E ≤ (2 * r) * E := Nat.mul_le_mul_right _ hy2
      rw [Nat.succ_mul] at this
      have e : (2 * r) * E = r * D := by rw [g1, Nat.mul_comm 2 r, Nat.mul_assoc]
      rw [g3] at hy4
      omega
  · have hE : t + 1 ≤ m := by
      rcases Nat.lt_or_ge t m with h | h
      · exact h
      · have e : t = m := by omega
        have : 2 ^ t * D < r * D := by omega
        have := Nat.lt_of_mul_lt_mul_right this
        rw [e] at this; omega
    obtain ⟨E, hEe⟩ : ∃ E, E = 2 ^ (m - (t + 1)) := ⟨_, rfl⟩
    have hDE : D = 2 * E := by rw [hDe, hEe, show m - t = (m - (t + 1)) + 1 by omega, Nat.pow_succ, Nat.mul_comm]
    have hE0 : 0 < E := by rw [hEe]; exact Nat.pow_pos (by decide)
    have hrE : r * D = (2 * r) * E := by rw [hDE, Nat.mul_comm 2 r, Nat.mul_assoc]
    have hSE : 2 ^ (t + 1) * E = 2 ^ m := by rw [p2, hS, hDE, Nat.mul_comm 2 (2 ^ t), Nat.mul_assoc]
    have hq := Nat.div_add_mod (s + 2 ^ m) E
    have hmod := Nat.mod_lt (s + 2 ^ m) hE0
    obtain ⟨x, hx⟩ : ∃ x, x = (s + 2 ^ m) / E := ⟨_, rfl⟩
    rw [← hx, Nat.mul_comm] at hq
    have hx2 : x < 2 * r := by rw [hx]; exact (Nat.div_lt_iff_lt_mul hE0).2 (by omega)
    have hxt : 2 ^ (t + 1) ≤ x := by rw [hx]; exact (Nat.le_div_iff_mul_le hE0).2 (by omega)
    obtain ⟨E', g1, g2, g3⟩ := highY x hxt hx2
    have hEE : E' = E := by omega
    rw [hEE] at g2 g3
    refine ⟨x, by omega, hx2, by omega, by rw [g3]; omega, fun y hy1 hy2 hy3 hy4 => ?_⟩
    rcases Nat.lt_or_ge y (2 ^ (t + 1)) with hl | hg
    · exfalso
      obtain ⟨f1, f2⟩ := lowY y hy1 hl
      have : r * D ≤ y * D := Nat.mul_le_mul_right _ hy1
      omega
    · obtain ⟨E2, k1, k2, k3⟩ := highY y hg hy2
      have hE2 : E2 = E := by omega
      rw [hE2] at k2 k3
      rw [k3] at hy4
      rw [hx]; exact div_at hE0 (by omega) (by omega)

/-- The place of what comes for the n-th time. -/
theorem place_of (c : Int) : ∀ (L : List Int) (n : Nat), n < L.count c → ∃ j, j < L.length ∧ L.getD j 0 = c ∧ (L.take j).count c = n := by
  intro L
  induction L with
  | nil => intro n h; simp at h
  | cons a t ih =>
    intro n h
    by_cases e : a = c
    · subst e
      cases n with
      | zero => exact ⟨0, by simp, by simp, by simp⟩
      | succ n =>
        rw [List.count_cons_self] at h
        obtain ⟨j, h1, h2, h3⟩ := ih n (by omega)
        exact ⟨j + 1, by simpa using h1, by simpa using h2, by rw [List.take_succ_cons, List.count_cons_self, h3]⟩
    · have hne : (a == c) = false := by rw [beq_eq_false_iff_ne]; exact e
      rw [List.count_cons, hne] at h
      obtain ⟨j, h1, h2, h3⟩ := ih n (by simpa using h)
      refine ⟨j + 1, by simpa using h1, by simpa using h2, ?_⟩
      rw [List.take_succ_cons, List.count_cons, hne, h3]; simp
theorem place_one (c : Int) (L : List Int) {i j : Nat} (hi : i < L.length) (hj : j < L.length) (ci : L.getD i 0 = c) (cj : L.getD j 0 = c) (h : (L.take i).count c = (L.take j).count c) : i = j := by
  have key : ∀ {i j : Nat}, i < j → j < L.length → L.getD i 0 = c → (L.take i).count c < (L.take j).count c := by
    intro i j hij hj hc
    have e : L.take j = L.take i ++ (L.drop i).take (j - i) := by rw [← List.take_add]; congr 1; omega
    rw [e, List.count_append]
    have hpos : 0 < ((L.drop i).take (j - i)).count c := by
      rw [List.count_pos_iff, List.drop_eq_getElem_cons (by omega), show j - i = (j - i - 1) + 1 by omega, List.take_succ_cons]
      have e2 : L.getD i 0 = L[i]'(by omega) := by simp [List.getD_eq_getElem?_getD, show i < L.length by omega]
      rw [← hc, e2]; exact List.mem_cons_self
    omega
  rcases Nat.lt_trichotomy i j with h1 | h1 | h1
  · have := key h1 hj ci; omega
  · exact h1
  · have := key h1 hi cj; omega

/-- A place's class, bits, base. -/
def tC (l : List Int) (m j : Nat) : Nat := ((table l m).getD j (0, 0, 0)).1.toNat
def tB (l : List Int) (m j : Nat) : Nat := ((table l m).getD j (0, 0, 0)).2.1.toNat
def tS (l : List Int) (m j : Nat) : Nat := ((table l m).getD j (0, 0, 0)).2.2.toNat
theorem cells_app (m : Nat) (a : List Int) : ∀ (b next : List Int), cells m next (a ++ b) = cells m next a ++ cells m (nexts next a) b := by
  induction a with
  | nil => intro b next; rfl
  | cons x t ih => intro b next; simp only [List.cons_append, cells, nexts, ih]
theorem take_more {L : List Int} {i : Nat} {c : Int} (hi : i < L.length) (hS : L.getD i 0 = c) : L.take (i + 1) = L.take i ++ [c] := by
  rw [List.take_succ_eq_append_getElem hi]
  have e : L.getD i 0 = L[i]'hi := by simp [List.getD_eq_getElem?_getD, hi]
  rw [← e, hS]
theorem table_get {l : List Int} {m i c x : Nat} (hi : i < 2 ^ m) (hS : (spread l (2 ^ m)).getD i 0 = (c : Int)) (hx : (nexts l ((spread l (2 ^ m)).take i)).getD c 0 = (x : Int)) : (table l m).getD i (0, 0, 0) = cellOf m (c : Int) x := by
  have hl := length_spread l (2 ^ m)
  have h1 : table l m = cells m l ((spread l (2 ^ m)).take i) ++ (cellOf m (c : Int) x :: cells m (nexts l ((spread l (2 ^ m)).take i ++ [(c : Int)])) ((spread l (2 ^ m)).drop (i + 1))) := by
    have e2 : cells m l (spread l (2 ^ m)) = cells m l ((spread l (2 ^ m)).take (i + 1) ++ (spread l (2 ^ m)).drop (i + 1)) := congrArg (cells m l) (List.take_append_drop _ _).symm
    unfold table
    rw [e2, cells_app, take_more (by omega) hS, cells_snoc, Int.toNat_natCast, hx, Int.toNat_natCast, List.append_assoc]
    rfl
  have hcl : (cells m l ((spread l (2 ^ m)).take i)).length = i := by rw [length_cells, List.length_take]; omega
  rw [h1, List.getD_eq_getElem?_getD, List.getElem?_append_right (by omega), hcl, Nat.sub_self]
  rfl
/-- What stands at a place. -/
theorem t_at {l : List Int} {m : Nat} (hM : MayS l m) {j : Nat} (hj : j < 2 ^ m) : ∃ c x r : Nat, (spread l (2 ^ m)).getD j 0 = (c : Int) ∧ tC l m j = c ∧ tB l m j = bX m x ∧ tS l m j = lX m x ∧ c < 65 ∧ 0 < x ∧ x < 2 ^ (m + 1) ∧ l.getD c 0 = (r : Int) ∧
    x = r + ((spread l (2 ^ m)).take j).count (c : Int) ∧ ((spread l (2 ^ m)).take j).count (c : Int) < r ∧ r ≤ 2 ^ m ∧ (table l m).getD j (0, 0, 0) = ((tC l m j : Int), (tB l m j : Int), (tS l m j : Int)) := by
  obtain ⟨c, x, r, hS, hc65, hnx, hx0, hx1, hrc, hxe, hcnt, hrcm⟩ := hM.next j hj
  have ht := table_get hj hS hnx
  obtain ⟨a, b, _⟩ := rangeX2 hx0 hx1
  have e : cellOf m (c : Int) x = ((c : Int), (bX m x : Int), (lX m x : Int)) := by
    have e1 : ((x * 2 ^ (m - Nat.log2 x) : Nat) : Int) - ((2 ^ m : Nat) : Int) = (lX m x : Int) := by
      have a' : lX m x + 2 ^ m = x * 2 ^ (m - Nat.log2 x) := a
      omega
    unfold cellOf
    rw [e1]; rfl
  have h1 : tC l m j = c := by unfold tC; rw [ht, e]; exact Int.toNat_natCast c
  have h2 : tB l m j = bX m x := by unfold tB; rw [ht, e]; exact Int.toNat_natCast _
  have h3 : tS l m j = lX m x := by unfold tS; rw [ht, e]; exact Int.toNat_natCast _
  exact ⟨c, x, r, hS, h1, h2, h3, hc65, hx0, hx1, hrc, hxe, hcnt, hrcm, by rw [h1, h2, h3, ht, e]⟩
theorem t_bounds {l : List Int} {m : Nat} (hM : MayS l m) {j : Nat} (hj : j < 2 ^ m) : tC l m j < 65 ∧ tB l m j ≤ m ∧ tS l m j + 2 ^ tB l m j ≤ 2 ^ m ∧ 0 < l.getD (tC l m j) 0 ∧ (table l m).getD j (0, 0, 0) = ((tC l m j : Int), (tB l m j : Int), (tS l m j : Int)) := by
  obtain ⟨c, x, r, hS, h1, h2, h3, hc65, hx0, hx1, hrc, hxe, hcnt, hrcm, ht⟩ := t_at hM hj
  obtain ⟨a, b, d⟩ := rangeX2 hx0 hx1
  exact ⟨by omega, by omega, by rw [h2, h3]; exact b, by rw [h1, hrc]; omega, ht⟩
/-- Does a place belong to a class and a state? -/
def Hit (l : List Int) (m c s j : Nat) : Prop := tC l m j = c ∧ tS l m j ≤ s ∧ s < tS l m j + 2 ^ tB l m j
instance (l : List Int) (m c s j : Nat) : Decidable (Hit l m c s j) := by unfold Hit; infer_instance
theorem t_cover {l : List Int} {m : Nat} (hM : MayS l m) {c s : Nat} (hc : c < 65) (h0 : 0 < l.getD c 0) (hs : s < 2 ^ m) : ∃ j, j < 2 ^ m ∧ Hit l m c s j ∧ ∀ i, i < 2 ^ m → Hit l m c s i → i = j := by
  have hcl : c < l.length := by rw [hM.len]; exact hc
  have hx := hM.each _ (getD_mem hcl)
  obtain ⟨r, hr⟩ := Int.eq_ofNat_of_zero_le hx.1
  have hrm : r ≤ 2 ^ m := by omega
  obtain ⟨x, a1, a2, a3, a4, a5⟩ := x_of (m := m) (r := r) (s := s) (by omega) hrm hs
  have hcount := hM.count c hc
  rw [hr, Int.toNat_natCast] at hcount
  obtain ⟨j, b1, b2, b3⟩ := place_of (c : Int) (spread l (2 ^ m)) (x - r) (by omega)
  have hln := length_spread l (2 ^ m)
  rw [hln] at b1
  -- what stands at a place of the class
  have at_ : ∀ i, i < 2 ^ m → tC l m i = c → (spread l (2 ^ m)).getD i 0 = (c : Int) ∧ ∃ y, y = r + ((spread l (2 ^ m)).take i).count (c : Int) ∧ r ≤ y ∧ y < 2 * r ∧ tS l m i = lX m y ∧ tB l m i = bX m y := fun i hi hci => by
    obtain ⟨c', y, r', hS, h1, h2, h3, hc65, hy0, hy1, hrc, hye, hcnt, hrcm, _⟩ := t_at hM hi
    have ec : c' = c := by omega
    subst ec
    rw [hr] at hrc
    have er : r' = r := by omega
    subst er
    exact ⟨hS, y, hye, by omega, by omega, h3, h2⟩
  obtain ⟨c', y, r', hS, h1, h2, h3, hc65, hy0, hy1, hrc, hye, hcnt, hrcm, _⟩ := t_at hM b1
  rw [b2] at hS
  have ec : c' = c := by omega
  subst ec
  rw [hr] at hrc
  have er : r' = r := by omega
  subst er
  have ey : y = x := by omega
  subst ey
  refine ⟨j, b1, ⟨h1, by rw [h3]; exact a3, by rw [h2, h3]; exact a4⟩, fun i hi hh => ?_⟩
  obtain ⟨d1, z, d2, d3, d4, d5, d6⟩ := at_ i hi hh.1
  have ez := a5 z d3 d4 (by rw [← d5]; exact hh.2.1) (by rw [← d5, ← d6]; exact hh.2.2)
  exact place_one (c' : Int) (spread l (2 ^ m)) (by omega) (by omega) d1 b2 (by omega)
/-- The place to which one comes. -/
def fnd (l : List Int) (m c s : Nat) : Nat := ((List.range (2 ^ m)).find? fun j => decide (Hit l m c s j)).getD 0
theorem fnd_of {l : List Int} {m : Nat} (hM : MayS l m) {c s : Nat} (hc : c < 65) (h0 : 0 < l.getD c 0) (hs : s < 2 ^ m) : fnd l m c s < 2 ^ m ∧ Hit l m c s (fnd l m c s) ∧ ∀ i, i < 2 ^ m → Hit l m c s i → i = fnd l m c s := by
  obtain ⟨j, h1, h2, h3⟩ := t_cover hM hc h0 hs
  have e : fnd l m c s = j := by
    unfold fnd
    cases h : (List.range (2 ^ m)).find? fun j => decide (Hit l m c s j) with
    | none =>
      have := List.find?_eq_none.1 h j (List.mem_range.2 h1)
      rw [decide_eq_true_eq] at this
      exact absurd h2 this
    | some k =>
      have k1 := List.mem_of_find?_eq_some h
      have k2 := List.find?_some h
      rw [decide_eq_true_eq] at k2
      exact h3 k (List.mem_range.1 k1) k2
  rw [e]
  exact ⟨h1, h2, h3⟩
end Go.Proofs.Yteeegomdaebobaa.St

-- ---- Vt
/- Whole numbers in bytes: plain facts. No program in sight. -/
namespace Go.Proofs.Yteeegomdaebobaa.Vt
set_option maxRecDepth 100000
set_option linter.unusedSimpArgs false
set_option linter.unusedVariables false

def putV (n : Nat) : List Nat := if h : n < 128 then [n] else (n % 128 + 128) :: putV (n / 128)
termination_by n
decreasing_by omega
theorem putV_lt {n : Nat} (h : n < 128) : putV n = [n] := by rw [putV, dif_pos h]
theorem putV_ge {n : Nat} (h : 128 ≤ n) : putV n = (n % 128 + 128) :: putV (n / 128) := by rw [putV, dif_neg (by omega)]
theorem putV_byte (n : Nat) : ∀ x ∈ putV n, x < 256 := by
  induction n using Nat.strongRecOn with
  | ind n ih =>
    rcases Nat.lt_or_ge n 128 with h | h
    · rw [putV_lt h]; simp; omega
    · rw [putV_ge h]
      intro x hx
      rcases List.mem_cons.1 hx with rfl | hx
      · omega
      · exact ih (n / 128) (by omega) x hx
theorem putV_len (d : Nat) : ∀ n, n < 128 ^ (d + 1) → (putV n).length ≤ d + 1 := by
  induction d with
  | zero => intro n h; rw [putV_lt (by simpa using h)]; simp
  | succ d ih =>
    intro n h
    rcases Nat.lt_or_ge n 128 with h1 | h1
    · rw [putV_lt h1]; simp
    · rw [putV_ge h1]
      have := ih (n / 128) (by rw [Nat.div_lt_iff_lt_mul (by decide)]; rw [Nat.pow_succ] at h; exact h)
      simp; omega
theorem putV_len64 (n : Nat) (h : n < 18446744073709551616) : (putV n).length ≤ 10 := putV_len 9 n (Nat.lt_trans h (by decide))

def vval : List Nat → Nat
  | [] => 0
  | b :: t => b % 128 + 128 * vval t
theorem vval_putV (n : Nat) : vval (putV n) = n := by
  induction n using Nat.strongRecOn with
  | ind n ih =>
    rcases Nat.lt_or_ge n 128 with h | h
    · rw [putV_lt h]; simp [vval]; omega
    · rw [putV_ge h]; simp only [vval, ih (n / 128) (by omega)]; omega
theorem vval_lt (l : List Nat) : vval l < 128 ^ l.length := by
  induction l with
  | nil => simp [vval]
  | cons a t ih => simp only [vval, List.length_cons, Nat.pow_succ]; omega
theorem vval_append (l m : List Nat) : vval (l ++ m) = vval l + 128 ^ l.length * vval m := by
  induction l with
  | nil => simp [vval]
  | cons a t ih =>
    have e : 128 ^ (a :: t).length * vval m = 128 * (128 ^ t.length * vval m) := by rw [List.length_cons, Nat.pow_succ, Nat.mul_comm (128 ^ t.length) 128, Nat.mul_assoc]
    rw [e]
    simp only [vval, List.cons_append, ih]; omega
/-- Full groups ahead of one that is not. -/
theorem putV_vval (l : List Nat) (b : Nat) (hl : ∀ x ∈ l, 128 ≤ x ∧ x < 256) (hb : b < 128) (h0 : l = [] ∨ b ≠ 0) : putV (vval (l ++ [b])) = l ++ [b] := by
  induction l with
  | nil => simp only [List.nil_append, vval]; rw [putV_lt (by omega)]; simp; omega
  | cons a t ih =>
    have ha := hl a (by simp)
    have hb0 : b ≠ 0 := by
      rcases h0 with h | h
      · cases h
      · exact h
    have ih := ih (fun x hx => hl x (List.mem_cons_of_mem _ hx)) (.inr hb0)
    have hpos : 0 < vval (t ++ [b]) := by
      rw [vval_append]
      have h1 : 0 < vval [b] := by simp [vval]; omega
      have h2 : 0 < 128 ^ t.length := Nat.pow_pos (by decide)
      have := Nat.mul_pos h2 h1
      omega
    simp only [List.cons_append, vval]
    rw [putV_ge (by omega), show (a % 128 + 128 * vval (t ++ [b])) / 128 = vval (t ++ [b]) by omega, ih]
    congr 1
    omega
/-- Nothing but a number's own bytes. -/
theorem putV_is (l : List Nat) (b n : Nat) (hl : ∀ x ∈ l, 128 ≤ x ∧ x < 256) (hb : b < 128) : putV n = l ++ [b] ↔ n = vval (l ++ [b]) ∧ (l = [] ∨ b ≠ 0) := by
  constructor
  · intro h
    refine ⟨by rw [← h, vval_putV], ?_⟩
    rcases List.eq_nil_or_concat l with rfl | ⟨m, a, rfl⟩
    · exact .inl rfl
    · right
      rintro rfl
      have hn : n = vval (m ++ [a]) := by rw [← vval_putV n, h, vval_append]; simp [vval]
      have h2 := congrArg List.length h
      have : ∀ (k : Nat) (l : List Nat), l.length = k + 1 → (putV (vval l)).length ≤ k + 1 := fun k l hk => putV_len k _ (by have := vval_lt l; rwa [hk] at this)
      have := this m.length (m ++ [a]) (by simp)
      rw [← hn] at this
      simp at h2
      omega
  · rintro ⟨rfl, h0⟩
    exact putV_vval l b hl hb h0

/-- A number out of bytes: its value, how many they are, the error; so many groups at the most. -/
def goV : Nat → Bool → List Nat → Nat × Nat × Nat
  | 0, _, _ => (0, 0, 3)
  | _ + 1, _, [] => (0, 0, 2)
  | d + 1, f, b :: t =>
    if d = 0 ∧ 1 < b % 128 then (0, 0, 3)
    else if b < 128 then (if b = 0 ∧ f = false then (0, 0, 3) else (b, 1, 0))
    else if (goV d false t).2.2 = 0 then (b % 128 + 128 * (goV d false t).1, (goV d false t).2.1 + 1, 0) else (0, 0, (goV d false t).2.2)
/-- What is told of bytes is their own number. -/
theorem goV_size (d : Nat) : ∀ (f : Bool) (l : List Nat), (goV d f l).2.2 = 0 → 1 ≤ (goV d f l).2.1 ∧ (goV d f l).2.1 ≤ l.length ∧ (goV d f l).2.1 ≤ d := by
  induction d with
  | zero => intro f l h; cases h
  | succ d ih =>
    intro f l
    cases l with
    | nil => intro h; cases h
    | cons b t =>
      unfold goV
      split
      · intro h; cases h
      · split
        · split
          · intro h; cases h
          · intro _; simp
        · split
          · rename_i h
            intro _
            have := ih false t h
            simp; omega
          · rename_i h; intro h2; exact absurd h2 h
theorem goV_err (d : Nat) : ∀ (f : Bool) (l : List Nat), (goV d f l).2.2 = 0 ∨ goV d f l = (0, 0, 2) ∨ goV d f l = (0, 0, 3) := by
  induction d with
  | zero => intro f l; exact .inr (.inr rfl)
  | succ d ih =>
    intro f l
    cases l with
    | nil => exact .inr (.inl rfl)
    | cons b t =>
      unfold goV
      split
      · exact .inr (.inr rfl)
      · split
        · split
          · exact .inr (.inr rfl)
          · exact .inl rfl
        · split
          · exact .inl rfl
          · rcases ih false t with h | h | h
            · rename_i h2; exact absurd h h2
            · rw [h]; exact .inr (.inl rfl)
            · rw [h]; exact .inr (.inr rfl)
end Go.Proofs.Yteeegomdaebobaa.Vt

-- ---- Np
/- Numbers of a sum in bytes: plain facts. No program in sight. -/
namespace Go.Proofs.Yteeegomdaebobaa.Np
set_option maxRecDepth 100000
set_option linter.unusedSimpArgs false
set_option linter.unusedVariables false
open Vt Nl

/-- A text's bytes as numbers. -/
def bsOf (s : ByteArray) : List Nat := s.data.toList.map UInt8.toNat
theorem length_bsOf (s : ByteArray) : (bsOf s).length = s.size := by simp [bsOf]
def txt (l : List Nat) : ByteArray := ⟨(l.map UInt8.ofNat).toArray⟩
theorem bsOf_txt (l : List Nat) (h : ∀ x ∈ l, x < 256) : bsOf (txt l) = l := by
  unfold bsOf txt
  simp only [List.map_map]
  conv => rhs; rw [← List.map_id l]
  refine List.map_congr_left fun x hx => ?_
  have := h x hx
  simp; omega
theorem txt_bsOf (s : ByteArray) : txt (bsOf s) = s := by
  unfold bsOf txt
  simp only [List.map_map]
  have : s.data.toList.map (UInt8.ofNat ∘ UInt8.toNat) = s.data.toList := by
    conv => rhs; rw [← List.map_id s.data.toList]
    refine List.map_congr_left fun x hx => ?_
    simp
  rw [this]
theorem bsOf_inj {a b : ByteArray} (h : bsOf a = bsOf b) : a = b := by rw [← txt_bsOf a, h, txt_bsOf]
theorem size_txt (l : List Nat) : (txt l).size = l.length := by simp [txt, ByteArray.size]
theorem bsOf_extract (s : ByteArray) (i j : Nat) : bsOf (s.extract i j) = ((bsOf s).take j).drop i := by
  unfold bsOf
  rw [← List.map_take, ← List.map_drop]
  congr 1
  apply List.ext_getElem?
  intro n
  rw [ByteArray.data_extract, List.getElem?_drop, List.getElem?_take, Array.getElem?_toList, Array.getElem?_extract]
  by_cases h : i + n < j
  · rw [if_pos h]
    by_cases h2 : i + n < s.data.size
    · rw [if_pos (by omega), Array.getElem?_toList]
    · rw [if_neg (by omega)]; rw [Array.getElem?_toList, Array.getElem?_eq_none (by omega)]
  · rw [if_neg h, if_neg (by omega)]

/-- A number at a place, as Go tells it. -/
def vgetE (s : ByteArray) (a : Int) : Int × Int × Int :=
  if a < 0 ∨ (s.size : Int) < a then (0, 0, 1)
  else if (goV 10 true ((bsOf s).drop a.toNat)).2.2 = 0 then ((goV 10 true ((bsOf s).drop a.toNat)).1, a + ((goV 10 true ((bsOf s).drop a.toNat)).2.1 : Int), 0)
  else (0, 0, ((goV 10 true ((bsOf s).drop a.toNat)).2.2 : Int))

end Go.Proofs.Yteeegomdaebobaa.Np

-- ---- Mix
/- A rule for a region that draws its order: some operations are taken first (in an order of the prover's choice), then a chain that is forced. Conditions: the Bool 'Region.mixB' over the region's own text. -/
namespace Go.Proofs.Yteeegomdaebobaa.Mix
set_option maxRecDepth 100000
set_option linter.unusedSimpArgs false
set_option linter.unusedVariables false
open Go Go.RowKit

/-- A tree without a store, a freeze, a written object, a system's call. -/
def Grows {α : Type} : Sem α → Prop
  | .pure _ => True
  | .load _ _ k => ∀ v, Grows (k v)
  | .store .. => False
  | .new _ k => ∀ n, Grows (k n)
  | .shape _ k => ∀ s, Grows (k s)
  | .freeze .. => False
  | .frozen _ k => ∀ b, Grows (k b)
  | .getObj _ k => ∀ o, Grows (k o)
  | .setObj .. => False
  | .choose _ k => ∀ n, Grows (k n)
  | .sys .. => False
  | .program k => ∀ p, Grows (k p)
  | .mark _ k => Grows k
  | .halt _ => True

theorem Grows.bind {α β : Type} {s : Sem α} {f : α → Sem β} (h : Grows s) (hf : ∀ a, Grows (f a)) : Grows (s.bind f) := by
  induction s with
  | pure a => exact hf a
  | load m a k ih => exact fun v => ih v (h v)
  | store m a v k ih => exact h.elim
  | new o k ih => exact fun n => ih n (h n)
  | shape r k ih => exact fun v => ih v (h v)
  | freeze a n k ih => exact h.elim
  | frozen a k ih => exact fun v => ih v (h v)
  | getObj r k ih => exact fun v => ih v (h v)
  | setObj r o k ih => exact h.elim
  | choose q k ih => exact fun v => ih v (h v)
  | sys c k ih => exact h.elim
  | program k ih => exact fun v => ih v (h v)
  | mark m k ih => exact ih h
  | halt x => exact trivial

theorem Grows.run {α : Type} (P : Program) {s : Sem α} (h : Grows s) : ∀ w x w', s.run P w = .ok x w' → Below w.heap.size w w' := by
  induction s with
  | pure a => intro w x w' e; simp only [Sem.run, Result.ok.injEq] at e; rw [← e.2]; exact Below.refl _ _
  | load m a k ih =>
    intro w x w' e
    simp only [Sem.run] at e
    split at e
    · exact ih _ (h _) _ _ _ e
    · split at e
      · exact ih _ (h _) _ _ _ e
      · cases e
  | store m a v k ih => exact h.elim
  | new o k ih =>
    intro w x w' e
    simp only [Sem.run] at e
    have := ih _ (h _) _ _ _ e
    exact ((Below.refl w.heap.size w).alloc (Nat.le_refl _) o).trans (this.mono (by simp))
  | shape r k ih => intro w x w' e; exact ih _ (h _) _ _ _ (by simpa only [Sem.run] using e)
  | freeze a n k ih => exact h.elim
  | frozen a k ih => intro w x w' e; exact ih _ (h _) _ _ _ (by simpa only [Sem.run] using e)
  | getObj r k ih =>
    intro w x w' e
    simp only [Sem.run] at e
    split at e
    · cases e
    · exact ih _ (h _) _ _ _ e
    · cases e
  | setObj r o k ih => exact h.elim
  | choose q k ih =>
    intro w x w' e
    simp only [Sem.run] at e
    split at e
    · exact ih _ (h _) _ _ _ e
    · have := ih _ (h _) _ _ _ e
      exact ((Below.refl w.heap.size w).drew).trans this
  | sys c k ih => exact h.elim
  | program k ih => intro w x w' e; exact ih _ (h _) _ _ _ (by simpa only [Sem.run] using e)
  | mark m k ih => intro w x w' e; exact ih h _ _ _ (by simpa only [Sem.run] using e)
  | halt x => intro w x w' e; simp [Sem.run] at e

/-- A tree all of whose ends are values. -/
def Vals : Sem Next → Prop
  | .pure n => ∃ u, n = .value u
  | .load _ _ k => ∀ v, Vals (k v)
  | .store _ _ _ k => Vals k
  | .new _ k => ∀ n, Vals (k n)
  | .shape _ k => ∀ s, Vals (k s)
  | .freeze _ _ k => Vals k
  | .frozen _ k => ∀ b, Vals (k b)
  | .getObj _ k => ∀ o, Vals (k o)
  | .setObj _ _ k => Vals k
  | .choose _ k => ∀ n, Vals (k n)
  | .sys _ k => ∀ r, Vals (k r)
  | .program k => ∀ p, Vals (k p)
  | .mark _ k => Vals k
  | .halt _ => True

theorem Vals.bind {α : Type} {f : α → Sem Next} (hf : ∀ a, Vals (f a)) : ∀ s : Sem α, Vals (s.bind f) := by
  intro s
  induction s with
  | pure a => exact hf a
  | load m a k ih => exact fun v => ih v
  | store m a v k ih => exact ih
  | new o k ih => exact fun v => ih v
  | shape r k ih => exact fun v => ih v
  | freeze a n k ih => exact ih
  | frozen a k ih => exact fun v => ih v
  | getObj r k ih => exact fun v => ih v
  | setObj r o k ih => exact ih
  | choose q k ih => exact fun v => ih v
  | sys c k ih => exact fun v => ih v
  | program k ih => exact fun v => ih v
  | mark m k ih => exact ih
  | halt x => exact trivial

theorem Vals.run {P : Program} : ∀ (s : Sem Next), Vals s → ∀ w n w', s.run P w = .ok n w' → ∃ u, n = .value u := by
  intro s
  induction s with
  | pure a => intro h w n w' e; simp only [Sem.run, Result.ok.injEq] at e; rw [← e.1]; exact h
  | load m a k ih =>
    intro h w n w' e
    simp only [Sem.run] at e
    split at e
    · exact ih _ (h _) _ _ _ e
    · split at e
      · exact ih _ (h _) _ _ _ e
      · cases e
  | store m a v k ih =>
    intro h w n w' e
    cases v <;> simp only [Sem.run] at e <;> first
      | (cases e; done)
      | (split at e
         · split at e
           · cases e
           · exact ih h _ _ _ e
         · split at e
           · exact ih h _ _ _ e
           · cases e)
  | new o k ih => intro h w n w' e; exact ih _ (h _) _ _ _ (by simpa only [Sem.run] using e)
  | shape r k ih => intro h w n w' e; exact ih _ (h _) _ _ _ (by simpa only [Sem.run] using e)
  | freeze a m k ih => intro h w n w' e; exact ih h _ _ _ (by simpa only [Sem.run] using e)
  | frozen a k ih => intro h w n w' e; exact ih _ (h _) _ _ _ (by simpa only [Sem.run] using e)
  | getObj r k ih =>
    intro h w n w' e
    simp only [Sem.run] at e
    split at e
    · cases e
    · exact ih _ (h _) _ _ _ e
    · cases e
  | setObj r o k ih =>
    intro h w n w' e
    simp only [Sem.run] at e
    split at e
    · cases e
    · exact ih h _ _ _ e
    · cases e
  | choose q k ih =>
    intro h w n w' e
    simp only [Sem.run] at e
    split at e
    · exact ih _ (h _) _ _ _ e
    · exact ih _ (h _) _ _ _ e
  | sys c k ih => intro h w n w' e; exact ih _ (h _) _ _ _ (by simpa only [Sem.run] using e)
  | program k ih => intro h w n w' e; exact ih _ (h _) _ _ _ (by simpa only [Sem.run] using e)
  | mark m k ih => intro h w n w' e; exact ih h _ _ _ (by simpa only [Sem.run] using e)
  | halt x => intro _ w n w' e; simp [Sem.run] at e

theorem vals_bind {α : Type} {s : Sem α} {f : α → Sem Next} (hf : ∀ a, Vals (f a)) : Vals (s >>= f) := Vals.bind hf s

/-- Operations that may be taken first. -/
def headOp : Op → Bool
  | .move _ | .assign _ | .pick .. | .load .. | .binOp .. | .unOp .. | .convert .. | .fieldAddr .. | .field .. | .indexAddr .. | .index .. | .slice .. | .extract .. | .makeFunc .. | .nilCheck _ => true
  | .call { callee := .builtin .len, .. } => true
  | .call { callee := .builtin .max, .. } => true
  | _ => false

/-- Operations that lay a new block and do nothing else. -/
def newOp : Op → Bool
  | .buildSlice .. | .box .. | .makeSlice .. | .alloc _ => true
  | _ => false

theorem head_vals (ρ : Operand → Value) (o : Oper) (h : headOp o.op = true) : Vals (execOp ρ o) := by
  obtain ⟨dst, op, type, pos, after, guard⟩ := o
  cases op <;> simp only [headOp] at h <;> first
    | (cases h; done)
    | (simp only [execOp]; refine vals_bind ?_; intro _; exact ⟨_, rfl⟩)
    | (simp only [execOp]; exact ⟨_, rfl⟩)
    | skip
  case nilCheck x =>
    simp only [execOp]
    generalize ρ x = v
    split
    · exact fun p => trivial
    · exact fun p => trivial
    · exact fun p => trivial
    · split
      · exact fun p => trivial
      · refine vals_bind ?_; intro _
        refine vals_bind ?_; intro _
        split
        · refine vals_bind ?_; intro _; exact ⟨_, rfl⟩
        · exact ⟨_, rfl⟩
      · exact ⟨_, rfl⟩
    · exact ⟨_, rfl⟩
  case call c =>
    obtain ⟨callee, args, argTypes⟩ := c
    cases callee <;> first | (simp at h; done) | skip
    case builtin b =>
      cases b <;> first
        | (simp at h; done)
        | exact (vals_bind (s := Builtin.len_ argTypes type (args.map ρ)) (f := fun v => pure (Next.value v)) fun v => ⟨_, rfl⟩)
        | exact (vals_bind (s := Builtin.max_ argTypes type (args.map ρ)) (f := fun v => pure (Next.value v)) fun v => ⟨_, rfl⟩)

theorem new_vals (ρ : Operand → Value) (o : Oper) (h : newOp o.op = true) : Vals (execOp ρ o) := by
  obtain ⟨dst, op, type, pos, after, guard⟩ := o
  cases op <;> simp only [newOp] at h <;> first
    | (cases h; done)
    | (simp only [execOp]; refine vals_bind ?_; intro _; exact ⟨_, rfl⟩)

theorem grows_stuck {α : Type} (s : String) : Grows (stuck s : Sem α) := trivial
theorem grows_unsupported {α : Type} (s : Unsupported) : Grows (unsupported s : Sem α) := trivial
theorem grows_bind {α β : Type} {s : Sem α} {f : α → Sem β} (h : Grows s) (hf : ∀ a, Grows (f a)) : Grows (s >>= f) := Grows.bind h hf
theorem grows_program : Grows program := fun _ => trivial
theorem grows_typeInfo (t : TypeId) : Grows (typeInfo t) := grows_bind grows_program fun p => by (try dsimp only); split <;> trivial
theorem grows_underlying (t : TypeId) : Grows (underlying t) := grows_bind grows_program fun p => by (try dsimp only); split <;> trivial
theorem grows_sizeOf (t : TypeId) : Grows (sizeOf t) := grows_bind (grows_typeInfo t) fun _ => trivial
theorem grows_zeroValue (t : TypeId) : Grows (zeroValue t) := grows_bind (grows_typeInfo t) fun i => by (try dsimp only); split <;> trivial
theorem grows_newRow (t : TypeId) (c : Array Value) : Grows (newRow t c) := grows_bind (fun _ => trivial) fun _ => trivial
theorem grows_elemOf (t : TypeId) : Grows (elemOf t) := grows_bind (grows_underlying t) fun _ => by (try dsimp only); split <;> trivial
theorem grows_goPanic {α : Type} (v : Value) : Grows (goPanic v : Sem α) := trivial
theorem grows_runtimePanic {α : Type} (e : RuntimeError) : Grows (runtimePanic e : Sem α) := grows_bind grows_program fun _ => by
  (try dsimp only)
  split <;> first
    | exact grows_goPanic _
    | (refine grows_bind (grows_elemOf _) fun _ => ?_; refine grows_bind (grows_newRow _ _) fun _ => ?_; exact grows_goPanic _)
theorem grows_asIntOf (v : Value) : Grows (asIntOf v) := by unfold asIntOf; split <;> trivial
theorem grows_asInt (v : Value) : Grows (asInt v) := by unfold asInt; exact grows_bind (grows_asIntOf v) fun _ => trivial
theorem grows_askRoom (n : Nat) : Grows (askRoom n) := by unfold askRoom; split <;> trivial
theorem grows_choose (q : Question) : Grows (choose q) := fun _ => trivial

theorem grows_box (e : TypeId) (v : Value) : Grows (Instr.box e v) := grows_bind (grows_newRow _ _) fun _ => trivial
theorem grows_alloc (e : TypeId) (v : Value) : Grows (Instr.alloc e true v) := by
  unfold Instr.alloc
  exact grows_bind (grows_zeroValue _) fun z => grows_bind (grows_newRow _ _) fun _ => trivial
theorem grows_buildSlice (t : TypeId) (n : Nat) (ps : Array (Nat × Value)) : Grows (Instr.buildSlice t n ps) := by
  unfold Instr.buildSlice
  repeat' first
    | exact trivial
    | exact grows_underlying _
    | exact grows_sizeOf _
    | exact grows_zeroValue _
    | exact grows_newRow _ _
    | exact grows_stuck _
    | exact grows_unsupported _
    | refine grows_bind ?_ (fun _ => ?_)
    | split
    | dsimp only
theorem grows_makeSlice (t : TypeId) (a b : Value) : Grows (Instr.makeSlice t a b) := by
  unfold Instr.makeSlice
  repeat' first
    | exact trivial
    | exact grows_underlying _
    | exact grows_sizeOf _
    | exact grows_zeroValue _
    | exact grows_newRow _ _
    | exact grows_typeInfo _
    | exact grows_asInt _
    | exact grows_askRoom _
    | exact grows_choose _
    | exact grows_runtimePanic _
    | exact grows_stuck _
    | exact grows_unsupported _
    | refine grows_bind ?_ (fun _ => ?_)
    | split
    | dsimp only

theorem new_grows (ρ : Operand → Value) (o : Oper) (h : newOp o.op = true) : Grows (execOp ρ o) := by
  obtain ⟨dst, op, type, pos, after, guard⟩ := o
  cases op <;> simp only [newOp] at h <;> first
    | (cases h; done)
    | (simp only [execOp]; exact grows_bind (grows_box _ _) fun _ => trivial)
    | (simp only [execOp]; exact grows_bind (grows_alloc _ _) fun _ => trivial)
    | (simp only [execOp]; exact grows_bind (grows_buildSlice _ _ _) fun _ => trivial)
    | (simp only [execOp]; exact grows_bind (grows_makeSlice _ _ _) fun _ => trivial)

section
variable {P : Program} {ops : Array Oper} {Q : Exit → Act → World → Prop} {md : Region.Mode} {C : World → Prop}

/-- Whatever order is picked from here on: what is in 'h1' yields in every world, what is in 'h2' in every world of the class, the rest is carried out. -/
def wpM (P : Program) (md : Region.Mode) (ops : Array Oper) (Q : Exit → Act → World → Prop) (C : World → Prop) (h1 h2 : List Nat) : Nat → Array Bool → Act → World → Prop
  | 0, listed, a, w => Region.ready md ops listed = [] ∧ Q .normal a w
  | fuel + 1, listed, a, w =>
    (Region.ready md ops listed = [] → Q .normal a w) ∧
    ∀ i ∈ Region.ready md ops listed,
      if i ∈ h1 then ∃ o v, ops[i]? = some o ∧ Yields P ops o v a ∧ wpM P md ops Q C h1 h2 fuel (listed.setIfInBounds i true) (a.put o.dst v) w
      else if i ∈ h2 then ∃ o v, ops[i]? = some o ∧ C w ∧ YieldsIf P ops C o v a ∧ wpM P md ops Q C h1 h2 fuel (listed.setIfInBounds i true) (a.put o.dst v) w
      else wpOp P ops Q i (wpM P md ops Q C h1 h2 fuel (listed.setIfInBounds i true)) a w

theorem wpAny_of_M {h1 h2 : List Nat} : ∀ (fuel : Nat) (listed : Array Bool) (a : Act) (w : World), wpM P md ops Q C h1 h2 fuel listed a w → wpAny P md ops Q fuel listed a w
  | 0, _, _, _, h => h
  | fuel + 1, listed, a, w, h => ⟨h.1, fun i hi => by
      have h2 := h.2 i hi
      split at h2
      · obtain ⟨o, v, ho, hy, hm⟩ := h2
        exact hy.wpOp ho (wpAny_of_M fuel _ _ _ hm)
      · split at h2
        · obtain ⟨o, v, ho, hc, hy, hm⟩ := h2
          exact hy.wpOp ho hc (wpAny_of_M fuel _ _ _ hm)
        · exact wpOp_mono (fun a' w' h' => wpAny_of_M fuel _ a' w' h') h2⟩

theorem yields_put {oi oj : Oper} {a : Act} {v : Value} (hsj : ∀ cs b, oj.op ≠ .select cs b) (hap : oi.apart ops oj = true) {u : Value} (h : Yields P ops oj u (a.put oi.dst v)) : Yields P ops oj u a := by
  obtain ⟨h1, _, _⟩ := Oper.apart_spec hap
  exact h.of_same (execOp_put oj hsj a oi.dst v h1).symm (wanted_put oj a oi.dst v h1).symm

theorem yieldsIf_put {oi oj : Oper} {a : Act} {v : Value} (hsj : ∀ cs b, oj.op ≠ .select cs b) (hap : oi.apart ops oj = true) {u : Value} (h : YieldsIf P ops C oj u (a.put oi.dst v)) : YieldsIf P ops C oj u a := by
  obtain ⟨h1, _, _⟩ := Oper.apart_spec hap
  exact h.of_same (execOp_put oj hsj a oi.dst v h1).symm (wanted_put oj a oi.dst v h1).symm

theorem yields_put' {oi oj : Oper} {a : Act} {v : Value} (hsi : ∀ cs b, oi.op ≠ .select cs b) (hap : oi.apart ops oj = true) (u : Value) (h : Yields P ops oi v a) : Yields P ops oi v (a.put oj.dst u) := by
  obtain ⟨_, _, h3⟩ := Oper.apart_spec hap
  exact h.of_same (execOp_put oi hsi a oj.dst u h3) (wanted_put oi a oj.dst u h3)

theorem yieldsIf_put' {oi oj : Oper} {a : Act} {v : Value} (hsi : ∀ cs b, oi.op ≠ .select cs b) (hap : oi.apart ops oj = true) (u : Value) (h : YieldsIf P ops C oi v a) : YieldsIf P ops C oi v (a.put oj.dst u) := by
  obtain ⟨_, _, h3⟩ := Oper.apart_spec hap
  exact h.of_same (execOp_put oi hsi a oj.dst u h3) (wanted_put oi a oj.dst u h3)

theorem not_waits {i : Nat} {oj : Oper} {listed : Array Bool} (hr : i ∈ Region.ready md ops listed) (hall : ∀ e ∈ oj.after, Region.binds md e = true → listed.getD e.on false = true) :
    ∀ e ∈ oj.after, Region.binds md e = true → e.on ≠ i := fun e he hb heq => by
  have h1 := hall e he hb
  have h0 := (mem_ready.1 hr).1
  rw [heq] at h1
  rcases Nat.lt_or_ge i listed.size with h' | h'
  · simp [h'] at h0 h1; rw [h0] at h1; cases h1
  · simp [Array.getElem?_eq_none h'] at h1

/-- What 'free' asks, for all that has not come up. -/
def Free (md : Region.Mode) (ops : Array Oper) (i : Nat) (oi : Oper) (listed : Array Bool) : Prop :=
  ∀ j oj, ops[j]? = some oj → j ≠ i → listed.getD j true = false → (∀ e ∈ oj.after, Region.binds md e = true → e.on ≠ i) → oi.apart ops oj = true

theorem Free.set {i j : Nat} {oi : Oper} {listed : Array Bool} (h : Free md ops i oi listed) (hjun : listed.getD j true = false) : Free md ops i oi (listed.setIfInBounds j true) := fun k ok hk hki hun hno => by
  refine h k ok hk hki ?_ hno
  by_cases hjk : j = k
  · subst hjk; exact hjun
  · rw [getD_set_ne true hjk] at hun; exact hun

theorem wpM_first1 {h1 h2 : List Nat} {i : Nat} {oi : Oper} {v : Value} (hi : ops[i]? = some oi) (hi1 : i ∈ h1) (hsel : ∀ (j : Nat) (o : Oper) cs b, ops[j]? = some o → o.op ≠ .select cs b)
    (hQ : ∀ c a w, Q (.panic c) (a.put oi.dst v) w → Q (.panic c) a w) :
    ∀ (fuel : Nat) (listed : Array Bool) (a : Act) (w : World), Free md ops i oi listed →
      i ∈ Region.ready md ops listed → Yields P ops oi v a →
      wpM P md ops Q C h1 h2 fuel (listed.setIfInBounds i true) (a.put oi.dst v) w → wpM P md ops Q C h1 h2 (fuel + 1) listed a w := by
  intro fuel
  induction fuel with
  | zero =>
    intro listed a w _ hr hy H
    refine ⟨fun h => (by rw [h] at hr; cases hr), fun j hj => ?_⟩
    by_cases hji : j = i
    · subst hji; rw [if_pos hi1]; exact ⟨oi, v, hi, hy, H⟩
    · have := ready_mono hj hji
      rw [H.1] at this
      cases this
  | succ fuel ih =>
    intro listed a w hfree hr hy H
    refine ⟨fun h => (by rw [h] at hr; cases hr), fun j hj => ?_⟩
    by_cases hji : j = i
    · subst hji; rw [if_pos hi1]; exact ⟨oi, v, hi, hy, H⟩
    · have hH := H.2 j (ready_mono hj hji)
      obtain ⟨hjun, oj, hoj, hall⟩ := mem_ready.1 hj
      have hap := hfree j oj hoj hji hjun (not_waits hr hall)
      have hfree' := hfree.set hjun
      have hr' := ready_mono hr (Ne.symm hji)
      obtain ⟨_, hne, _⟩ := Oper.apart_spec hap
      split at hH
      · rename_i hj1
        obtain ⟨o, u, ho, hyj, hm⟩ := hH
        have e : oj = o := Option.some.inj (hoj.symm.trans ho)
        subst e
        rw [if_pos hj1]
        refine ⟨oj, u, hoj, yields_put (fun cs b => hsel j oj cs b hoj) hap hyj, ih _ _ _ hfree' hr' (yields_put' (fun cs b => hsel i oi cs b hi) hap u hy) ?_⟩
        rw [Array.setIfInBounds_comm _ _ hji, ← Act.put_comm a v u hne]
        exact hm
      · rename_i hj1
        split at hH
        · rename_i hj2
          obtain ⟨o, u, ho, hc, hyj, hm⟩ := hH
          have e : oj = o := Option.some.inj (hoj.symm.trans ho)
          subst e
          rw [if_neg hj1, if_pos hj2]
          refine ⟨oj, u, hoj, hc, yieldsIf_put (fun cs b => hsel j oj cs b hoj) hap hyj, ih _ _ _ hfree' hr' (yields_put' (fun cs b => hsel i oi cs b hi) hap u hy) ?_⟩
          rw [Array.setIfInBounds_comm _ _ hji, ← Act.put_comm a v u hne]
          exact hm
        · rename_i hj2
          rw [if_neg hj1, if_neg hj2]
          have h2 := wpOp_put hoj hap (fun cs b => hsel i oi cs b hi) (fun cs b => hsel j oj cs b hoj) hQ hy hH
          refine wpOp_mono (fun a' w' h3 => ih (listed.setIfInBounds j true) a' w' hfree' hr' h3.1 ?_) h2
          rw [Array.setIfInBounds_comm _ _ hji]
          exact h3.2

/-- An operation that lays a block leaves the class. -/
theorem wpOp_new {j : Nat} {oj : Oper} (hoj : ops[j]? = some oj) (hn : newOp oj.op = true) (hC : ∀ w w', C w → Below w.heap.size w w' → C w') {K : Act → World → Prop} {a : Act} {w : World} (hw : C w)
    (h : wpOp P ops Q j K a w) : wpOp P ops Q j (fun a' w' => C w' ∧ K a' w') a w := by
  unfold wpOp at *
  simp only [hoj] at *
  split
  · rename_i hwant
    simp only [hwant, if_true] at h
    rcases h with h | h
    case inr => exact .inr h
    refine .inl ?_
    have hv := Vals.run (P := P) _ (new_vals a.eval oj hn) w
    have hg := Grows.run P (new_grows a.eval oj hn) w
    unfold Oper.wp at *
    generalize (execOp a.eval oj).run P w = r at *
    cases r with
    | ok n w' =>
      obtain ⟨u, rfl⟩ := hv n w' rfl
      exact ⟨hC _ _ hw (hg _ _ rfl), h⟩
    | halt x w' => cases x <;> simp only [Oper.upon] at h ⊢ <;> exact h
  · rename_i hwant
    simp only [hwant] at h
    exact ⟨hw, h⟩

/-- What has come up has come up behind all that it waits for. -/
def Closed (md : Region.Mode) (ops : Array Oper) (listed : Array Bool) : Prop :=
  ∀ j oj, ops[j]? = some oj → listed.getD j false = true → ∀ e ∈ oj.after, Region.binds md e = true → listed.getD e.on false = true

theorem Closed.set {i : Nat} {listed : Array Bool} (inv : Closed md ops listed) (hi : i ∈ Region.ready md ops listed) : Closed md ops (listed.setIfInBounds i true) := by
  obtain ⟨_, oi, hoi, hall⟩ := mem_ready.1 hi
  intro j oj hj hl e he hb
  by_cases hij : i = j
  · subst hij
    have : oj = oi := Option.some.inj (hj.symm.trans hoi)
    subst this
    exact getD_set_true (hall e he hb)
  · rw [getD_set_ne false hij] at hl
    exact getD_set_true (inv j oj hj hl e he hb)

/-- t waits for i, through others or not. -/
def anc (md : Region.Mode) (ops : Array Oper) : Nat → Nat → Nat → Bool
  | 0, _, _ => false
  | n + 1, t, i => match ops[t]? with
    | some ot => ot.after.any fun e => Region.binds md e && (e.on == i || anc md ops n e.on i)
    | none => false

theorem anc_listed {listed : Array Bool} (hc : Closed md ops listed) {i : Nat} : ∀ (n t : Nat) (ot : Oper), ops[t]? = some ot → (∀ e ∈ ot.after, Region.binds md e = true → listed.getD e.on false = true) → anc md ops n t i = true → listed.getD i false = true := by
  intro n
  induction n with
  | zero => intro t ot _ _ h; simp [anc] at h
  | succ n ih =>
    intro t ot hot hall h
    simp only [anc, hot] at h
    obtain ⟨e, he, hb⟩ := Array.any_eq_true'.1 h
    simp only [Bool.and_eq_true, Bool.or_eq_true, beq_iff_eq] at hb
    obtain ⟨hb1, hb2⟩ := hb
    have hl := hall e he hb1
    rcases hb2 with h1 | h1
    · rw [← h1]; exact hl
    · cases n with
      | zero => simp [anc] at h1
      | succ n =>
        cases ho : ops[e.on]? with
        | none => simp [anc, ho] at h1
        | some oe => exact ih e.on oe ho (fun e' he' hb' => hc e.on oe ho hl e' he' hb') h1

theorem wpM_first2 {h1 h2 : List Nat} {i n : Nat} {oi : Oper} {v : Value} (hi : ops[i]? = some oi) (hi1 : i ∉ h1) (hi2 : i ∈ h2) (hsel : ∀ (j : Nat) (o : Oper) cs b, ops[j]? = some o → o.op ≠ .select cs b)
    (hQ : ∀ c a w, Q (.panic c) (a.put oi.dst v) w → Q (.panic c) a w) (hC : ∀ w w', C w → Below w.heap.size w w' → C w')
    (htail : ∀ j oj, ops[j]? = some oj → j ∉ h1 → j ∉ h2 → newOp oj.op = true ∨ anc md ops n j i = true) :
    ∀ (fuel : Nat) (listed : Array Bool) (a : Act) (w : World), Free md ops i oi listed → Closed md ops listed →
      i ∈ Region.ready md ops listed → YieldsIf P ops C oi v a → C w →
      wpM P md ops Q C h1 h2 fuel (listed.setIfInBounds i true) (a.put oi.dst v) w → wpM P md ops Q C h1 h2 (fuel + 1) listed a w := by
  intro fuel
  induction fuel with
  | zero =>
    intro listed a w _ _ hr hy hw H
    refine ⟨fun h => (by rw [h] at hr; cases hr), fun j hj => ?_⟩
    by_cases hji : j = i
    · subst hji; rw [if_neg hi1, if_pos hi2]; exact ⟨oi, v, hi, hw, hy, H⟩
    · have := ready_mono hj hji
      rw [H.1] at this
      cases this
  | succ fuel ih =>
    intro listed a w hfree hcl hr hy hw H
    refine ⟨fun h => (by rw [h] at hr; cases hr), fun j hj => ?_⟩
    by_cases hji : j = i
    · subst hji; rw [if_neg hi1, if_pos hi2]; exact ⟨oi, v, hi, hw, hy, H⟩
    · have hH := H.2 j (ready_mono hj hji)
      obtain ⟨hjun, oj, hoj, hall⟩ := mem_ready.1 hj
      have hap := hfree j oj hoj hji hjun (not_waits hr hall)
      have hfree' := hfree.set hjun
      have hcl' := hcl.set hj
      have hr' := ready_mono hr (Ne.symm hji)
      obtain ⟨_, hne, _⟩ := Oper.apart_spec hap
      split at hH
      · rename_i hj1
        obtain ⟨o, u, ho, hyj, hm⟩ := hH
        have e : oj = o := Option.some.inj (hoj.symm.trans ho)
        subst e
        rw [if_pos hj1]
        refine ⟨oj, u, hoj, yields_put (fun cs b => hsel j oj cs b hoj) hap hyj, ih _ _ _ hfree' hcl' hr' (yieldsIf_put' (fun cs b => hsel i oi cs b hi) hap u hy) hw ?_⟩
        rw [Array.setIfInBounds_comm _ _ hji, ← Act.put_comm a v u hne]
        exact hm
      · rename_i hj1
        split at hH
        · rename_i hj2
          obtain ⟨o, u, ho, hc, hyj, hm⟩ := hH
          have e : oj = o := Option.some.inj (hoj.symm.trans ho)
          subst e
          rw [if_neg hj1, if_pos hj2]
          refine ⟨oj, u, hoj, hc, yieldsIf_put (fun cs b => hsel j oj cs b hoj) hap hyj, ih _ _ _ hfree' hcl' hr' (yieldsIf_put' (fun cs b => hsel i oi cs b hi) hap u hy) hw ?_⟩
          rw [Array.setIfInBounds_comm _ _ hji, ← Act.put_comm a v u hne]
          exact hm
        · rename_i hj2
          rw [if_neg hj1, if_neg hj2]
          have hnew : newOp oj.op = true := (htail j oj hoj hj1 hj2).resolve_right fun hanc => by
            have h1 := anc_listed hcl n j oj hoj hall hanc
            have h0 := getD_both (mem_ready.1 hr).1
            rw [h1] at h0; cases h0
          have h2 := wpOp_new hoj hnew hC hw (wpOp_putIf hoj hap (fun cs b => hsel i oi cs b hi) (fun cs b => hsel j oj cs b hoj) hQ hy hH)
          refine wpOp_mono (fun a' w' h3 => ih (listed.setIfInBounds j true) a' w' hfree' hcl' hr' h3.2.1 h3.1 ?_) h2
          rw [Array.setIfInBounds_comm _ _ hji]
          exact h3.2.2

/-! ### The Bool over a region's text -/
def marked (listed : Array Bool) : List Nat → Array Bool
  | [] => listed
  | i :: l => marked (listed.setIfInBounds i true) l

def hoistB (md : Region.Mode) (ops : Array Oper) : List Nat → Array Bool → Bool
  | [], _ => true
  | i :: l, listed => (Region.ready md ops listed).contains i && Region.free md ops listed i && (match ops[i]? with | some o => headOp o.op | none => false) && hoistB md ops l (listed.setIfInBounds i true)

def seqL (md : Region.Mode) (ops : Array Oper) : List Nat → Array Bool → Bool
  | [], listed => (Region.ready md ops listed).isEmpty
  | i :: l, listed => decide (Region.ready md ops listed = [i]) && seqL md ops l (listed.setIfInBounds i true)

def mixB (md : Region.Mode) (ops : Array Oper) (h1 h2 ts : List Nat) : Bool :=
  Region.noSelect ops && h2.all (fun i => !h1.contains i) && ts.all (fun i => !h1.contains i && !h2.contains i) &&
  (List.range ops.size).all (fun t => h1.contains t || h2.contains t || (match ops[t]? with | some o => newOp o.op | none => false) || h2.all fun i => anc md ops ops.size t i) &&
  hoistB md ops (h1 ++ h2) (Array.replicate ops.size false) && seqL md ops ts (marked (Array.replicate ops.size false) (h1 ++ h2)) && (decide (h1.length + h2.length + ts.length = ops.size))

def pick (l : List Oper) (h : List Nat) : List Oper := h.filterMap fun i => l[i]?

theorem quiet_run {o : Oper} {a : Act} {v : Value} (hh : headOp o.op = true) {w : World} (h : o.quietAt P a C w v) : (execOp a.eval o).run P w = .ok (.value v) w := by
  have hv := Vals.run (P := P) _ (head_vals a.eval o hh) w
  unfold Oper.quietAt at h
  generalize (execOp a.eval o).run P w = r at *
  cases r with
  | ok n w' =>
    obtain ⟨u, rfl⟩ := hv n w' rfl
    obtain ⟨rfl, rfl⟩ := h
    rfl
  | halt x w' => exact h.elim

theorem marked_append (l1 l2 : List Nat) : ∀ listed, marked listed (l1 ++ l2) = marked (marked listed l1) l2 := by
  induction l1 with
  | nil => intro _; rfl
  | cons i l ih => intro listed; exact ih _

theorem hoistB_append (l1 l2 : List Nat) : ∀ listed, hoistB md ops (l1 ++ l2) listed = (hoistB md ops l1 listed && hoistB md ops l2 (marked listed l1)) := by
  induction l1 with
  | nil => intro _; simp [hoistB, marked]
  | cons i l ih => intro listed; simp only [List.cons_append, hoistB, marked, ih, Bool.and_assoc]

theorem closed_marked (l : List Nat) : ∀ listed, hoistB md ops l listed = true → Closed md ops listed → Closed md ops (marked listed l) := by
  induction l with
  | nil => intro _ _ h; exact h
  | cons i l ih =>
    intro listed hB hc
    simp only [hoistB, Bool.and_eq_true] at hB
    exact ih _ hB.2 (hc.set (by simpa using hB.1.1.1))

theorem hoist1 {h1 h2 : List Nat} (hsel : Region.noSelect ops = true) (hQ : ∀ c a w d v, Q (.panic c) (a.put d v) w → Q (.panic c) a w) {Qa : Act → Prop} {w : World} {fuel : Nat} :
    ∀ (l : List Nat) (lo : List Oper) (listed : Array Bool) (a : Act), (∀ i ∈ l, i ∈ h1) → l.map (fun i => ops[i]?) = lo.map some → hoistB md ops l listed = true →
      (∀ a', Qa a' → wpM P md ops Q C h1 h2 fuel (marked listed l) a' w) → wpQuiet P ops (fun _ => True) Qa lo a → wpM P md ops Q C h1 h2 (fuel + l.length) listed a w := by
  intro l
  induction l with
  | nil => intro lo listed a _ hm _ hk h; cases lo with | nil => exact hk a h | cons _ _ => simp at hm
  | cons i l ih =>
    intro lo listed a hmem hm hB hk h
    cases lo with
    | nil => simp at hm
    | cons o lo =>
      simp only [List.map_cons, List.cons.injEq] at hm
      obtain ⟨ho, hm⟩ := hm
      simp only [hoistB, Bool.and_eq_true, ho] at hB
      obtain ⟨⟨⟨hr, hf⟩, hh⟩, hB⟩ := hB
      have ih' := fun a' h' => ih lo (listed.setIfInBounds i true) a' (fun j hj => hmem j (List.mem_cons_of_mem _ hj)) hm hB hk h'
      rw [List.length_cons, show fuel + (l.length + 1) = (fuel + l.length) + 1 by omega]
      unfold wpQuiet at h
      split at h
      · rename_i hw
        obtain ⟨v, hq, hn⟩ := h
        exact wpM_first1 ho (hmem i (by simp)) (Region.noSelect_spec hsel) (fun c a w => hQ c a w _ _) _ _ _ _ (Region.free_spec ho hf) (by simpa using hr) (.inl ⟨hw, fun w => quiet_run hh (hq w trivial)⟩) (ih' _ hn)
      · rename_i hw
        exact wpM_first1 ho (hmem i (by simp)) (Region.noSelect_spec hsel) (fun c a w => hQ c a w _ _) _ _ _ _ (Region.free_spec ho hf) (by simpa using hr) (.inr ⟨by simpa using hw, rfl⟩) (ih' _ h)

theorem hoist2 {h1 h2 : List Nat} (hsel : Region.noSelect ops = true) (hQ : ∀ c a w d v, Q (.panic c) (a.put d v) w → Q (.panic c) a w) (hC : ∀ w w', C w → Below w.heap.size w w' → C w')
    (h12 : ∀ i ∈ h2, i ∉ h1) (htail : ∀ j oj, ops[j]? = some oj → j ∉ h1 → j ∉ h2 → newOp oj.op = true ∨ ∀ i ∈ h2, anc md ops ops.size j i = true) {Qa : Act → Prop} {w : World} (hw : C w) {fuel : Nat} :
    ∀ (l : List Nat) (lo : List Oper) (listed : Array Bool) (a : Act), (∀ i ∈ l, i ∈ h2) → l.map (fun i => ops[i]?) = lo.map some → hoistB md ops l listed = true → Closed md ops listed →
      (∀ a', Qa a' → wpM P md ops Q C h1 h2 fuel (marked listed l) a' w) → wpQuiet P ops C Qa lo a → wpM P md ops Q C h1 h2 (fuel + l.length) listed a w := by
  intro l
  induction l with
  | nil => intro lo listed a _ hm _ _ hk h; cases lo with | nil => exact hk a h | cons _ _ => simp at hm
  | cons i l ih =>
    intro lo listed a hmem hm hB hc hk h
    cases lo with
    | nil => simp at hm
    | cons o lo =>
      simp only [List.map_cons, List.cons.injEq] at hm
      obtain ⟨ho, hm⟩ := hm
      simp only [hoistB, Bool.and_eq_true, ho] at hB
      obtain ⟨⟨⟨hr, hf⟩, hh⟩, hB⟩ := hB
      have hr' : i ∈ Region.ready md ops listed := by simpa using hr
      have ih' := fun a' h' => ih lo (listed.setIfInBounds i true) a' (fun j hj => hmem j (List.mem_cons_of_mem _ hj)) hm hB (hc.set hr') hk h'
      have hi2 := hmem i (by simp)
      have ht : ∀ j oj, ops[j]? = some oj → j ∉ h1 → j ∉ h2 → newOp oj.op = true ∨ anc md ops ops.size j i = true := fun j oj hj a b => (htail j oj hj a b).imp id (fun h => h i hi2)
      rw [List.length_cons, show fuel + (l.length + 1) = (fuel + l.length) + 1 by omega]
      unfold wpQuiet at h
      split at h
      · rename_i hwant
        obtain ⟨v, hq, hn⟩ := h
        exact wpM_first2 ho (h12 i hi2) hi2 (Region.noSelect_spec hsel) (fun c a w => hQ c a w _ _) hC ht _ _ _ _ (Region.free_spec ho hf) hc hr' (.inl ⟨hwant, fun w hw => quiet_run hh (hq w hw)⟩) hw (ih' _ hn)
      · rename_i hwant
        exact wpM_first2 ho (h12 i hi2) hi2 (Region.noSelect_spec hsel) (fun c a w => hQ c a w _ _) hC ht _ _ _ _ (Region.free_spec ho hf) hc hr' (.inr ⟨by simpa using hwant, rfl⟩) hw (ih' _ h)

theorem wpM_seq {h1 h2 : List Nat} : ∀ (l : List Nat) (lo : List Oper) (listed : Array Bool) (a : Act) (w : World), (∀ i ∈ l, i ∉ h1 ∧ i ∉ h2) → l.map (fun i => ops[i]?) = lo.map some → seqL md ops l listed = true →
    wpList P ops Q lo a w → wpM P md ops Q C h1 h2 l.length listed a w := by
  intro l
  induction l with
  | nil => intro lo listed a w _ hm hB h; cases lo with | nil => exact ⟨by simpa [seqL] using hB, h⟩ | cons _ _ => simp at hm
  | cons i l ih =>
    intro lo listed a w hmem hm hB h
    cases lo with
    | nil => simp at hm
    | cons o lo =>
      simp only [List.map_cons, List.cons.injEq] at hm
      obtain ⟨ho, hm⟩ := hm
      simp only [seqL, Bool.and_eq_true, decide_eq_true_eq] at hB
      refine ⟨fun h1 => (by rw [hB.1] at h1; cases h1), fun j hj => ?_⟩
      rw [hB.1] at hj
      have hji : j = i := by simpa using hj
      subst hji
      have hn := hmem j (by simp)
      rw [if_neg hn.1, if_neg hn.2]
      have hw : wpOp P ops Q j (wpList P ops Q lo) a w := by unfold wpOp; simp only [ho]; exact h
      exact wpOp_mono (fun a' w' h' => ih lo _ a' w' (fun k hk => hmem k (List.mem_cons_of_mem _ hk)) hm hB.2 h') hw

theorem pick_map {l : List Oper} : ∀ (h : List Nat), (∀ i ∈ h, i < l.length) → h.map (fun i => l.toArray[i]?) = (pick l h).map some := by
  intro h
  induction h with
  | nil => intro _; rfl
  | cons i h ih =>
    intro hlt
    have hi := hlt i (by simp)
    have e : l[i]? = some l[i] := List.getElem?_eq_getElem hi
    have ih' := ih fun j hj => hlt j (List.mem_cons_of_mem _ hj)
    have e2 : pick l (i :: h) = l[i] :: pick l h := by simp [pick, e]
    rw [e2, List.map_cons, List.map_cons, ih', ← e]
    simp

theorem hoistB_lt : ∀ (l : List Nat) (listed : Array Bool), hoistB md ops l listed = true → ∀ i ∈ l, i < ops.size := by
  intro l
  induction l with
  | nil => intro _ _ i hi; cases hi
  | cons j l ih =>
    intro listed hB i hi
    simp only [hoistB, Bool.and_eq_true] at hB
    rcases List.mem_cons.1 hi with rfl | hi
    · cases ho : ops[i]? with
      | none => simp [ho] at hB
      | some o => exact (Array.getElem?_eq_some_iff.1 ho).1
    · exact ih _ hB.2 i hi

theorem seqL_lt : ∀ (l : List Nat) (listed : Array Bool), seqL md ops l listed = true → ∀ i ∈ l, i < ops.size := by
  intro l
  induction l with
  | nil => intro _ _ i hi; cases hi
  | cons j l ih =>
    intro listed hB i hi
    simp only [seqL, Bool.and_eq_true, decide_eq_true_eq] at hB
    rcases List.mem_cons.1 hi with rfl | hi
    · have : i ∈ Region.ready md ops listed := by rw [hB.1]; simp
      obtain ⟨_, o, ho, _⟩ := mem_ready.1 this
      exact (Array.getElem?_eq_some_iff.1 ho).1
    · exact ih _ hB.2 i hi

/-- Behind a region: what follows, as a variable; no panic. -/
def Only (K : Act → World → Prop) : Exit → Act → World → Prop
  | .normal, a, w => K a w
  | _, _, _ => False

theorem any_mix {a : Act} {w : World} {l : List Oper} (h1 h2 ts : List Nat) (C : World → Prop) (hB : mixB .any l.toArray h1 h2 ts = true)
    (hC : ∀ w w', C w → Below w.heap.size w w' → C w') (hw : C { w with drawn := w.drawn + 1 })
    (h : ∀ K : Act → World → Prop, (∀ a w, Q .normal a w → K a w) → wpQuiet P l.toArray (fun _ => True) (fun a1 => wpQuiet P l.toArray C (fun a2 => wpList P l.toArray (Only K) (pick l ts) a2 { w with drawn := w.drawn + 1 }) (pick l h2) a1) (pick l h1) a) :
    wpAny P .any l.toArray (Only fun a w => Q .normal a w) l.toArray.size (Array.replicate l.toArray.size false) a { w with drawn := w.drawn + 1 } := by
  have H := h (fun a w => Q .normal a w) fun _ _ h => h
  simp only [mixB, Bool.and_eq_true, decide_eq_true_eq] at hB
  obtain ⟨⟨⟨⟨⟨⟨hsel, h12⟩, hts⟩, htail⟩, hh⟩, hseq⟩, hlen⟩ := hB
  have h12' : ∀ i ∈ h2, i ∉ h1 := fun i hi => by simpa using List.all_eq_true.1 h12 i hi
  have hts' : ∀ i ∈ ts, i ∉ h1 ∧ i ∉ h2 := fun i hi => by simpa using List.all_eq_true.1 hts i hi
  have htail' : ∀ j oj, l.toArray[j]? = some oj → j ∉ h1 → j ∉ h2 → newOp oj.op = true ∨ ∀ i ∈ h2, anc .any l.toArray l.toArray.size j i = true := fun j oj hj n1 n2 => by
    have h3 := List.all_eq_true.1 htail j (List.mem_range.2 (Array.getElem?_eq_some_iff.1 hj).1)
    simp only [hj, Bool.or_eq_true, List.contains_iff_mem, n1, n2, false_or] at h3
    rcases h3 with h3 | h3
    · exact .inl h3
    · exact .inr fun i hi => List.all_eq_true.1 h3 i hi
  rw [hoistB_append, Bool.and_eq_true] at hh
  rw [marked_append] at hseq
  have lt1 := hoistB_lt _ _ hh.1
  have lt2 := hoistB_lt _ _ hh.2
  have lt3 := seqL_lt _ _ hseq
  have hQ' : ∀ c a w d v, Only (fun a w => Q .normal a w) (.panic c) (a.put d v) w → Only (fun a w => Q .normal a w) (.panic c) a w := fun _ _ _ _ _ h => h
  have cl0 : Closed .any l.toArray (Array.replicate l.toArray.size false) := fun j oj _ hl => by rw [getD_replicate_false] at hl; cases hl
  have cl1 := closed_marked _ _ hh.1 cl0
  refine wpAny_of_M (C := C) (h1 := h1) (h2 := h2) _ _ _ _ ?_
  have key : wpM P .any l.toArray (Only fun a w => Q .normal a w) C h1 h2 (ts.length + h2.length + h1.length) (Array.replicate l.toArray.size false) a { w with drawn := w.drawn + 1 } := ?_
  · have e : l.toArray.size = ts.length + h2.length + h1.length := by omega
    have e2 : ∀ n, n = ts.length + h2.length + h1.length → wpM P .any l.toArray (Only fun a w => Q .normal a w) C h1 h2 n (Array.replicate l.toArray.size false) a { w with drawn := w.drawn + 1 } := fun n hn => hn ▸ key
    exact e2 _ e
  refine hoist1 hsel hQ' h1 (pick l h1) _ a (fun i hi => hi) (pick_map h1 (by simpa using lt1)) hh.1 (fun a1 H1 => ?_) H
  refine hoist2 hsel hQ' hC h12' htail' hw h2 (pick l h2) _ a1 (fun i hi => hi) (pick_map h2 (by simpa using lt2)) hh.2 cl1 (fun a2 H2 => ?_) H1
  exact wpM_seq ts (pick l ts) _ a2 _ hts' (pick_map ts (by simpa using lt3)) hseq H2

theorem wp_region_mix {id : Nat} {a : Act} {w : World} {l : List Oper} (h1 h2 ts : List Nat) (C : World → Prop) (hm : P.follows .mixedOrders = true) (hB : mixB .any l.toArray h1 h2 ts = true)
    (hC : ∀ w w', C w → Below w.heap.size w w' → C w') (hw : C { w with drawn := w.drawn + 1 })
    (h : ∀ K : Act → World → Prop, (∀ a w, Q .normal a w → K a w) → wpQuiet P l.toArray (fun _ => True) (fun a1 => wpQuiet P l.toArray C (fun a2 => wpList P l.toArray (Only K) (pick l ts) a2 { w with drawn := w.drawn + 1 }) (pick l h2) a1) (pick l h1) a) :
    (Code.region id l.toArray true).wp P Q a w := by
  refine Code.wp_mono (Q := Only fun a w => Q .normal a w) (fun e a w h => by cases e <;> first | exact h | exact h.elim) ?_
  exact wp_region_any hm (any_mix h1 h2 ts C hB hC hw h)

/-- The worlds that are w but for new blocks and draws. -/
def Lat (w : World) : Type := { w' : World // Below w.heap.size w w' }
def Lat.w {w : World} (n : Lat w) : World := n.val
theorem Lat.below {w : World} (n : Lat w) : Below w.heap.size w n.w := n.property
def Lat.here (w : World) : Lat w := ⟨w, Below.refl _ _⟩
instance (w : World) : Nonempty (Lat w) := ⟨Lat.here w⟩
def Lat.drew (w : World) : Lat w := ⟨w.drew, (Below.refl _ _).drew⟩

theorem lat_cell {w : World} {p : Addr} {v : Value} (h : w.cell? p = some v) (n : Lat w) : n.w.cell? p = some v :=
  (n.below.cell (World.block_lt_of_cell? w p h)).trans h
theorem lat_block {w : World} {b : Nat} {o : Obj} (h : w.heap[b]? = some o) (n : Lat w) : n.w.heap[b]? = some o :=
  (n.below.block b (Array.getElem?_eq_some_iff.1 h).1).trans h
theorem lat_call {w : World} {f : FuncId} {args : Array Value} {n : Lat w} {v : Value} (h : Calls P f args n.w fun e w' => e = .returned v ∧ Below n.w.heap.size n.w w') :
    Calls P f args n.w fun e w' => e = .returned v ∧ ∃ m : Lat w, w' = m.w :=
  h.mono fun _ w' ⟨he, hb⟩ => ⟨he, ⟨w', n.below.trans (hb.mono n.below.size)⟩, rfl⟩
theorem lat_call_same {w : World} {f : FuncId} {args : Array Value} {n : Lat w} {v : Value} (h : Calls P f args n.w fun e w' => e = .returned v ∧ n.w = w') :
    Calls P f args n.w fun e w' => e = .returned v ∧ ∃ m : Lat w, w' = m.w :=
  h.mono fun _ _ ⟨he, hb⟩ => ⟨he, n, hb.symm⟩

/-- Some operations first (those of h1 look at no memory), then a forced chain. -/
theorem wp_region_mixL {id : Nat} {a : Act} {w : World} {l : List Oper} (h1 h2 ts : List Nat) (hm : P.follows .mixedOrders = true) (hB : mixB .any l.toArray h1 h2 ts = true)
    (h : ∀ K : Act → World → Prop, (∀ a w, Q .normal a w → K a w) → wpQuiet P l.toArray (fun _ => True) (fun a1 => wpQuiet P l.toArray (fun w' => ∃ n : Lat w, w' = n.w) (fun a2 => wpList P l.toArray (Only K) (pick l ts) a2 w.drew) (pick l h2) a1) (pick l h1) a) :
    (Code.region id l.toArray true).wp P Q a w :=
  wp_region_mix h1 h2 ts (fun w' => ∃ n : Lat w, w' = n.w) hm hB (fun _ w2 ⟨n, e⟩ hb => by subst e; exact ⟨⟨w2, n.below.trans (hb.mono n.below.size)⟩, rfl⟩) ⟨Lat.drew w, rfl⟩ h

/-- Every operation reads, or calls what lays new memory alone. -/
theorem wp_region_quietL {id : Nat} {a : Act} {w : World} {l : List Oper} (hm : P.follows .mixedOrders = true) (hB : Region.lexB .any l.toArray = true)
    (h : wpQuiet P l.toArray (fun w' => ∃ n : Lat w, w' = n.w) (fun a' => ∀ n : Lat w, Q .normal a' n.w) l a) : (Code.region id l.toArray true).wp P Q a w :=
  wp_region_quiet (C := fun w' => ∃ n : Lat w, w' = n.w) hm hB ⟨Lat.drew w, rfl⟩ (by
    have e : (fun a' => ∀ w', (∃ n : Lat w, w' = n.w) → Q .normal a' w') = fun a' => ∀ n : Lat w, Q .normal a' n.w := by
      funext a'
      exact propext ⟨fun h n => h _ ⟨n, rfl⟩, fun h w' ⟨n, e⟩ => e ▸ h n⟩
    rw [e]
    exact h)
end
end Go.Proofs.Yteeegomdaebobaa.Mix

-- ---- Own
/- Small laws on memory that a call makes for itself: what has changed between two worlds, rows that are owned, blocks that are known. No program in sight. -/
namespace Go.Proofs.Yteeegomdaebobaa.Own
set_option maxRecDepth 100000
set_option linter.unusedSimpArgs false
set_option linter.unusedVariables false
open Go Go.RowKit

/-- A fact that the walk does not see, nor unfold. -/
@[irreducible] def Kept (p : Prop) : Prop := p
theorem kept {p : Prop} (h : p) : Kept p := by unfold Kept; exact h
theorem Kept.out {p : Prop} (h : Kept p) : p := by unfold Kept at h; exact h

/-- The greater of two, the lesser of two, as Go's builtins reckon them. -/
def mx (x y : Int) : Int := if x < y then y else x
def mn (x y : Int) : Int := if y < x then y else x
theorem mx_eq (x y : Int) : mx x y = max x y := by unfold mx; omega
theorem mn_eq (x y : Int) : mn x y = min x y := by unfold mn; omega
theorem max_int (ats : Array TypeId) (ty : TypeId) (k k' : IntKind) (x y : Int) : Builtin.max_ ats ty #[.int k x, .int k' y] = pure (.int k (mx x y)) := by
  simp only [Builtin.max_, List.foldlM_cons, List.foldlM_nil, Builtin.max2, gt_iff_lt]
  rfl
theorem min_int (ats : Array TypeId) (ty : TypeId) (k k' : IntKind) (x y : Int) : Builtin.min_ ats ty #[.int k x, .int k' y] = pure (.int k (mn x y)) := by
  simp only [Builtin.min_, List.foldlM_cons, List.foldlM_nil, Builtin.min2]
  rfl

/-- Between w and w' blocks may have come, and of w's blocks only those in S have turned. -/
structure Chg (S : Nat → Prop) (w w' : World) : Prop where
  os : w'.os = w.os
  tape : w'.tape = w.tape
  output : w'.output = w.output
  size : w.heap.size ≤ w'.heap.size
  block : ∀ k, k < w.heap.size → ¬ S k → w'.heap[k]? = w.heap[k]?

theorem Chg.refl (S : Nat → Prop) (w : World) : Chg S w w := ⟨rfl, rfl, rfl, Nat.le_refl _, fun _ _ _ => rfl⟩
theorem Chg.mono {S S' : Nat → Prop} {w w' : World} (h : Chg S w w') (hs : ∀ k, k < w.heap.size → S k → S' k) : Chg S' w w' :=
  ⟨h.os, h.tape, h.output, h.size, fun k hk hn => h.block k hk fun hS => hn (hs k hk hS)⟩
theorem Chg.trans {S S2 : Nat → Prop} {a b c : World} (h : Chg S a b) (k : Chg S2 b c) (hs : ∀ k, k < a.heap.size → S2 k → S k) : Chg S a c :=
  ⟨k.os.trans h.os, k.tape.trans h.tape, k.output.trans h.output, Nat.le_trans h.size k.size, fun i hi hn => (k.block i (Nat.lt_of_lt_of_le hi h.size) fun h2 => hn (hs i hi h2)).trans (h.block i hi hn)⟩
theorem Chg.of_below {S : Nat → Prop} {w w' : World} (h : Below w.heap.size w w') : Chg S w w' := ⟨h.os, h.tape, h.output, h.size, fun k hk _ => h.block k hk⟩
theorem Chg.of_grown {w w' : World} {row : Option Nat} (h : w.grownBy w' row) : Chg (fun k => some k = row) w w' := ⟨h.os, h.tape, h.output, h.size, fun k hk hn => h.block k hk hn⟩
theorem Chg.below {S : Nat → Prop} {w w' : World} (h : Chg S w w') {B : Nat} (hB : B ≤ w.heap.size) (hs : ∀ k, k < B → ¬ S k) : Below B w w' :=
  ⟨h.os, h.tape, h.output, h.size, fun k hk => h.block k (Nat.lt_of_lt_of_le hk hB) (hs k hk)⟩
theorem Chg.keep {S : Nat → Prop} {w w' : World} (h : Chg S w w') {k : Nat} {o : Obj} (ho : w.heap[k]? = some o) (hn : ¬ S k) : w'.heap[k]? = some o :=
  (h.block k (Array.getElem?_eq_some_iff.1 ho).1 hn).trans ho
theorem Chg.setCell (w : World) (p : Addr) (v : Value) : Chg (fun k => k = p.block) w (w.setCell p v) :=
  ⟨rfl, rfl, rfl, by simp [World.setCell], fun k _ hn => Below.heap_setCell _ _ _ _ hn⟩
theorem Chg.alloc (S : Nat → Prop) (w : World) (o : Obj) : Chg S w (w.alloc o) := ⟨rfl, rfl, rfl, by simp, fun k hk _ => Below.heap_alloc _ _ _ hk⟩
theorem Chg.drew (S : Nat → Prop) (w : World) : Chg S w w.drew := ⟨rfl, rfl, rfl, Nat.le_refl _, fun _ _ _ => rfl⟩

theorem lt_of_some {w : World} {k : Nat} {o : Obj} (h : w.heap[k]? = some o) : k < w.heap.size := (Array.getElem?_eq_some_iff.1 h).1

/-- A block that is known whole. -/
abbrev Blk (w : World) (p : Nat) (cs : Array Value) (t : TypeId) : Prop := w.heap[p]? = some (.cells cs t (0, 0))

theorem Blk.cell {w : World} {p : Nat} {cs : Array Value} {t : TypeId} (h : Blk w p cs t) {i : Nat} {v : Value} (hv : cs[i]? = some v) : w.cell? ⟨p, i, none⟩ = some v := by
  simp [World.cell?, h, hv]
theorem Blk.free {w : World} {p : Nat} {cs : Array Value} {t : TypeId} (h : Blk w p cs t) (i : Nat) : w.frozen? ⟨p, i, none⟩ = false := by
  simp [World.frozen?, h]
theorem Blk.lt {w : World} {p : Nat} {cs : Array Value} {t : TypeId} (h : Blk w p cs t) : p < w.heap.size := lt_of_some h
theorem Blk.set {w : World} {p : Nat} {cs : Array Value} {t : TypeId} (h : Blk w p cs t) (i : Nat) (v : Value) : Blk (w.setCell ⟨p, i, none⟩ v) p (cs.setIfInBounds i v) t := by
  show (w.setCell ⟨p, i, none⟩ v).heap[p]? = _
  have h' : w.heap[p]? = some (.cells cs t (0, 0)) := h
  simp [World.setCell, Array.getElem?_modify, h']
theorem Blk.setOther {w : World} {p : Nat} {cs : Array Value} {t : TypeId} (h : Blk w p cs t) {a : Addr} (hn : p ≠ a.block) (v : Value) : Blk (w.setCell a v) p cs t :=
  (Below.heap_setCell w a v p hn).trans h
theorem Blk.alloc {w : World} {p : Nat} {cs : Array Value} {t : TypeId} (h : Blk w p cs t) (o : Obj) : Blk (w.alloc o) p cs t :=
  (Below.heap_alloc w o p h.lt).trans h
theorem Blk.fresh (w : World) (cs : Array Value) (t : TypeId) : Blk (w.alloc (.cells cs t)) w.heap.size cs t := heap_alloc_new w _
theorem Blk.fresh_at (w : World) (q : Nat) (hq : q = w.heap.size) (cs : Array Value) (t : TypeId) : Blk (w.alloc (.cells cs t)) q cs t := by subst hq; exact Blk.fresh w cs t
theorem Blk.ne {w : World} {p q : Nat} {cs ds : Array Value} {t u : TypeId} (h : Blk w p cs t) (k : Blk w q ds u) (hne : t ≠ u) : p ≠ q := by
  rintro rfl
  have := h.symm.trans k
  simp at this
  exact hne this.2

/-- v is a slice whose cells are xs, alone in a block of its own, or nil. -/
def Owns (w : World) (e : TypeId) (v : Value) (xs : List Value) : Prop := w.ownsRow 0 e 1 v xs.length xs

theorem Owns.nil (w : World) (e : TypeId) : Owns w e (.slice none 0 0) [] := World.ownsRow_nil w 0 e 1

theorem Owns.form {w : World} {e : TypeId} {v : Value} {xs : List Value} (h : Owns w e v xs) :
    (v = .slice none 0 0 ∧ xs = []) ∨ ∃ g cap cur, v = .slice (some ⟨g, 0, none⟩) xs.length cap ∧ Blk w g cur e ∧ xs.length ≤ cap ∧ cap ≤ maxLen ∧ cur.size = cap ∧ cur.toList.take xs.length = xs := by
  rcases h.2 with ⟨hv, hn⟩ | ⟨g, cap, cur, hv, _, hg, hc, hm, hs, ht⟩
  · exact .inl ⟨hv, List.length_eq_zero_iff.1 hn⟩
  · exact .inr ⟨g, cap, cur, hv, hg, hc, hm, by simpa using hs, by simpa using ht⟩

theorem Owns.mk {w : World} {e : TypeId} {g cap : Nat} {cur : Array Value} {xs : List Value} (hg : Blk w g cur e) (hc : xs.length ≤ cap) (hm : cap ≤ maxLen) (hs : cur.size = cap) (ht : cur.toList.take xs.length = xs) :
    Owns w e (.slice (some ⟨g, 0, none⟩) xs.length cap) xs :=
  ⟨by simp, .inr ⟨g, cap, cur, rfl, Nat.zero_le _, hg, hc, hm, by simpa using hs, by simpa using ht⟩⟩

theorem Owns.keep {w w' : World} {e : TypeId} {v : Value} {xs : List Value} (h : Owns w e v xs) (hk : ∀ g, v.ownBlock = some g → g < w.heap.size → w'.heap[g]? = w.heap[g]?) : Owns w' e v xs := by
  refine ⟨h.1, ?_⟩
  rcases h.2 with hn | ⟨g, cap, cur, rfl, hb, hgg, rest⟩
  · exact .inl hn
  · exact .inr ⟨g, cap, cur, rfl, hb, (hk g rfl (lt_of_some hgg)).trans hgg, rest⟩
theorem Owns.chg {w w' : World} {S : Nat → Prop} {e : TypeId} {v : Value} {xs : List Value} (h : Owns w e v xs) (hc : Chg S w w') (hn : ∀ g, v.ownBlock = some g → ¬ S g) : Owns w' e v xs :=
  h.keep fun g hg hl => hc.block g hl (hn g hg)
theorem Owns.alloc {w : World} {e : TypeId} {v : Value} {xs : List Value} (h : Owns w e v xs) (o : Obj) : Owns (w.alloc o) e v xs :=
  h.keep fun g _ hl => Below.heap_alloc w o g hl
theorem Owns.drew {w : World} {e : TypeId} {v : Value} {xs : List Value} (h : Owns w e v xs) : Owns w.drew e v xs := h
theorem Owns.setOther {w : World} {e : TypeId} {v : Value} {xs : List Value} (h : Owns w e v xs) {a : Addr} (hn : v.ownBlock ≠ some a.block) (u : Value) : Owns (w.setCell a u) e v xs :=
  h.keep fun g hg _ => Below.heap_setCell w a u g fun e => hn (by rw [hg, e])

theorem Owns.lt {w : World} {e : TypeId} {v : Value} {xs : List Value} (h : Owns w e v xs) : ∀ g, v.ownBlock = some g → g < w.heap.size := fun g hg => (World.ownsRow.lt h g hg).2
theorem Owns.blk {w : World} {e : TypeId} {v : Value} {xs : List Value} (h : Owns w e v xs) : ∀ g, v.ownBlock = some g → ∃ cur, Blk w g cur e := by
  intro g hg
  rcases h.form with ⟨rfl, _⟩ | ⟨g', cap, cur, rfl, hb, _⟩
  · simp [Value.ownBlock] at hg
  · simp [Value.ownBlock] at hg; subst hg; exact ⟨cur, hb⟩
/-- An owned row lies elsewhere than a block of another type. -/
theorem Owns.ne {w : World} {e t : TypeId} {v : Value} {xs : List Value} {p : Nat} {cs : Array Value} (h : Owns w e v xs) (k : Blk w p cs t) (hne : e ≠ t) : v.ownBlock ≠ some p := by
  intro hg
  obtain ⟨cur, hb⟩ := h.blk p hg
  exact hb.ne k hne rfl

theorem Owns.row {w : World} {e : TypeId} {v : Value} {xs : List Value} (h : Owns w e v xs) (hx : xs ≠ []) : ∃ g cap, v = .slice (some ⟨g, 0, none⟩) xs.length cap ∧ xs.length ≤ cap ∧ g < w.heap.size := by
  rcases h.form with ⟨_, rfl⟩ | ⟨g, cap, cur, rfl, hb, hc, _⟩
  · exact absurd rfl hx
  · exact ⟨g, cap, rfl, hc, hb.lt⟩

theorem Owns.cell {w : World} {e : TypeId} {g n cap : Nat} {xs : List Value} (h : Owns w e (.slice (some ⟨g, 0, none⟩) n cap) xs) {j : Nat} {u : Value} (hu : xs[j]? = some u) : w.cell? ⟨g, j, none⟩ = some u := by
  have hn : n = xs.length := by
    rcases h.form with ⟨hv, _⟩ | ⟨_, _, _, hv, _⟩
    · simp at hv
    · simp at hv; exact hv.2.1
  subst hn
  have hj : j < xs.length := (List.getElem?_eq_some_iff.1 hu).1
  rw [World.ownsRow.cellAt h j (by omega), hu]
theorem Owns.free {w : World} {e : TypeId} {g n cap : Nat} {xs : List Value} (h : Owns w e (.slice (some ⟨g, 0, none⟩) n cap) xs) (j : Nat) : w.frozen? ⟨g, j, none⟩ = false := by
  obtain ⟨cur, hb⟩ := h.blk g rfl
  exact hb.free j
theorem Owns.store {w : World} {e : TypeId} {g n cap : Nat} {xs : List Value} (h : Owns w e (.slice (some ⟨g, 0, none⟩) n cap) xs) (j : Nat) (u : Value) :
    Owns (w.setCell ⟨g, j, none⟩ u) e (.slice (some ⟨g, 0, none⟩) n cap) (xs.set j u) := by
  rcases h.form with ⟨hv, _⟩ | ⟨g', cap', cur, hv, hb, hc, hm, hs, ht⟩
  · simp at hv
  · simp only [Value.slice.injEq, Option.some.injEq, Addr.mk.injEq, and_true] at hv
    obtain ⟨rfl, rfl, rfl⟩ := hv
    have := hb.set j u
    have h2 := Owns.mk (xs := xs.set j u) this (by simpa using hc) hm (by simpa using hs) (by
      rw [List.length_set, Array.toList_setIfInBounds, List.take_set, ht])
    simpa using h2

theorem Owns.length {w : World} {e : TypeId} {a : Option Addr} {n cap : Nat} {xs : List Value} (h : Owns w e (.slice a n cap) xs) : n = xs.length := by
  rcases h.form with ⟨hv, hx⟩ | ⟨g', cap', cur, hv, _⟩
  · simp at hv; simp [hx, hv]
  · simp at hv; exact hv.2.1

section
variable {P : Program} {w : World}

/-- 'append' onto what the call owns: where the result lies. Sizes of one cell. -/
theorem run_append_at (t ty e : TypeId) (i : TypeInfo) (z : Value) (bytes : Nat) (ht : P.underlying t = some (.slice e)) (hi : P.info? e = some i) (hz : i.zero = some z)
    (hsize : i.size = 1) (hby : i.bytes = bytes) (hzs : z.cells.size = 1)
    (v : Value) (xs : List Value) (hown : Owns w e v xs)
    (a : Addr) (m c : Nat) (news : List Value) (hl : news.length = m) (hnews : ∀ j u, news[j]? = some u → w.cell? (a.add j) = some u) (h1 : ∀ u ∈ news, u.oneCell' = true)
    (h63 : xs.length + m ≤ maxLen) (hbytes : (xs.length + m) * bytes ≤ 140737488355328) :
    ∃ v' w', (Builtin.append_ #[t, t] ty #[v, .slice (some a) m c]).run P w = .ok v' w' ∧ Owns w' e v' (xs ++ news) ∧ w.grownBy w' v.ownBlock ∧
      (∀ g, v'.ownBlock = some g → some g = v.ownBlock ∨ w.heap.size ≤ g) := by
  have hl1 : news.length = m * 1 := by omega
  obtain ⟨v', w', hr, ho, hg, _⟩ := run_append_own (P := P) w 0 t ty e i z 1 bytes ht hi hz hsize hby hzs (by decide) v xs.length xs hown a m c news hl1 hnews h1 h63 hbytes (Nat.zero_le _)
  refine ⟨v', w', hr, ?_, hg, ?_⟩
  · unfold Owns
    rw [List.length_append, hl]
    exact ho
  · intro g hgv
    rcases hown.form with ⟨rfl, hx⟩ | ⟨g0, cap, cur, rfl, hb, hc, hm, hs, htk⟩
    · right
      subst hx
      obtain ⟨v2, w2, hr2, ho2, _, _⟩ := run_append_own (P := P) w w.heap.size t ty e i z 1 bytes ht hi hz hsize hby hzs (by decide) (.slice none 0 0) 0 [] (World.ownsRow_nil w _ e 1) a m c news hl1 hnews h1 (by simpa using h63) (by simpa using hbytes) (Nat.le_refl _)
      have e1 := hr.symm.trans hr2
      simp only [Result.ok.injEq] at e1
      rw [e1.1] at hgv
      exact (ho2.lt g hgv).1
    · by_cases hroom : xs.length + m ≤ cap
      · left
        have hr3 := run_append_room (P := P) w t ty e i ht hi g0 xs.length cap cur hb a m c news (by rw [hsize]; exact hl1) hnews h1 hroom (by rw [hsize, hs, hl]; omega)
        have e1 := hr.symm.trans hr3
        simp only [Result.ok.injEq] at e1
        rw [e1.1] at hgv
        exact hgv.symm
      · right
        have holds : ∀ j u, xs[j]? = some u → w.cell? ((⟨g0, 0, none⟩ : Addr).add j) = some u := World.ownsRow.cells hown (g := g0) rfl
        have hr3 := run_append_grow (P := P) w t ty e i z ht hi hz ⟨g0, 0, none⟩ xs.length cap xs (by rw [hsize]; omega) holds a m c news (by rw [hsize]; exact hl1) hnews (by omega) (by simp only [maxLen] at h63; omega) (growslice_fits (by omega) (by rw [hby]; exact hbytes))
        have e1 := hr.symm.trans hr3
        simp only [Result.ok.injEq] at e1
        rw [e1.1] at hgv
        simp [Value.ownBlock] at hgv
        omega

/-- The law at the operation. -/
theorem wpList_app {ops : Array Oper} {rest : List Oper} {o : Oper} {a : Act} {Q : Exit → Act → World → Prop} (hgd : o.guard = none) (s x : Operand) (t : TypeId)
    (ho : o.op = .call { callee := .builtin .append, args := #[s, x], argTypes := #[t, t] })
    (e : TypeId) (i : TypeInfo) (z : Value) (bytes : Nat) (ht : P.underlying t = some (.slice e)) (hi : P.info? e = some i) (hz : i.zero = some z)
    (hsize : i.size = 1) (hby : i.bytes = bytes) (hzs : z.cells.size = 1)
    (v : Value) (xs : List Value) (hs : a.eval s = v) (hown : Owns w e v xs)
    (ad : Addr) (m c : Nat) (news : List Value) (hx : a.eval x = .slice (some ad) m c) (hl : news.length = m) (hnews : ∀ j u, news[j]? = some u → w.cell? (ad.add j) = some u) (h1 : ∀ u ∈ news, u.oneCell' = true)
    (h63 : xs.length + m ≤ maxLen) (hbytes : (xs.length + m) * bytes ≤ 140737488355328)
    (h : ∀ v' w', Owns w' e v' (xs ++ news) → Chg (fun k => some k = v.ownBlock) w w' → (∀ g, v'.ownBlock = some g → some g = v.ownBlock ∨ w.heap.size ≤ g) → wpList P ops Q rest (a.put o.dst v') w') : wpList P ops Q (o :: rest) a w :=
  wpList_plain hgd fun K hK => by
    obtain ⟨v', w', hr, h2, h3, h4⟩ := run_append_at (P := P) t o.type e i z bytes ht hi hz hsize hby hzs v xs hown ad m c news hl hnews h1 h63 hbytes
    unfold Oper.wp execOp
    simp only [ho, resolve, invoke, builtin, Sem.run_bind, Sem.run_pure, Result.andThen_ok, List.map_toArray, List.map_cons, List.map_nil, hs, hx, hr]
    exact hK _ _ (h v' w' h2 (Chg.of_grown h3) h4)

/-- The same, of one element that lies in a new block. -/
theorem wpList_app1 {ops : Array Oper} {rest : List Oper} {o : Oper} {a : Act} {Q : Exit → Act → World → Prop} (hgd : o.guard = none) (s x : Operand) (t : TypeId)
    (ho : o.op = .call { callee := .builtin .append, args := #[s, x], argTypes := #[t, t] })
    (e : TypeId) (i : TypeInfo) (z : Value) (bytes : Nat) (ht : P.underlying t = some (.slice e)) (hi : P.info? e = some i) (hz : i.zero = some z)
    (hsize : i.size = 1) (hby : i.bytes = bytes) (hzs : z.cells.size = 1)
    (v : Value) (xs : List Value) (u : Value) (hs : a.eval s = v) (hown : Owns w e v xs) (h1 : u.oneCell' = true)
    (hx : a.eval x = .slice (some ⟨w.heap.size, 0, none⟩) 1 1)
    (h63 : xs.length + 1 ≤ maxLen) (hbytes : (xs.length + 1) * bytes ≤ 140737488355328)
    (h : ∀ v' w', Owns w' e v' (xs ++ [u]) → Chg (fun k => some k = v.ownBlock) w w' → (∀ g, v'.ownBlock = some g → some g = v.ownBlock ∨ w.heap.size ≤ g) → wpList P ops Q rest (a.put o.dst v') w') :
    wpList P ops Q (o :: rest) a (w.alloc (.cells #[u] e)) :=
  wpList_app (w := w.alloc (.cells #[u] e)) hgd s x t ho e i z bytes ht hi hz hsize hby hzs v xs hs (hown.alloc _) ⟨w.heap.size, 0, none⟩ 1 1 [u] hx rfl
    (fun j y hj => by
      match j, hj with
      | 0, hj => simp at hj; subst hj; simp [Addr.add])
    (fun y hy => by simp at hy; subst hy; exact h1) h63 hbytes
    (fun v' w' k1 k2 k3 => h v' w' k1 ((Chg.alloc _ w _).trans k2 fun _ _ h => h) fun g hg => (k3 g hg).imp id fun h => by simp at h; omega)

/-- 'make([]T, n)', the elements of one cell. -/
theorem wpList_mk1 {ops : Array Oper} {rest : List Oper} {o : Oper} {a : Act} {Q : Exit → Act → World → Prop} (hgd : o.guard = none) (l c : Operand) (t : TypeId) (ho : o.op = Op.makeSlice t l c)
    (e : TypeId) (i : TypeInfo) (z : Value) (bytes : Nat) (ht : P.underlying t = some (.slice e)) (hi : P.info? e = some i) (hz : i.zero = some z) (hsize : i.size = 1) (hby : i.bytes = bytes) (hzs : z.cells = #[z])
    (kl kc : IntKind) (L C : Int) (n : Nat) (hl : a.eval l = .int kl L) (hc : a.eval c = .int kc C) (hL : L = (n : Int)) (hC : C = (n : Int)) (b2 : bytes * n ≤ 281474976710656) (b3 : n ≤ maxLen)
    (h : ∀ w', Owns w' e (.slice (some ⟨w.heap.size, 0, none⟩) n n) (List.replicate n z) → Below w.heap.size w w' → w.heap.size < w'.heap.size → wpList P ops Q rest (a.put o.dst (.slice (some ⟨w.heap.size, 0, none⟩) n n)) w') :
    wpList P ops Q (o :: rest) a w := by
  refine wpList_make_full w hgd l c t ho 0 e i z 1 ht hi hz hsize kl kc L C n hl hc hL hC (by rw [hby]; exact b2) b3 (Nat.zero_le _) fun w' hown hg => ?_
  rw [hzs, Nat.mul_one, toList_madeCells_one] at hown
  have ho2 : Owns w' e (.slice (some ⟨w.heap.size, 0, none⟩) n n) (List.replicate n z) := by
    unfold Owns
    rw [List.length_replicate]
    exact hown
  exact h w' ho2 ⟨hg.os, hg.tape, hg.output, hg.size, fun k hk => hg.block k hk (by simp)⟩ (ho2.lt _ rfl)
end

theorem Owns.slice {w : World} {e : TypeId} {v : Value} {xs : List Value} (h : Owns w e v xs) : ∃ a cap, v = .slice a xs.length cap ∧ (xs ≠ [] → ∃ g, a = some ⟨g, 0, none⟩) := by
  rcases h.form with ⟨rfl, rfl⟩ | ⟨g, cap, cur, rfl, _⟩
  · exact ⟨none, 0, rfl, fun h => absurd rfl h⟩
  · exact ⟨_, cap, rfl, fun _ => ⟨g, rfl⟩⟩
end Go.Proofs.Yteeegomdaebobaa.Own

-- ---- Bits
/- Rows of bits and their bytes: plain facts on lists and numbers. No program in sight. -/
namespace Go.Proofs.Yteeegomdaebobaa.Bits
set_option maxRecDepth 100000
set_option linter.unusedSimpArgs false
set_option linter.unusedVariables false
open Go

def ofBits : List Bool → Nat
  | [] => 0
  | b :: t => b.toNat + 2 * ofBits t

theorem testBit_ofBits (l : List Bool) : ∀ i, (ofBits l).testBit i = l.getD i false := by
  induction l with
  | nil => intro i; simp [ofBits]
  | cons b t ih =>
    intro i
    cases i with
    | zero => simp only [ofBits, Nat.testBit_zero]; cases b <;> simp <;> omega
    | succ i =>
      have e : (b.toNat + 2 * ofBits t) / 2 = ofBits t := by cases b <;> simp <;> omega
      simp only [ofBits, Nat.testBit_succ, e, ih, List.getD_cons_succ]

theorem ofBits_lt (l : List Bool) : ofBits l < 2 ^ l.length := by
  induction l with
  | nil => simp [ofBits]
  | cons b t ih =>
    simp only [ofBits, List.length_cons, Nat.pow_succ]
    cases b <;> simp <;> omega

/-- The lowest n bits of a number, the lowest first. -/
def bitsOf (v n : Nat) : List Bool := (List.range n).map v.testBit

@[simp] theorem length_bitsOf (v n : Nat) : (bitsOf v n).length = n := by simp [bitsOf]
theorem bitsOf_succ (v n : Nat) : bitsOf v (n + 1) = bitsOf v n ++ [v.testBit n] := by simp [bitsOf, List.range_succ]
/-- Byte k of a row of bits. -/
def byteAt (l : List Bool) (k : Nat) : Nat := ofBits ((l.drop (8 * k)).take 8)

theorem testBit_byteAt (l : List Bool) (k j : Nat) : (byteAt l k).testBit j = (decide (j < 8) && l.getD (8 * k + j) false) := by
  rw [byteAt, testBit_ofBits, List.getD_eq_getElem?_getD, List.getElem?_take]
  by_cases h : j < 8
  · simp [h, List.getElem?_drop]
  · simp [h]

theorem byteAt_lt (l : List Bool) (k : Nat) : byteAt l k < 256 := by
  have h := ofBits_lt ((l.drop (8 * k)).take 8)
  have h2 : ((l.drop (8 * k)).take 8).length ≤ 8 := by simp; omega
  have h3 : 2 ^ ((l.drop (8 * k)).take 8).length ≤ 2 ^ 8 := Nat.pow_le_pow_right (by decide) h2
  have h4 : byteAt l k = ofBits ((l.drop (8 * k)).take 8) := rfl
  omega

theorem getD_snoc (l : List Bool) (b : Bool) (i : Nat) : (l ++ [b]).getD i false = if i = l.length then b else l.getD i false := by
  simp only [List.getD_eq_getElem?_getD]
  rcases Nat.lt_trichotomy i l.length with h | h | h
  · rw [List.getElem?_append_left h, if_neg (by omega)]
  · subst h; simp
  · rw [if_neg (by omega), List.getElem?_append_right (by omega), List.getElem?_eq_none (by simp; omega), List.getElem?_eq_none (by omega)]

theorem testBit_bool (b : Bool) (n j : Nat) : (b.toNat * 2 ^ n).testBit j = (b && decide (j = n)) := by
  cases b
  · simp
  · simp [Nat.testBit_two_pow, eq_comm]

theorem byteAt_snoc (l : List Bool) (b : Bool) (k : Nat) : byteAt (l ++ [b]) k = if k = l.length / 8 then byteAt l k ||| (b.toNat * 2 ^ (l.length % 8)) else byteAt l k := by
  apply Nat.eq_of_testBit_eq
  intro j
  rw [testBit_byteAt, getD_snoc]
  by_cases h : k = l.length / 8
  · rw [if_pos h, Nat.testBit_or, testBit_byteAt, testBit_bool]
    by_cases hj : j < 8
    · by_cases hj2 : 8 * k + j = l.length
      · have : j = l.length % 8 := by omega
        have hm : l.length % 8 < 8 := by omega
        have hz : l.getD (8 * k + j) false = false := by rw [List.getD_eq_getElem?_getD, List.getElem?_eq_none (by omega)]; rfl
        rw [if_pos hj2, hz]; simp [hj, this, hm]
      · have : ¬ j = l.length % 8 := by omega
        rw [if_neg hj2]; simp [hj, this]
    · have : ¬ j = l.length % 8 := by omega
      simp [hj, this]
  · rw [if_neg h, testBit_byteAt]
    by_cases hj : j < 8
    · rw [if_neg (by omega)]
    · simp [hj]

def packN (l : List Bool) (n : Nat) : List Nat := (List.range n).map (byteAt l)
/-- The bytes of a row of bits. -/
def pack (l : List Bool) : List Nat := packN l ((l.length + 7) / 8)

@[simp] theorem length_packN (l : List Bool) (n : Nat) : (packN l n).length = n := by simp [packN]
@[simp] theorem length_pack (l : List Bool) : (pack l).length = (l.length + 7) / 8 := by simp [pack]
theorem getElem?_packN (l : List Bool) (n k : Nat) (h : k < n) : (packN l n)[k]? = some (byteAt l k) := by simp [packN, List.getElem?_range, h]
theorem packN_snoc (l : List Bool) (b : Bool) (n : Nat) : packN (l ++ [b]) n = (packN l n).set (l.length / 8) (byteAt l (l.length / 8) ||| (b.toNat * 2 ^ (l.length % 8))) := by
  apply List.ext_getElem?
  intro k
  rw [List.getElem?_set]
  by_cases hk : k < n
  · rw [getElem?_packN _ _ _ hk, byteAt_snoc, getElem?_packN _ _ _ hk]
    by_cases h : k = l.length / 8
    · subst h; simp [hk]
    · rw [if_neg h, if_neg (fun e => h e.symm)]
  · rw [List.getElem?_eq_none (by simp; omega), List.getElem?_eq_none (by simp; omega)]
    simp; omega

theorem byteAt_beyond (l : List Bool) (k : Nat) (h : l.length ≤ 8 * k) : byteAt l k = 0 := by
  rw [byteAt, List.drop_eq_nil_of_le h]; rfl

theorem packN_zero (n : Nat) : packN [] n = List.replicate n 0 := by
  apply List.ext_getElem?
  intro k
  by_cases hk : k < n
  · rw [getElem?_packN _ _ _ hk, byteAt_beyond [] k (by simp)]; simp [hk]
  · rw [List.getElem?_eq_none (by simp; omega), List.getElem?_eq_none (by simp; omega)]

/-- The bytes with one more, where a byte is full. -/
theorem packN_full (l : List Bool) (h : l.length % 8 = 0) : packN l (l.length / 8 + 1) = pack l ++ [0] := by
  have e : (l.length + 7) / 8 = l.length / 8 := by omega
  simp only [pack, packN, e, List.range_succ, List.map_append, List.map_cons, List.map_nil]
  rw [byteAt_beyond l _ (by omega)]
theorem packN_part (l : List Bool) (h : ¬ l.length % 8 = 0) : packN l (l.length / 8 + 1) = pack l := by
  have e : (l.length + 7) / 8 = l.length / 8 + 1 := by omega
  simp only [pack, e]
theorem pack_snoc (l : List Bool) (b : Bool) : pack (l ++ [b]) = packN (l ++ [b]) (l.length / 8 + 1) := by
  have e : ((l ++ [b]).length + 7) / 8 = l.length / 8 + 1 := by simp; omega
  simp only [pack, e]

/-- A bit as Go reckons it. -/
def bitOf (x : Int) : Bool := decide (x % 2 = 1)

theorem and_one_u64 (x : Int) (h0 : 0 ≤ x) (h1 : x < 18446744073709551616) : bits .and .u64 x 1 = ((bitOf x).toNat : Int) := by
  rw [u64_and x 1 h0 h1 (by decide) (by decide)]
  have : (1 : Int).toNat = 1 := rfl
  rw [this, nat_mask1]
  unfold bitOf
  by_cases h : x % 2 = 1 <;> simp [h] <;> omega

theorem bit_byte (x : Int) (h0 : 0 ≤ x) (h1 : x < 18446744073709551616) (k : Nat) (hk : k < 8) : bits .and .u64 x 1 % 256 * 2 ^ k % 256 = (((bitOf x).toNat * 2 ^ k : Nat) : Int) := by
  rw [and_one_u64 x h0 h1]
  have hp : (2 : Int) ^ k ≤ 128 ∧ 0 < (2 : Int) ^ k := by
    rcases (show k = 0 ∨ k = 1 ∨ k = 2 ∨ k = 3 ∨ k = 4 ∨ k = 5 ∨ k = 6 ∨ k = 7 by omega) with h | h | h | h | h | h | h | h <;> subst h <;> decide
  cases bitOf x <;> simp <;> omega

theorem or_byte (x : Int) (h0 : 0 ≤ x) (h1 : x < 18446744073709551616) (b k : Nat) (hb : b < 256) (hk : k < 8) :
    bits .or .u8 (b : Int) (bits .and .u64 x 1 % 256 * 2 ^ k % 256) = ((b ||| (bitOf x).toNat * 2 ^ k : Nat) : Int) := by
  rw [bit_byte x h0 h1 k hk, u8_or_nat b _ hb]
  have hp : 2 ^ k ≤ 128 := by
    rcases (show k = 0 ∨ k = 1 ∨ k = 2 ∨ k = 3 ∨ k = 4 ∨ k = 5 ∨ k = 6 ∨ k = 7 by omega) with h | h | h | h | h | h | h | h <;> subst h <;> decide
  cases bitOf x <;> simp <;> omega

theorem bitOf_shift (v i : Nat) : bitOf ((v : Int) / 2 ^ i) = v.testBit i := by
  unfold bitOf
  rw [Nat.testBit_eq_decide_div_mod_eq]
  congr 1
  have : ((v : Int) / 2 ^ i) = ((v / 2 ^ i : Nat) : Int) := by simp
  rw [this]
  apply propext
  omega

/-! ### The bits of a text -/
def byteS (s : ByteArray) (i : Nat) : Nat := (s.data.toList.getD i 0).toNat
theorem byteS_lt (s : ByteArray) (i : Nat) : byteS s i < 256 := UInt8.toNat_lt _
theorem byteS_eq (s : ByteArray) (i : Nat) (h : i < s.size) : (s[i]'h).toNat = byteS s i := by
  unfold byteS
  rw [List.getD_eq_getElem?_getD]
  have : s.data.toList[i]? = some (s[i]'h) := by
    rw [Array.getElem?_toList, Array.getElem?_eq_getElem (by exact h)]; rfl
  rw [this]; rfl
def bitS (s : ByteArray) (k : Nat) : Bool := (byteS s (k / 8)).testBit (k % 8)
def bitsS (s : ByteArray) : List Bool := (List.range (8 * s.size)).map (bitS s)
@[simp] theorem length_bitsS (s : ByteArray) : (bitsS s).length = 8 * s.size := by simp [bitsS]

theorem getD_bitsS (s : ByteArray) (k : Nat) : (bitsS s).getD k false = (decide (k < 8 * s.size) && bitS s k) := by
  rw [List.getD_eq_getElem?_getD]
  by_cases h : k < 8 * s.size
  · simp [bitsS, h]
  · simp [bitsS, h]

theorem and_bit (b j : Nat) (hb : b < 256) : bits .and .u64 (IntKind.u64.wrap ((b : Int) / 2 ^ j)) 1 = (((b.testBit j).toNat : Nat) : Int) := by
  have h1 : (b : Int) / 2 ^ j ≤ b := Int.ediv_le_self _ (by omega)
  have h0 : 0 ≤ (b : Int) / 2 ^ j := Int.ediv_nonneg (by omega) (Int.pow_nonneg (by decide))
  have e : IntKind.u64.wrap ((b : Int) / 2 ^ j) = (b : Int) / 2 ^ j := by rw [IntKind.wrap_u64]; omega
  rw [e, Bits.and_one_u64 _ h0 (by omega), bitOf_shift]

theorem ofBits_snoc (l : List Bool) (b : Bool) : ofBits (l ++ [b]) = ofBits l ||| (b.toNat * 2 ^ l.length) := by
  apply Nat.eq_of_testBit_eq
  intro i
  rw [Nat.testBit_or, testBit_ofBits, testBit_ofBits, testBit_bool, getD_snoc]
  by_cases h : i = l.length
  · subst h; simp
  · simp [h]

theorem or_shift (l : List Bool) (b : Bool) (h : l.length < 64) : bits .or .u64 (ofBits l : Int) ((b.toNat * 2 ^ l.length : Nat) : Int) = (ofBits (l ++ [b]) : Int) := by
  have h1 := ofBits_lt l
  have h2 : 2 ^ l.length ≤ 2 ^ 63 := Nat.pow_le_pow_right (by decide) (by omega)
  have h3 : (2 : Nat) ^ 63 = 9223372036854775808 := by decide
  rw [u64_or_nat _ _ (by omega) (by cases b <;> simp <;> omega), ofBits_snoc]

theorem take_succ_getD (l : List Bool) (n : Nat) (h : n < l.length) : l.take (n + 1) = l.take n ++ [l.getD n false] := by
  rw [List.take_succ_eq_append_getElem h]
  congr 1
  rw [List.getD_eq_getElem?_getD, List.getElem?_eq_getElem h]; rfl

theorem ofBits_zero (l : List Bool) : ofBits l = 0 ↔ l.all (fun b => !b) = true := by
  induction l with
  | nil => simp [ofBits]
  | cons b t ih =>
    simp only [ofBits, List.all_cons, Bool.and_eq_true]
    rw [← ih]
    cases b <;> simp <;> omega

theorem or_step (l : List Bool) (b : Bool) (i : Nat) (hi : l.length = i) (h : i < 64) : bits .or .u64 (ofBits l : Int) (IntKind.u64.wrap ((b.toNat : Int) * 2 ^ i)) = (ofBits (l ++ [b]) : Int) := by
  subst hi
  have h2 : 2 ^ l.length ≤ 2 ^ 63 := Nat.pow_le_pow_right (by decide) (by omega)
  have h3 : (2 : Nat) ^ 63 = 9223372036854775808 := by decide
  have e : IntKind.u64.wrap ((b.toNat : Int) * 2 ^ l.length) = ((b.toNat * 2 ^ l.length : Nat) : Int) := by
    rw [IntKind.wrap_u64]
    have : ((b.toNat : Int) * 2 ^ l.length) = ((b.toNat * 2 ^ l.length : Nat) : Int) := by simp
    rw [this]
    have hlt : b.toNat * 2 ^ l.length < 18446744073709551616 := by
      generalize 2 ^ l.length = P at h2 h3
      cases b
      · simp
      · simp; omega
    generalize b.toNat * 2 ^ l.length = M at hlt
    omega
  rw [e, or_shift l b h]

theorem drop_step (s : ByteArray) (k i : Nat) (h : k + i < 8 * s.size) : ((bitsS s).drop k).take (i + 1) = ((bitsS s).drop k).take i ++ [bitS s (k + i)] := by
  rw [take_succ_getD _ _ (by simp; omega)]
  congr 2
  rw [List.getD_eq_getElem?_getD, List.getElem?_drop, ← List.getD_eq_getElem?_getD, getD_bitsS]
  simp [h]

theorem run_ix {P : Program} {T : TypeId} (h : P.underlying T = some .string) (s : ByteArray) (i : Int) (j : Nat) (hij : i = (j : Int)) (hj : j < s.size) (w : World) :
    (Instr.index T (.string s) (.int .i64 i)).run P w = .ok (.int .u8 (byteS s j : Int)) w := by
  subst hij
  rw [run_index_string w T s .i64 (j : Int) h, dif_pos ⟨by omega, by omega⟩, ← byteS_eq s j hj]
  simp
end Go.Proofs.Yteeegomdaebobaa.Bits

-- ---- Bw
/- bits.Writer: what its methods do to its memory. -/
namespace Go.Proofs.Yteeegomdaebobaa
set_option maxRecDepth 100000
set_option linter.unusedSimpArgs false
set_option linter.unusedVariables false
open Go.RowKit Mix _root_.Go.Proofs.Yteeegomdaebobaa.Own Bits

theorem infoU8 : (Try.prog.info? 5).map (fun i => (i.zero, i.size, i.bytes)) = some (some (.int .u8 0), 1, 1) := by kernel_rfl

def u8s (l : List Nat) : List Value := l.map fun (b : Nat) => Value.int .u8 (b : Int)
@[simp] theorem length_u8s (l : List Nat) : (u8s l).length = l.length := by simp [u8s]
theorem u8s_append (l m : List Nat) : u8s (l ++ m) = u8s l ++ u8s m := by simp [u8s]
theorem u8s_set (l : List Nat) (i x : Nat) : u8s (l.set i x) = (u8s l).set i (.int .u8 (x : Int)) := by simp [u8s, List.map_set]

/-- A Writer at block p with its bytes at v: the row of bits l. -/
structure IsW (w : World) (p : Nat) (v : Value) (l : List Bool) : Prop where
  blk : Blk w p #[v, .int .i64 (l.length : Int)] 127
  row : Owns w 5 v (u8s (pack l))

theorem IsW.keep {w w' : World} {S : Nat → Prop} {p : Nat} {v : Value} {l : List Bool} (h : IsW w p v l) (hc : Chg S w w') (hp : ¬ S p) (hv : ∀ g, v.ownBlock = some g → ¬ S g) : IsW w' p v l :=
  ⟨hc.keep h.blk hp, h.row.chg hc hv⟩

/-- The state between the two halves of 'bit'. -/
structure Half (w w' : World) (p : Nat) (v v1 : Value) (l : List Bool) : Prop where
  blk : Blk w' p #[v1, .int .i64 (l.length : Int)] 127
  row : Owns w' 5 v1 (u8s (packN l (l.length / 8 + 1)))
  chg : Chg (fun k => k = p ∨ some k = v.ownBlock) w w'
  own : ∀ g, v1.ownBlock = some g → some g = v.ownBlock ∨ w.heap.size ≤ g

set_option maxHeartbeats 2000000 in
theorem bit_calls (p : Nat) (v : Value) (l : List Bool) (x : Int) (w : World) (hW : IsW w p v l) (hn : l.length < 1099511627776) (hx0 : 0 ≤ x) (hx1 : x < 18446744073709551616) :
    Calls Try.prog 62 #[.pointer (some ⟨p, 0, none⟩), .int .u64 x] w fun e w' => e = .returned (.tuple #[]) ∧
      ∃ v', IsW w' p v' (l ++ [bitOf x]) ∧ Chg (fun k => k = p ∨ some k = v.ownBlock) w w' ∧ ∀ g, v'.ownBlock = some g → some g = v.ownBlock ∨ w.heap.size ≤ g := by
  obtain ⟨i0, hi, hz0, hz1, hz2⟩ := info_parts infoU8
  obtain ⟨n, hnl⟩ : ∃ n, n = l.length := ⟨_, rfl⟩
  have hc0 : w.cell? ⟨p, 0, none⟩ = some v := hW.blk.cell rfl
  have hc1 : w.cell? ⟨p, 1, none⟩ = some (.int .i64 (n : Int)) := by rw [hnl]; exact hW.blk.cell rfl
  have hf0 : w.frozen? ⟨p, 0, none⟩ = false := hW.blk.free 0
  have HW := kept hW
  have HNL := kept hnl
  rw [← hnl] at hn
  clear hW hnl
  go_enter Try.func62, Try.ntmps62
  go_upto_if 9 with fail
  go_cut [] from 9 (fun w' => ∃ v1, Half w w' p v v1 l)
  case first =>
    by_cases h8 : n % 8 = 0
    · have h8b : (((n : Int) % 8) == 0) = true := by rw [beq_iff_eq]; omega
      have H8 := kept h8
      clear h8
      go_wp2_with (first | (at_builtin; go_loud (refine wpList_app1 rfl _ _ 43 rfl 5 i0 (.int .u8 0) 1 Try.underlying43 hi hz0 hz1 hz2 rfl v _ _ rfl HW.out.row rfl rfl ?c3 ?c4 ?_)) | fail)
      case c3 => have := HNL.out; simp [maxLen]; omega
      case c4 => have := HNL.out; simp; omega
      intro v1 w1 O1 hch0 F
      have hvp : v.ownBlock ≠ some p := HW.out.row.ne HW.out.blk (by decide)
      have e8 : l.length % 8 = 0 := by rw [← HNL.out]; exact H8.out
      have O1 : Owns w1 5 v1 (u8s (packN l (l.length / 8 + 1))) := by
        rw [packN_full l e8, u8s_append]; exact O1
      obtain ⟨g1, cap1, rfl, _, hg1l⟩ := O1.row (by intro e; have := congrArg List.length e; simp at this)
      simp only [length_u8s, length_packN] at O1 F
      have hB1 : Blk w1 p #[v, .int .i64 (l.length : Int)] 127 := hch0.keep HW.out.blk (fun e => hvp e.symm)
      have d0 : w1.cell? ⟨p, 0, none⟩ = some v := hB1.cell rfl
      have f0 : w1.frozen? ⟨p, 0, none⟩ = false := hB1.free 0
      have hpg : p ≠ g1 := hB1.ne (O1.blk g1 rfl).choose_spec (by decide)
      have O1 := kept O1
      have HB1 := kept hB1
      have HC0 := kept hch0
      have HF := kept F
      clear hB1 hch0 F hvp
      go_wp2_with fail
      go_meet
      case rel => exact ⟨_, by
        refine ⟨HB1.out.set 0 _, O1.out.setOther (a := ⟨p, 0, none⟩) (fun e => hpg (by simpa [Value.ownBlock] using e.symm)) _, ?_, HF.out⟩
        exact (HC0.out.mono (fun k _ h => .inr h)).trans (Chg.setCell _ _ _) (fun k _ h => .inl h)⟩
    · have h8b : (((n : Int) % 8) == 0) = false := by rw [beq_eq_false_iff_ne]; omega
      have e8 : ¬ l.length % 8 = 0 := by rw [← HNL.out]; exact h8
      have HE := kept e8
      clear h8 e8
      go_wp2_with fail
      go_meet
      case rel => exact ⟨v, by
        refine ⟨HW.out.blk, ?_, Chg.refl _ _, fun g hg => .inl hg.symm⟩
        rw [packN_part l HE.out]; exact HW.out.row⟩
  case rest =>
    obtain ⟨v1, hH⟩ := hcut
    obtain ⟨g, cap, rfl, hcap, hgl⟩ := hH.row.row (by intro e; have := congrArg List.length e; simp at this)
    have hpg : p ≠ g := hH.blk.ne (hH.row.blk g rfl).choose_spec (by decide)
    have hk : n / 8 < l.length / 8 + 1 := by rw [HNL.out]; omega
    obtain ⟨b, hb⟩ : ∃ b, b = byteAt l (n / 8) := ⟨_, rfl⟩
    have hb8 : b < 256 := by rw [hb]; exact byteAt_lt _ _
    have hcb : wc.cell? ⟨g, n / 8, none⟩ = some (.int .u8 (b : Int)) := hH.row.cell (by simp [u8s, getElem?_packN _ _ _ hk, hb])
    have hfb : wc.frozen? ⟨g, n / 8, none⟩ = false := hH.row.free _
    have e0 : wc.cell? ⟨p, 0, none⟩ = some (.slice (some ⟨g, 0, none⟩) (u8s (packN l (l.length / 8 + 1))).length cap) := hH.blk.cell rfl
    have e1 : wc.cell? ⟨p, 1, none⟩ = some (.int .i64 (n : Int)) := by rw [HNL.out]; exact hH.blk.cell rfl
    have ef1 : wc.frozen? ⟨p, 1, none⟩ = false := hH.blk.free 1
    obtain ⟨len, hlen⟩ : ∃ len, len = (u8s (packN l (l.length / 8 + 1))).length := ⟨_, rfl⟩
    have hll : n / 8 < len := by rw [hlen]; simpa using hk
    rw [← hlen] at e0
    have lc0 := lat_cell e0
    have lc1 := lat_cell e1
    have lb := lat_cell hcb
    have HH := kept hH
    have HB := kept hb
    have HL := kept hlen
    clear hH hb hlen hc0 hc1 hf0 hk hcap
    go_wp2_with fail
    refine wp_region_mixL [] [0,1,2,3,4,5,6,7,8,9,10,11,12,13,14,15,16,17,18,19,20,21] [22] (by kernel_rfl) (by kernel_rfl) ?_
    intro K hK
    simp only [pick, List.filterMap_cons, List.filterMap_nil, List.getElem?_cons_zero, List.getElem?_cons_succ]
    refine wpQuiet_nil ?_
    repeat (show wpQuiet _ _ _ _ (_ :: _) _; go_big_quiet_step (fail))
    refine wpQuiet_nil ?_
    show wpList _ _ _ (_ :: _) _ _
    go_wp2_with fail
    refine hK _ _ ?_
    have e8 : n % 8 = l.length % 8 := by rw [HNL.out]
    have hbyte : bits BinOp.or IntKind.u8 (b : Int) (bits BinOp.and IntKind.u64 x 1 % 256 * 2 ^ (n % 8) % 256) = ((b ||| (bitOf x).toNat * 2 ^ (n % 8) : Nat) : Int) := or_byte x hx0 hx1 b (n % 8) hb8 (by omega)
    rw [hbyte]
    generalize hw2 : World.drew (World.setCell wc _ _) = w2
    have hB2 : Blk w2 p #[.slice (some ⟨g, 0, none⟩) (u8s (packN l (l.length / 8 + 1))).length cap, .int .i64 (l.length : Int)] 127 := by
      rw [← hw2]; exact HH.out.blk.setOther (a := ⟨g, n / 8, none⟩) hpg _
    have hO2 : Owns w2 5 (.slice (some ⟨g, 0, none⟩) (u8s (packN l (l.length / 8 + 1))).length cap) (u8s (pack (l ++ [bitOf x]))) := by
      rw [← hw2, pack_snoc, packN_snoc, u8s_set, ← HNL.out, ← HB.out, HNL.out]
      exact HH.out.row.store _ _
    have hC2 : Chg (fun k => k = p ∨ some k = v.ownBlock) w w2 := by
      rw [← hw2]
      refine (HH.out.chg.trans (Chg.setCell wc ⟨g, n / 8, none⟩ _) ?_).trans (Chg.drew _ _) (fun _ _ h => h)
      intro k hk he
      have he' : k = g := he
      rcases HH.out.own g rfl with h | h
      · exact .inr (by rw [he', h])
      · omega
    have d1 : w2.cell? ⟨p, 1, none⟩ = some (.int .i64 (n : Int)) := by rw [HNL.out]; exact hB2.cell rfl
    have df1 : w2.frozen? ⟨p, 1, none⟩ = false := hB2.free 1
    have X1 := kept hB2
    have X2 := kept hO2
    have X3 := kept hC2
    clear hB2 hO2 hC2 hw2 hbyte e8 lc0 lc1 lb e0 e1 ef1 hcb hfb
    go_wp2_with fail
    go_end0
    refine ⟨rfl, _, ⟨?_, ?_⟩, ?_, HH.out.own⟩
    · have := X1.out.set 1 (.int .i64 ((n : Int) + 1))
      simpa [HNL.out] using this
    · exact X2.out.setOther (a := ⟨p, 1, none⟩) (fun e => hpg (by simpa [Value.ownBlock] using e.symm)) _
    · exact X3.out.trans (Chg.setCell w2 ⟨p, 1, none⟩ _) (fun k _ h => .inl h)
end Go.Proofs.Yteeegomdaebobaa

-- ---- Bp
/- bits.New, Writer.Put, Len, Bytes. -/
namespace Go.Proofs.Yteeegomdaebobaa
set_option maxRecDepth 100000
set_option linter.unusedSimpArgs false
set_option linter.unusedVariables false
open Go.RowKit Mix _root_.Go.Proofs.Yteeegomdaebobaa.Own Bits
attribute [local go_sem] max_int min_int

/-- How many bits are put. -/
def clamp (n : Int) : Nat := (max 0 (min n 64)).toNat
theorem clamp_le (n : Int) : clamp n ≤ 64 := by unfold clamp; omega

set_option maxHeartbeats 1000000 in
theorem new_calls (w : World) : Calls Try.prog 32 #[] w fun e w' => ∃ p, e = .returned (.pointer (some ⟨p, 0, none⟩)) ∧ IsW w' p (.slice none 0 0) [] ∧ Below w.heap.size w w' ∧ w.heap.size ≤ p := by
  go_enter Try.func32, Try.ntmps32
  go_wp2
  go_ret
  exact ⟨_, rfl, ⟨Blk.fresh _ _ _, Owns.nil _ _⟩, (Below.refl _ _).alloc (Nat.le_refl _) _, Nat.le_refl _⟩

set_option maxHeartbeats 2000000 in
theorem put_calls (p : Nat) (v : Value) (l : List Bool) (x : Nat) (n : Int) (w : World) (hW : IsW w p v l) (hl : l.length < 1000000000000) (hx : x < 18446744073709551616) (hn0 : -9223372036854775808 ≤ n) (hn1 : n ≤ 9223372036854775807) :
    Calls Try.prog 33 #[.pointer (some ⟨p, 0, none⟩), .int .u64 (x : Int), .int .i64 n] w fun e w' => e = .returned (.tuple #[]) ∧
      ∃ v', IsW w' p v' (l ++ bitsOf x (clamp n)) ∧ Chg (fun k => k = p ∨ some k = v.ownBlock) w w' ∧ ∀ g, v'.ownBlock = some g → some g = v.ownBlock ∨ w.heap.size ≤ g := by
  have HW := kept hW
  have HX := kept hx
  have HL := kept hl
  clear hW hx hl
  obtain ⟨N, hN⟩ : ∃ N, N = clamp n := ⟨_, rfl⟩
  have hN0 : N ≤ 64 := by rw [hN]; exact clamp_le n
  have hNe : mx 0 (mn n 64) = (N : Int) := by rw [hN, mx_eq, mn_eq]; unfold clamp; omega
  have HN := kept hN
  clear hN
  go_enter Try.func33, Try.ntmps33
  go_wp2_with fail
  go_loopw [15] (fun s15 wr => ∃ k : Nat, k ≤ N ∧ s15 = .int .i64 (k : Int) ∧ ∃ v1, IsW wr p v1 (l ++ bitsOf x k) ∧ Chg (fun k => k = p ∨ some k = v.ownBlock) w wr ∧ ∀ g, v1.ownBlock = some g → some g = v.ownBlock ∨ w.heap.size ≤ g)
    (fun s15 _ => N - (intOf s15).toNat)
  case atStart => exact ⟨0, Nat.zero_le _, rfl, v, by simpa [bitsOf] using HW.out, Chg.refl _ _, fun g hg => .inl hg.symm⟩
  case round =>
    obtain ⟨k, hk, rfl, v1, hW1, hC1, hG1⟩ := hrel
    have HW1 := kept hW1
    have HC1 := kept hC1
    have HG1 := kept hG1
    clear hW1 hC1 hG1
    by_cases hlt : k < N
    · have hln : (l ++ bitsOf x k).length < 1099511627776 := by have := HL.out; simp; omega
      have hsh : (x : Int) / 2 ^ k < 18446744073709551616 := by
        have hx := HX.out
        have h1 : (x : Int) / 2 ^ k ≤ x := Int.ediv_le_self _ (by omega)
        omega
      have hsh0 : 0 ≤ (x : Int) / 2 ^ k := Int.ediv_nonneg (by omega) (Int.pow_nonneg (by decide))
      have HS := kept hsh
      have HS0 := kept hsh0
      clear hsh hsh0
      have HLN := kept hln
      clear hln
      go_wp2_with (first | (go_at_call 62; refine (bit_calls p v1 (l ++ bitsOf x k) _ wr HW1.out HLN.out HS0.out HS.out).mono ?_; rintro e w2 ⟨rfl, v2, hW2, hC2, hG2⟩; have HW2 := kept hW2; have HC2 := kept hC2; have HG2 := kept hG2; clear hW2 hC2 hG2))
      go_roundw
      case rel =>
        refine ⟨k + 1, by omega, by go_num, v2, ?_, ?_, ?_⟩
        · rw [bitsOf_succ, ← List.append_assoc, ← bitOf_shift]; exact HW2.out
        · exact HC1.out.trans HC2.out (fun k hk h => by
            rcases h with h | h
            · exact .inl h
            · rcases HG1.out k h.symm with h2 | h2
              · exact .inr h2
              · omega)
        · intro g hg
          rcases HG2.out g hg with h2 | h2
          · exact HG1.out g h2.symm
          · exact .inr (Nat.le_trans HC1.out.size h2)
      case measure => simp [intOf]; omega
    · go_wp2_with fail
      go_end0
      have : k = N := by omega
      subst this
      exact ⟨rfl, v1, by rw [← HN.out]; exact HW1.out, HC1.out, HG1.out⟩

/-- The text that bytes are. -/
def textOf (l : List Nat) : ByteArray := ⟨(l.map UInt8.ofNat).toArray⟩

theorem strOf_eq (l : List Nat) : strOfNums (l.map fun (n : Nat) => (n : Int)) = textOf l := by
  unfold strOfNums textOf
  simp [Function.comp_def]

theorem conv_string {w : World} {v : Value} {l : List Nat} (h : Owns w 5 v (u8s l)) :
    (convert 43 9 v).run Try.prog w = .ok (.string (textOf l)) w := by
  rcases h.form with ⟨rfl, hx⟩ | ⟨g, cap, cur, rfl, hb, hc, hm, hs, ht⟩
  · have : l = [] := by simpa [u8s] using hx
    subst this
    exact run_convert_bytes_nil (P := Try.prog) w 43 5 Try.underlying43 Try.underlying5 0 0 9 Try.underlying9
  · rw [← strOf_eq]
    refine run_convert_bytes_arg (P := Try.prog) w 43 5 Try.underlying43 Try.underlying5 g 0 _ cap _ (by simp) (fun i hi => ?_) 9 Try.underlying9
    simp only [length_u8s] at hi
    rw [Nat.zero_add]
    exact h.cell (by simp [u8s, hi])

set_option maxHeartbeats 1000000 in
theorem bytes_calls (p : Nat) (v : Value) (l : List Bool) (w : World) (hW : IsW w p v l) :
    Calls Try.prog 35 #[.pointer (some ⟨p, 0, none⟩)] w fun e w' => e = .returned (.string (textOf (pack l))) ∧ w = w' := by
  have hc0 : w.cell? ⟨p, 0, none⟩ = some v := hW.blk.cell rfl
  have hcv := conv_string hW.row
  have HW := kept hW
  clear hW
  go_enter Try.func35, Try.ntmps35
  go_wp2
  go_ret
  exact ⟨rfl, rfl⟩
end Go.Proofs.Yteeegomdaebobaa

-- ---- Bf
/- A text, its bits, and bits made a text: plain facts. -/
namespace Go.Proofs.Yteeegomdaebobaa
set_option maxRecDepth 100000
set_option linter.unusedSimpArgs false
set_option linter.unusedVariables false
open Go.RowKit Mix _root_.Go.Proofs.Yteeegomdaebobaa.Own Bits

@[simp] theorem size_textOf (l : List Nat) : (textOf l).size = l.length := by simp [textOf, ByteArray.size]

end Go.Proofs.Yteeegomdaebobaa

-- ---- Len8
/- math/bits.Len8: the library's text is walked. -/
namespace Go.Proofs.Yteeegomdaebobaa
set_option maxRecDepth 100000
open Go.RowKit
set_option linter.unusedSimpArgs false
set_option linter.unusedVariables false
set_option maxRecDepth 100000 in
theorem len8tab_size8 : (Lib.len8tab.size : Int) = 256 := by
  have : Lib.len8tab.size = 256 := by decide
  omega
theorem len8_get8 (y : Nat) (h : y < Lib.len8tab.size) : ((Lib.len8tab[y]'h).toNat : Int) = Lib.len8 (y : Int) := by
  unfold Lib.len8
  rw [Int.toNat_natCast, getElem?_pos Lib.len8tab y h]
  rfl
theorem wrap_small8 (a : Nat) (ha : a ≤ 8) : RowKit.wrap64 (a : Int) = (a : Int) := by
  unfold RowKit.wrap64
  omega

set_option maxRecDepth 100000 in
theorem len8_calls (n : Nat) (w : World) (h : n < 256) :
    Calls Try.prog 79 #[.int .u8 (n : Int)] w fun e w' => e = .returned (.int .i64 (Lib.bitLen n : Int)) ∧ w = w' := by
  have e : Lib.len8 (n : Int) = (Lib.bitLen n : Int) := Lib.len8_eq ⟨n, h⟩
  have l : Lib.bitLen n ≤ 8 := Lib.bitLen_le8 ⟨n, h⟩
  go_enter Try.func79, Try.ntmps79
  go_wp2
  all_goals first
    | (go_ret; refine ⟨congrArg Ending.returned (congrArg (Value.int IntKind.i64) ?_), rfl⟩; go_light)
    | (exfalso
       go_light
       have hs := len8tab_size8
       omega)
  rw [len8_get8 n _, e, wrap_small8 _ l]
end Go.Proofs.Yteeegomdaebobaa

-- ---- Zm
/- Numbers by their size: plain facts; no program in sight. -/
namespace Go.Proofs.Yteeegomdaebobaa.Zig
set_option maxRecDepth 100000
set_option linter.unusedSimpArgs false
set_option linter.unusedVariables false

abbrev bl (u : Nat) : Nat := Go.Lib.bitLen u

theorem bl_pos (u : Nat) (h0 : u ≠ 0) (h : u < 2 ^ 64) : 1 ≤ bl u := by
  have := Go.Lib.bitLen_half u h0 h
  unfold bl; omega

theorem bl_spec : ∀ (n u : Nat), u < n → u ≠ 0 → u < 2 ^ 64 → 2 ^ (bl u - 1) ≤ u ∧ u < 2 ^ bl u := by
  intro n
  induction n with
  | zero => intro u h; omega
  | succ n ih =>
    intro u hn h0 h
    have hb := Go.Lib.bitLen_half u h0 h
    by_cases h1 : u / 2 = 0
    · have hu : u = 1 := by omega
      subst hu
      decide
    · have ih2 := ih (u / 2) (by omega) h1 (by omega)
      have hp := bl_pos (u / 2) h1 (by omega)
      unfold bl at *
      rw [hb]
      have e : 1 + Go.Lib.bitLen (u / 2) - 1 = (Go.Lib.bitLen (u / 2) - 1) + 1 := by omega
      rw [e, Nat.add_comm 1, Nat.pow_succ, Nat.pow_succ]
      omega

theorem bl_eq (u k : Nat) (h1 : 2 ^ k ≤ u) (h2 : u < 2 ^ (k + 1)) (h : u < 2 ^ 64) : bl u = k + 1 := by
  have h0 : u ≠ 0 := by have := Nat.pow_pos (n := k) (show 0 < 2 by decide); omega
  have hs := bl_spec (u + 1) u (by omega) h0 h
  have hp := bl_pos u h0 h
  rcases Nat.lt_trichotomy (bl u) (k + 1) with hl | hl | hl
  · have : 2 ^ bl u ≤ 2 ^ k := Nat.pow_le_pow_right (by decide) (by omega)
    omega
  · exact hl
  · have : 2 ^ (k + 1) ≤ 2 ^ (bl u - 1) := Nat.pow_le_pow_right (by decide) (by omega)
    omega

def zback (u : Nat) : Int := if u % 2 = 1 then -((u / 2 : Nat) : Int) - 1 else ((u / 2 : Nat) : Int)

/-- Has a part a number? -/
def may (c : Int) (r : Nat) : Bool := decide (0 ≤ c ∧ c ≤ 64) && (if c < 1 then decide (r = 0) else decide (r < 2 ^ (c.toNat - 1)))
def sizeOf (c : Int) (r : Nat) : Nat := if c < 1 then 0 else 2 ^ (c.toNat - 1) + r
def join (c : Int) (r : Nat) : Int := if may c r then zback (sizeOf c r) else 0

theorem pow_le63 (k : Nat) (h : k ≤ 63) : 2 ^ k ≤ 9223372036854775808 := by
  have : 2 ^ k ≤ 2 ^ 63 := Nat.pow_le_pow_right (by decide) h
  omega

end Go.Proofs.Yteeegomdaebobaa.Zig

-- ---- Rw
/- wringerref1's Row: what its methods do to its memory. -/
namespace Go.Proofs.Yteeegomdaebobaa
set_option maxRecDepth 100000
set_option linter.unusedSimpArgs false
set_option linter.unusedVariables false
open Go.RowKit Mix _root_.Go.Proofs.Yteeegomdaebobaa.Own Bits
attribute [local go_sem] max_int min_int

def bits01 (l : List Bool) : List Nat := l.map Bool.toNat
@[simp] theorem length_bits01 (l : List Bool) : (bits01 l).length = l.length := by simp [bits01]

/-- A Row at block p, its bits at v. -/
structure IsR (w : World) (p : Nat) (v : Value) (l : List Bool) : Prop where
  blk : Blk w p #[v] 101
  row : Owns w 5 v (u8s (bits01 l))

theorem IsR.keep {w w' : World} {S : Nat → Prop} {p : Nat} {v : Value} {l : List Bool} (h : IsR w p v l) (hc : Chg S w w') (hp : ¬ S p) (hv : ∀ g, v.ownBlock = some g → ¬ S g) : IsR w' p v l :=
  ⟨hc.keep h.blk hp, h.row.chg hc hv⟩

theorem bit_byte0 (x k : Nat) (hx : x < 18446744073709551616) : bits .and .u64 ((x : Int) / 2 ^ k) 1 % 256 = (((x.testBit k).toNat : Nat) : Int) := by
  have h1 : (x : Int) / 2 ^ k ≤ x := Int.ediv_le_self _ (by omega)
  have h0 : 0 ≤ (x : Int) / 2 ^ k := Int.ediv_nonneg (by omega) (Int.pow_nonneg (by decide))
  rw [Bits.and_one_u64 _ h0 (by omega), bitOf_shift]
  cases x.testBit k <;> simp

set_option maxHeartbeats 4000000 in
theorem rput_calls (p : Nat) (v : Value) (l : List Bool) (x : Nat) (n : Int) (w : World) (hW : IsR w p v l) (hl : l.length < 1000000000000) (hx : x < 18446744073709551616) (hn0 : -9223372036854775808 ≤ n) (hn1 : n ≤ 9223372036854775807) :
    Calls Try.prog 70 #[.pointer (some ⟨p, 0, none⟩), .int .u64 (x : Int), .int .i64 n] w fun e w' => e = .returned (.tuple #[]) ∧
      ∃ v', IsR w' p v' (l ++ bitsOf x (clamp n)) ∧ Chg (fun k => k = p ∨ some k = v.ownBlock) w w' ∧ ∀ g, v'.ownBlock = some g → some g = v.ownBlock ∨ w.heap.size ≤ g := by
  obtain ⟨i0, hi, hz0, hz1, hz2⟩ := info_parts infoU8
  have HW := kept hW
  have HX := kept hx
  have HL := kept hl
  clear hW hx hl
  obtain ⟨N, hN⟩ : ∃ N, N = clamp n := ⟨_, rfl⟩
  have hN0 : N ≤ 64 := by rw [hN]; exact clamp_le n
  have hNe : mx 0 (mn n 64) = (N : Int) := by rw [hN, mx_eq, mn_eq]; unfold clamp; omega
  have HN := kept hN
  clear hN
  go_enter Try.func70, Try.ntmps70
  go_wp2_with fail
  go_loopw [6] (fun s6 wr => ∃ k : Nat, k ≤ N ∧ s6 = .int .i64 (k : Int) ∧ ∃ v1, IsR wr p v1 (l ++ bitsOf x k) ∧ Chg (fun k => k = p ∨ some k = v.ownBlock) w wr ∧ ∀ g, v1.ownBlock = some g → some g = v.ownBlock ∨ w.heap.size ≤ g)
    (fun s6 _ => N - (intOf s6).toNat)
  case atStart => exact ⟨0, Nat.zero_le _, rfl, v, by simpa [bitsOf] using HW.out, Chg.refl _ _, fun g hg => .inl hg.symm⟩
  case round =>
    obtain ⟨k, hk, rfl, v1, hW1, hC1, hG1⟩ := hrel
    have c0 : wr.cell? ⟨p, 0, none⟩ = some v1 := hW1.blk.cell rfl
    have HW1 := kept hW1
    have HC1 := kept hC1
    have HG1 := kept hG1
    clear hW1 hC1 hG1
    by_cases hlt : k < N
    · have lc0 := lat_cell c0
      go_wp2_with fail
      refine wp_region_mixL [0] [1,2,3,4,5,6,7,8,9] [10,11,12,13,14] (by kernel_rfl) (by kernel_rfl) ?_
      intro K hK
      simp only [pick, List.filterMap_cons, List.filterMap_nil, List.getElem?_cons_zero, List.getElem?_cons_succ]
      repeat (show wpQuiet _ _ _ _ (_ :: _) _; go_big_quiet_step (fail))
      have hby := bit_byte0 x k HX.out
      rw [hby]
      clear hby
      show wpList _ _ _ [_, _, _, _, _] _ _
      generalize hwd : World.drew wr = wd
      have HWd : Kept (IsR wd p v1 (l ++ bitsOf x k)) := kept (by rw [← hwd]; exact ⟨HW1.out.blk, HW1.out.row⟩)
      have HCd : Kept (Chg (fun k => k = p ∨ some k = v.ownBlock) w wd) := kept (by rw [← hwd]; exact HC1.out.trans (Chg.drew (fun _ => False) _) (fun _ _ h => h.elim))
      clear hwd lc0 c0
      go_wp2_with (first | (at_builtin; refine wpList_app1 rfl _ _ 43 rfl 5 i0 (.int .u8 0) 1 Try.underlying43 hi hz0 hz1 hz2 rfl v1 _ (.int .u8 ((x.testBit k).toNat : Int)) rfl HWd.out.row rfl rfl ?_ ?_ ?_) | fail)
      · have := HL.out; simp [maxLen]; omega
      · have := HL.out; simp; omega
      intro v2 w2 O2 hch F
      have O2 : Owns w2 5 v2 (u8s (bits01 (l ++ bitsOf x (k + 1)))) := by
        rw [bitsOf_succ, ← List.append_assoc]; simpa [bits01, u8s] using O2
      obtain ⟨g2, cap2, rfl, _, _⟩ := O2.row (by intro e; have := congrArg List.length e; simp at this)
      simp only [length_u8s, length_bits01, List.length_append, length_bitsOf] at O2 F
      have hvp : v1.ownBlock ≠ some p := HWd.out.row.ne HWd.out.blk (by decide)
      have hB2 : Blk w2 p #[v1] 101 := hch.keep HWd.out.blk (fun e => hvp e.symm)
      have d0 : w2.cell? ⟨p, 0, none⟩ = some v1 := hB2.cell rfl
      have f0 : w2.frozen? ⟨p, 0, none⟩ = false := hB2.free 0
      have hpg : p ≠ g2 := hB2.ne (O2.blk g2 rfl).choose_spec (by decide)
      have hch2 : Chg (fun k => k = p ∨ some k = v.ownBlock) w w2 := HCd.out.trans hch (fun k hk h => by
        rcases HG1.out k h.symm with h2 | h2
        · exact .inr h2
        · omega)
      have hsz : w.heap.size ≤ wd.heap.size := HCd.out.size
      have F2 : ∀ g, some g2 = some g → some g = v.ownBlock ∨ w.heap.size ≤ g := fun g hg => by
        rcases F g hg with h2 | h2
        · exact HG1.out g h2.symm
        · omega
      have O2 := kept O2
      have HB2 := kept hB2
      have HC2 := kept hch2
      have HF2 := kept F2
      clear hB2 hch2 hch F F2 hvp
      go_wp2_with fail
      refine hK _ _ ?_
      go_wp2_with fail
      go_roundw
      case rel =>
        refine ⟨k + 1, by omega, by go_num, _, ⟨HB2.out.set 0 _, O2.out.setOther (a := ⟨p, 0, none⟩) (fun e => hpg (by simpa [Value.ownBlock] using e.symm)) _⟩, ?_, HF2.out⟩
        exact HC2.out.trans (Chg.setCell w2 ⟨p, 0, none⟩ _) (fun k _ h => .inl h)
      case measure => simp [intOf]; omega
    · go_wp2_with fail
      go_end0
      have : k = N := by omega
      subst this
      exact ⟨rfl, v1, by rw [← HN.out]; exact HW1.out, HC1.out, HG1.out⟩
end Go.Proofs.Yteeegomdaebobaa

-- ---- Rr
/- wringerref1's Row: the text of its bits. -/
namespace Go.Proofs.Yteeegomdaebobaa
set_option maxRecDepth 100000
set_option linter.unusedSimpArgs false
set_option linter.unusedVariables false
open Go.RowKit Mix _root_.Go.Proofs.Yteeegomdaebobaa.Own Bits
attribute [local go_sem] max_int min_int

theorem or_bit (x k : Nat) (b : Bool) (hx : x < 256) (hk : k < 8) : bits .or .u8 (x : Int) ((b.toNat : Int) * 2 ^ k % 256) = ((x ||| b.toNat * 2 ^ k : Nat) : Int) := by
  have hp : 2 ^ k ≤ 128 ∧ (2 : Int) ^ k ≤ 128 ∧ 0 < (2 : Int) ^ k := by
    rcases (show k = 0 ∨ k = 1 ∨ k = 2 ∨ k = 3 ∨ k = 4 ∨ k = 5 ∨ k = 6 ∨ k = 7 by omega) with h | h | h | h | h | h | h | h <;> subst h <;> decide
  have e : (b.toNat : Int) * 2 ^ k % 256 = ((b.toNat * 2 ^ k : Nat) : Int) := by
    cases b
    · simp
    · simp; omega
  rw [e, u8_or_nat x _ hx (by cases b <;> simp <;> omega)]

theorem take_snoc (l : List Bool) (k : Nat) (h : k < l.length) : l.take (k + 1) = l.take k ++ [l.getD k false] := by
  rw [List.take_add_one, List.getD_eq_getElem?_getD, List.getElem?_eq_getElem h]; rfl

set_option maxHeartbeats 4000000 in
theorem rbytes_calls (p : Nat) (v : Value) (l : List Bool) (w : World) (hW : IsR w p v l) (hl : l.length < 1000000000000) :
    Calls Try.prog 45 #[.pointer (some ⟨p, 0, none⟩)] w fun e w' => e = .returned (.string (textOf (pack l))) ∧ Below w.heap.size w w' := by
  obtain ⟨i0, hi, hz0, hz1, hz2⟩ := info_parts infoU8
  obtain ⟨a, cap, rfl, hne⟩ := hW.row.slice
  obtain ⟨n, hn⟩ : ∃ n, n = l.length := ⟨_, rfl⟩
  rw [length_u8s, length_bits01, ← hn] at hW
  rw [← hn] at hl
  have hcp : w.cell? ⟨p, 0, none⟩ = some (.slice a n cap) := hW.blk.cell rfl
  obtain ⟨M, hM⟩ : ∃ M, M = (n + 7) / 8 := ⟨_, rfl⟩
  have hMn : n ≤ 8 * M := by omega
  have hM2 : M ≤ n := by omega
  obtain ⟨G, hG⟩ : ∃ G, G = w.heap.size := ⟨_, rfl⟩
  have HW := kept hW
  have HN := kept hn
  have HM := kept hM
  have HG := kept hG
  clear hW hn hG hM
  rw [← HG.out]
  obtain ⟨T, hT⟩ : ∃ T, T = textOf (pack l) := ⟨_, rfl⟩
  rw [← hT]
  have HT := kept hT
  clear hT
  go_enter Try.func45, Try.ntmps45
  go_wp2_with (first | (refine wpList_mk1 rfl _ _ 43 rfl 5 i0 (.int .u8 0) 1 Try.underlying43 hi hz0 hz1 hz2 rfl .i64 .i64 _ _ M rfl rfl ?c1 ?c2 ?c3 ?c4 ?_))
  case c1 => have := HM.out; omega
  case c2 => have := HM.out; omega
  case c3 => omega
  case c4 => simp [maxLen]; omega
  rw [← HG.out]
  intro w1 O1 hb1 hlt1
  have HW1 : Kept (IsR w1 p (.slice a n cap) l) := kept (HW.out.keep (Chg.of_below (S := fun _ => False) (by rw [HG.out] at hb1; exact hb1)) id (fun _ _ => id))
  have HO1 : Kept (Owns w1 5 (.slice (some ⟨G, 0, none⟩) M M) (u8s (packN (l.take 0) M))) := kept (by rw [List.take_zero, packN_zero]; simpa [u8s] using O1)
  have HB1 := kept hb1
  have hGl : p < G := by rw [HG.out]; exact HW.out.blk.lt
  clear O1 hb1 hlt1
  go_wp2_with fail
  go_loopw [4] (fun s4 wr => ∃ k : Nat, k ≤ n ∧ s4 = .int .i64 (k : Int) ∧ IsR wr p (.slice a n cap) l ∧ Owns wr 5 (.slice (some ⟨G, 0, none⟩) M M) (u8s (packN (l.take k) M)) ∧ Below G w wr)
    (fun s4 _ => n - (intOf s4).toNat)
  case atStart => exact ⟨0, Nat.zero_le _, rfl, HW1.out, HO1.out, HB1.out⟩
  case round =>
    obtain ⟨k, hk, rfl, hR, hO, hb⟩ := hrel
    have c0 : wr.cell? ⟨p, 0, none⟩ = some (.slice a n cap) := hR.blk.cell rfl
    by_cases hlt : k < n
    · have hlt2 : k < l.length := by rw [← HN.out]; exact hlt
      obtain ⟨h, rfl⟩ := hne (by intro e; have := congrArg List.length e; simp at this; rw [this] at hlt2; simp at hlt2)
      obtain ⟨b, hbb⟩ : ∃ b, b = l.getD k false := ⟨_, rfl⟩
      have c1 : wr.cell? ⟨h, k, none⟩ = some (.int .u8 (b.toNat : Int)) := hR.row.cell (by simp [u8s, bits01, hbb, List.getD_eq_getElem?_getD, hlt2])
      obtain ⟨x, hx⟩ : ∃ x, x = byteAt (l.take k) (k / 8) := ⟨_, rfl⟩
      have hx8 : x < 256 := by rw [hx]; exact byteAt_lt _ _
      have hk8 : k / 8 < M := by omega
      have c2 : wr.cell? ⟨G, k / 8, none⟩ = some (.int .u8 (x : Int)) := hO.cell (by simp [u8s, getElem?_packN _ _ _ hk8, hx])
      have f2 : wr.frozen? ⟨G, k / 8, none⟩ = false := hO.free _
      have l0 := lat_cell c0
      have l1 := lat_cell c1
      have l2 := lat_cell c2
      have HR := kept hR
      have HO := kept hO
      have HBr := kept hb
      have HX := kept hx
      have HBB := kept hbb
      clear hR hO hb hx hbb HW1 HO1 HB1
      go_wp2_with fail
      refine wp_region_mixL [] [0,1,2,3,4,5,6,7,8,9,10,11,12,13,14,15,16] [17] (by kernel_rfl) (by kernel_rfl) ?_
      intro K hK
      simp only [pick, List.filterMap_cons, List.filterMap_nil, List.getElem?_cons_zero, List.getElem?_cons_succ]
      refine wpQuiet_nil ?_
      repeat (show wpQuiet _ _ _ _ (_ :: _) _; go_big_quiet_step (fail))
      refine wpQuiet_nil ?_
      show wpList _ _ _ (_ :: _) _ _
      go_wp2_with fail
      refine hK _ _ ?_
      rw [or_bit x (k % 8) b hx8 (by omega)]
      generalize hw2 : World.drew (World.setCell wr _ _) = w2
      have hpG : p ≠ G := by omega
      have hhG : h < G := by rw [HG.out]; exact HW.out.row.lt h rfl
      have hR2 : IsR w2 p (.slice (some ⟨h, 0, none⟩) n cap) l := by
        rw [← hw2]
        exact ⟨HR.out.blk.setOther (a := ⟨G, k / 8, none⟩) hpG _, HR.out.row.setOther (a := ⟨G, k / 8, none⟩) (by simp [Value.ownBlock]; omega) _⟩
      have hO2 : Owns w2 5 (.slice (some ⟨G, 0, none⟩) M M) (u8s (packN (l.take (k + 1)) M)) := by
        rw [← hw2, take_snoc l k hlt2, packN_snoc, u8s_set, List.length_take, Nat.min_eq_left (by omega), ← HX.out, ← HBB.out]
        exact HO.out.store _ _
      have hB2 : Below G w w2 := by
        rw [← hw2]
        exact (HBr.out.setCell (p := ⟨G, k / 8, none⟩) (Nat.le_refl _) _).drew
      have X1 := kept hR2
      have X2 := kept hO2
      have X3 := kept hB2
      clear hR2 hO2 hB2 hw2 l0 l1 l2 c0 c1 c2 f2
      go_wp2_with fail
      go_roundw
      case rel => exact ⟨k + 1, by omega, by go_num, X1.out, X2.out, X3.out⟩
      case measure => simp [intOf]; omega
    · have hkn : k = n := by omega
      subst hkn
      have hcv := conv_string hO
      rw [List.take_of_length_le (by rw [HN.out]; exact Nat.le_refl _)] at hcv
      have e : packN l M = pack l := by rw [pack, HM.out, HN.out]
      rw [e] at hcv
      rw [← HT.out] at hcv
      have HBr := kept hb
      clear e hb hO hR
      go_wp2_with fail
      go_ret
      exact ⟨rfl, HBr.out⟩
end Go.Proofs.Yteeegomdaebobaa

-- ---- Sized
/- What can be read of a slice, whoever owns it; a law's parameter that is a slice of whole numbers. No program in sight. -/
namespace Go.Proofs.Yteeegomdaebobaa.Own
set_option maxRecDepth 100000
set_option linter.unusedSimpArgs false
set_option linter.unusedVariables false
open Go Go.RowKit Go.ChangeShapes Go.WideShapes

/-- The block where a slice's cells lie. -/
def homeOf : Value → Option Nat
  | .slice (some x) (_ + 1) _ => some x.block
  | _ => none

/-- Of v the elements xs can be read. -/
def Rd (w : World) (v : Value) (xs : List Value) : Prop :=
  ∃ a cap, v = .slice a xs.length cap ∧ xs.length ≤ cap ∧ cap ≤ maxLen ∧ ∀ i u, xs[i]? = some u → ∃ x, a = some x ∧ w.cell? (x.add i) = some u

theorem Rd.nil (w : World) : Rd w (.slice none 0 0) [] := ⟨none, 0, rfl, Nat.le_refl _, by simp [maxLen], fun i u h => by simp at h⟩

theorem add_block (x : Addr) (i : Nat) : (x.add i).block = x.block := by unfold Addr.add; split <;> rfl
theorem lt_of_cell {w : World} {p : Addr} {v : Value} (h : w.cell? p = some v) : p.block < w.heap.size := by
  rcases Nat.lt_or_ge p.block w.heap.size with hl | hl
  · exact hl
  · simp [World.cell?, Array.getElem?_eq_none hl] at h

theorem Rd.lt {w : World} {v : Value} {xs : List Value} (h : Rd w v xs) : ∀ g, homeOf v = some g → g < w.heap.size := by
  intro g hg
  obtain ⟨a, cap, rfl, _, _, hc⟩ := h
  cases xs with
  | nil => cases a <;> simp [homeOf] at hg
  | cons u t =>
    obtain ⟨x, rfl, hx⟩ := hc 0 u rfl
    simp [homeOf] at hg
    subst hg
    have := lt_of_cell hx
    rwa [add_block] at this

theorem Rd.keep {w w' : World} {v : Value} {xs : List Value} (h : Rd w v xs) (hk : ∀ g, homeOf v = some g → g < w.heap.size → w'.heap[g]? = w.heap[g]?) : Rd w' v xs := by
  obtain ⟨a, cap, rfl, h1, h2, hc⟩ := h
  refine ⟨a, cap, rfl, h1, h2, fun i u hu => ?_⟩
  obtain ⟨x, rfl, hx⟩ := hc i u hu
  have hpos : 0 < xs.length := by have := (List.getElem?_eq_some_iff.1 hu).1; omega
  have hhome : homeOf (Value.slice (some x) xs.length cap) = some x.block := by
    cases xs with
    | nil => simp at hpos
    | cons => rfl
  have hlt := lt_of_cell hx
  rw [add_block] at hlt
  exact ⟨x, rfl, (World.cell?_of_block (w := w) (a := x.add i) (by rw [add_block]; exact hk x.block hhome hlt)).trans hx⟩
theorem Rd.chg {w w' : World} {S : Nat → Prop} {v : Value} {xs : List Value} (h : Rd w v xs) (hc : Chg S w w') (hn : ∀ g, homeOf v = some g → ¬ S g) : Rd w' v xs :=
  h.keep fun g hg hl => hc.block g hl (hn g hg)
theorem Rd.below {B : Nat} {w w' : World} {v : Value} {xs : List Value} (h : Rd w v xs) (hb : Below B w w') (hB : ∀ g, homeOf v = some g → g < B) : Rd w' v xs :=
  h.keep fun g hg _ => hb.block g (hB g hg)
theorem Rd.later {w w' : World} {v : Value} {xs : List Value} (h : Rd w v xs) (hb : Below w.heap.size w w') : Rd w' v xs :=
  h.below hb h.lt

theorem Owns.rd {w : World} {e : TypeId} {v : Value} {xs : List Value} (h : Owns w e v xs) : Rd w v xs := by
  rcases h.form with ⟨rfl, rfl⟩ | ⟨g, cap, cur, rfl, hb, hc, hm, hs, ht⟩
  · exact Rd.nil w
  · refine ⟨_, cap, rfl, hc, hm, fun i u hu => ⟨_, rfl, ?_⟩⟩
    have := h.cell hu
    rw [show (⟨g, 0, none⟩ : Addr).add i = ⟨g, i, none⟩ from by unfold Addr.add; split <;> simp_all]
    exact this
theorem Rd.length {w : World} {a : Option Addr} {n cap : Nat} {xs : List Value} (h : Rd w (.slice a n cap) xs) : n = xs.length := by
  obtain ⟨_, _, hv, _⟩ := h
  simp at hv
  exact hv.2.1
theorem Rd.at {w : World} {a : Option Addr} {n cap : Nat} {xs : List Value} (h : Rd w (.slice a n cap) xs) {i : Nat} {u : Value} (hu : xs[i]? = some u) : ∃ x, a = some x ∧ w.cell? (x.add i) = some u := by
  obtain ⟨_, _, hv, _, _, hc⟩ := h
  simp only [Value.slice.injEq] at hv
  obtain ⟨rfl, _, rfl⟩ := hv
  exact hc i u hu

theorem add_add (x : Addr) (i j : Nat) : (x.add i).add j = x.add (i + j) := by
  unfold Addr.add
  by_cases hi : i = 0
  · subst hi; simp
  · by_cases hj : j = 0
    · subst hj; simp [hi]
    · simp [hi, hj, Nat.add_assoc]

/-- What can be read of a part of a slice. -/
theorem Rd.sub {w : World} {a : Option Addr} {N cap : Nat} {xs : List Value} (h : Rd w (.slice a N cap) xs) (k n : Nat) (hk : k + n ≤ N) :
    Rd w (.slice (if cap = k then a else a.map (fun x => x.add k)) (k + n - k) (cap - k)) ((xs.drop k).take n) := by
  obtain ⟨_, _, hv, h1, h2, hc⟩ := h
  simp only [Value.slice.injEq] at hv
  obtain ⟨rfl, rfl, rfl⟩ := hv
  have hl : ((xs.drop k).take n).length = n := by rw [List.length_take, List.length_drop]; omega
  refine ⟨_, _, by rw [hl, Nat.add_sub_cancel_left], by rw [hl]; omega, by omega, fun i u hu => ?_⟩
  have hi : i < n := by have := (List.getElem?_eq_some_iff.1 hu).1; omega
  rw [List.getElem?_take, if_pos hi, List.getElem?_drop] at hu
  obtain ⟨x, rfl, hx⟩ := hc _ u hu
  rw [if_neg (by omega)]
  exact ⟨x.add k, rfl, by rw [add_add]; exact hx⟩

theorem Rd.take {w : World} {a : Option Addr} {N cap : Nat} {xs : List Value} (h : Rd w (.slice a N cap) xs) (n : Nat) (hn : n ≤ N) : Rd w (.slice a n cap) (xs.take n) := by
  obtain ⟨_, _, hv, h1, h2, hc⟩ := h
  simp only [Value.slice.injEq] at hv
  obtain ⟨rfl, rfl, rfl⟩ := hv
  have hl : (xs.take n).length = n := by rw [List.length_take]; omega
  refine ⟨_, _, by rw [hl], by rw [hl]; omega, h2, fun i u hu => ?_⟩
  have hi : i < n := by have := (List.getElem?_eq_some_iff.1 hu).1; omega
  rw [List.getElem?_take, if_pos hi] at hu
  exact hc i u hu

/-- Whole numbers from nought on, as values; whole numbers, as values. -/
def nums (k : IntKind) (l : List Nat) : List Value := l.map fun n : Nat => .int k (n : Int)
def ints (k : IntKind) (l : List Int) : List Value := l.map fun n => .int k n
@[simp] theorem length_nums (k : IntKind) (l : List Nat) : (nums k l).length = l.length := by simp [nums]
@[simp] theorem length_ints (k : IntKind) (l : List Int) : (ints k l).length = l.length := by simp [ints]
theorem nums_at (k : IntKind) (l : List Nat) (i : Nat) (h : i < l.length) : (nums k l)[i]? = some (.int k ((l.getD i 0 : Nat) : Int)) := by
  simp [nums, List.getD_eq_getElem?_getD, h]
theorem ints_at (k : IntKind) (l : List Int) (i : Nat) (h : i < l.length) : (ints k l)[i]? = some (.int k (l.getD i 0)) := by
  simp [ints, List.getD_eq_getElem?_getD, h]

/-- A law's parameter that is a slice of whole numbers. -/
def Arg (k : IntKind) (w : World) (a : Option Addr) (len cap : Nat) (zs : List Int) : Prop :=
  (a = none ∧ len = 0 ∧ cap = 0 ∧ zs = []) ∨
  ∃ x, a = some x ∧ len ≤ cap ∧ cap ≤ maxLen ∧ zs.length = cap ∧ (∀ i, i < zs.length → w.cell? (x.add i) = some (.int k (zs.getD i 0))) ∧ ∀ n ∈ zs, (Lit.int k n).wf = true

theorem Arg.rd {k : IntKind} {w : World} {a : Option Addr} {len cap : Nat} {zs : List Int} (h : Arg k w a len cap zs) :
    ∃ xs : List Int, xs.length = len ∧ Rd w (.slice a len cap) (ints k xs) ∧ ∀ n ∈ xs, (Lit.int k n).wf = true := by
  rcases h with ⟨rfl, rfl, rfl, rfl⟩ | ⟨x, rfl, hl, hm, hz, hc, hw⟩
  · exact ⟨[], rfl, Rd.nil w, by simp⟩
  · have hlen : (zs.take len).length = len := by rw [List.length_take]; omega
    refine ⟨zs.take len, hlen, ⟨some x, cap, by rw [length_ints, hlen], by rw [length_ints, hlen]; exact hl, hm, fun i u hu => ⟨x, rfl, ?_⟩⟩, fun n hn => hw n (List.mem_of_mem_take hn)⟩
    have hi : i < len := by have := (List.getElem?_eq_some_iff.1 hu).1; rw [length_ints, hlen] at this; exact this
    rw [ints_at k _ i (by omega)] at hu
    have := hc i (by omega)
    rw [this, ← hu]
    simp [List.getD_eq_getElem?_getD, List.getElem?_take, hi]

/-- A row's slice of whole numbers is no longer than its weight allows. -/
theorem sized_ints {H : Type} {enc : TypeId × Value → H} {P : Program} {W : World} {base : Nat} {spare : Nat → Bool} {held : Bool} {t e : TypeId} {k : IntKind} {a : Option Addr} {len cap : Nat} {d : DataW H} {ps : List MemPlace} {ts : List TypeId} {ds : List (DataW H)} {j : Nat}
    (hsz : (DataW.weightsEach P ts ds).all (· ≤ reachBytes) = true) (ht : ts[j]? = some t) (hd : ds[j]? = some d) (hu : P.underlying t = some (.slice e)) (he : P.underlying e = some (.int k)) (hc : P.cellsOf e = 1) {B : Nat} (hB : P.bytesOf e = B)
    (h : DataW.Trod enc P W base spare held t (.slice a len cap) d ps) : len * B ≤ 140737488351232 := by
  obtain ⟨fuel, hf⟩ := h
  rcases open_ints hu he hc hf with ⟨hcs, _⟩ | ⟨x, l, c, zs, hcs, _, hl, _, hz, hx, _, _⟩
  · simp [Value.cells] at hcs
    obtain ⟨rfl, rfl, rfl⟩ := hcs
    simp
  · simp [Value.cells] at hcs
    obtain ⟨rfl, rfl, rfl⟩ := hcs
    obtain ⟨hx, _⟩ := Prod.mk.inj hx
    subst hx
    have z := sized_slice hsz ht hd hu
    rw [hB] at z
    have hl2 : len ≤ zs.length := by
      rw [hz]
      split
      · exact hl
      · exact Nat.le_refl _
    have h1 : (lits (H := H) k (zs.take len)).length + (lits (H := H) k (zs.drop len)).length = zs.length := by
      simp [lits]
      omega
    rw [h1] at z
    exact Nat.le_trans (Nat.mul_le_mul_right _ hl2) z
end Go.Proofs.Yteeegomdaebobaa.Own

-- ---- Rn
/- wringerref1: the bits of a text; a number of bits. -/
namespace Go.Proofs.Yteeegomdaebobaa
set_option maxRecDepth 100000
set_option linter.unusedSimpArgs false
set_option linter.unusedVariables false
open Go.RowKit Mix _root_.Go.Proofs.Yteeegomdaebobaa.Own Bits
attribute [local go_sem] max_int min_int

theorem and8 (b j : Nat) (hb : b < 256) : bits .and .u8 ((b : Int) / 2 ^ j) 1 = ((b.testBit j).toNat : Int) := by
  have h1 : (b : Int) / 2 ^ j ≤ b := Int.ediv_le_self _ (by omega)
  have e : ((b : Int) / 2 ^ j) = ((b / 2 ^ j : Nat) : Int) := by simp
  have h2 : b / 2 ^ j ≤ b := Nat.div_le_self _ _
  rw [e, show (1 : Int) = ((1 : Nat) : Int) by rfl, u8_and_nat _ _ (by omega) (by decide), nat_mask1]
  rw [Nat.testBit_eq_decide_div_mod_eq]
  by_cases h : b / 2 ^ j % 2 = 1 <;> simp [h] <;> omega
theorem bits01_at (l : List Bool) (i : Nat) (h : i < l.length) : (u8s (bits01 l))[i]? = some (.int .u8 ((l.getD i false).toNat : Int)) := by
  simp [u8s, bits01, List.getD_eq_getElem?_getD, h]

set_option maxHeartbeats 2000000 in
theorem number_calls (a : Option Addr) (n cap : Nat) (l : List Bool) (w : World) (hR : Rd w (.slice a n cap) (u8s (bits01 l))) (hl : l.length ≤ 64) :
    Calls Try.prog 72 #[.slice a n cap] w fun e w' => e = .returned (.int .u64 (ofBits l : Int)) ∧ w = w' := by
  have hn := hR.length
  rw [length_u8s, length_bits01] at hn
  have HN := kept hn
  have HR := kept hR
  have hn64 : n ≤ 64 := by omega
  clear hn hR hl
  obtain ⟨T, hT⟩ : ∃ T, T = ofBits l := ⟨_, rfl⟩
  rw [← hT]
  have HT := kept hT
  clear hT
  go_enter Try.func72, Try.ntmps72
  go_wp2_with fail
  go_loopw [3, 4] (fun s3 s4 wr => ∃ i : Nat, i ≤ n ∧ s4 = .int .i64 (i : Int) ∧ (∃ m : Nat, m = ofBits (l.take i) ∧ s3 = .int .u64 (m : Int)) ∧ wr = w) (fun s3 s4 _ => n - (intOf s4).toNat)
  case atStart => exact ⟨0, Nat.zero_le _, rfl, ⟨0, rfl, rfl⟩, rfl⟩
  case round =>
    obtain ⟨i, hi, rfl, ⟨m, hm, rfl⟩, rfl⟩ := hrel
    by_cases hlt : i < n
    · obtain ⟨x, rfl, hc⟩ := HR.out.at (bits01_at l i (by rw [← HN.out]; exact hlt))
      obtain ⟨b, hb⟩ : ∃ b, b = l.getD i false := ⟨_, rfl⟩
      rw [← hb] at hc
      have hst := or_step (l.take i) b i (by rw [List.length_take, ← HN.out]; omega) (by omega)
      rw [hb, ← take_succ_getD l i (by rw [← HN.out]; exact hlt), ← hm, ← hb] at hst
      obtain ⟨c, hcc⟩ : ∃ c, c = b.toNat := ⟨_, rfl⟩
      rw [← hcc] at hc hst
      have hc1 : c < 256 := by rw [hcc]; cases b <;> decide
      clear hcc hb hm
      go_wp2_with fail
      go_roundw
      case rel => exact ⟨i + 1, by omega, by go_num, ⟨_, rfl, rfl⟩, trivial⟩
      case measure => simp [intOf]; omega
    · have hin : i = n := by omega
      subst hin
      rw [List.take_of_length_le (by rw [← HN.out]; exact Nat.le_refl _), ← HT.out] at hm
      subst hm
      go_wp2_with fail
      go_ret
      exact ⟨rfl, rfl⟩

set_option maxHeartbeats 4000000 in
theorem bits_calls (s : ByteArray) (w : World) (hs : s.size ≤ 1000000000) :
    Calls Try.prog 71 #[.string s] w fun e w' => ∃ v, e = .returned v ∧ Owns w' 5 v (u8s (bits01 (bitsS s))) ∧ Below w.heap.size w w' ∧ ∀ g, v.ownBlock = some g → w.heap.size ≤ g := by
  obtain ⟨i0, hi, hz0, hz1, hz2⟩ := info_parts infoU8
  obtain ⟨B, hB⟩ : ∃ B, B = w.heap.size := ⟨_, rfl⟩
  rw [← hB]
  have HB := kept hB
  clear hB
  have hs2 : s.size < 2000000000 := by omega
  have HS := kept hs
  clear hs
  go_enter Try.func71, Try.ntmps71
  go_wp2_with fail
  go_loopw [3, 4] (fun s3 s4 wr => ∃ i : Nat, i ≤ s.size ∧ s4 = .int .i64 (i : Int) ∧ Owns wr 5 s3 (u8s (bits01 ((bitsS s).take (8 * i)))) ∧ Below B w wr ∧ (∀ g, s3.ownBlock = some g → B ≤ g) ∧ B ≤ wr.heap.size) (fun s3 s4 _ => s.size - (intOf s4).toNat)
  case atStart => exact ⟨0, Nat.zero_le _, rfl, by simpa [u8s, bits01] using Owns.nil w _, by rw [HB.out]; exact Below.refl _ _, fun g hg => by simp [Value.ownBlock] at hg, by rw [HB.out]; exact Nat.le_refl _⟩
  case round =>
    obtain ⟨i, hi1, rfl, hO, hb, hg, hsz⟩ := hrel
    have HO := kept hO
    have HBr := kept hb
    have HG := kept hg
    have HSz := kept hsz
    clear hO hb hg hsz
    by_cases hlt : i < s.size
    · have hix := run_ix (P := Try.prog) (T := 9) Try.underlying9 s (i : Int) i rfl hlt
      obtain ⟨b, hb⟩ : ∃ b, b = byteS s i := ⟨_, rfl⟩
      have hb8 : b < 256 := by rw [hb]; exact byteS_lt _ _
      rw [← hb] at hix
      have HBy := kept hb
      clear hb
      go_wp2_with fail
      go_loopw [3, 5] (fun s3 s5 wr => ∃ (j : Nat) (v1 : Value), v1 = s3 ∧ j ≤ 8 ∧ s5 = .int .i64 (j : Int) ∧ Owns wr 5 s3 (u8s (bits01 ((bitsS s).take (8 * i + j)))) ∧ Below B w wr ∧ (∀ g, s3.ownBlock = some g → B ≤ g) ∧ B ≤ wr.heap.size) (fun s3 s5 _ => 8 - (intOf s5).toNat)
      case atStart => exact ⟨0, _, rfl, Nat.zero_le _, rfl, HO.out, HBr.out, HG.out, HSz.out⟩
      case round =>
        obtain ⟨j, v1, rfl, hj, rfl, hO, hb, hg, hsz⟩ := hrel
        have HOj := kept hO
        have HBj := kept hb
        have HGj := kept hg
        have HSj := kept hsz
        clear hO hb hg hsz HO HBr HG HSz
        by_cases hlt2 : j < 8
        · have hand := and8 b j hb8
          obtain ⟨y, hy⟩ : ∃ y, y = b.testBit j := ⟨_, rfl⟩
          rw [← hy] at hand
          have HY := kept hy
          have hlen : ((bitsS s).take (8 * i + j)).length = 8 * i + j := by rw [List.length_take]; simp; omega
          have HL := kept hlen
          clear hy hlen
          go_wp2_with (first | (at_builtin; refine wpList_app1 rfl _ _ 43 rfl 5 i0 (.int .u8 0) 1 Try.underlying43 hi hz0 hz1 hz2 rfl v1 _ (.int .u8 (y.toNat : Int)) rfl HOj.out rfl rfl ?_ ?_ ?_) | fail)
          · have := HL.out; simp [maxLen]; omega
          · have := HL.out; simp; omega
          intro v2 w2 O2 hch F
          have O2 : Owns w2 5 v2 (u8s (bits01 ((bitsS s).take (8 * i + (j + 1))))) := by
            have e : (bitsS s).take (8 * i + (j + 1)) = (bitsS s).take (8 * i + j) ++ [y] := by
              rw [show 8 * i + (j + 1) = (8 * i + j) + 1 by omega, take_succ_getD _ _ (by simp; omega), getD_bitsS, HY.out, HBy.out]
              have h1 : 8 * i + j < 8 * s.size := by omega
              simp only [h1, decide_true, Bool.true_and, bitS]
              rw [show (8 * i + j) / 8 = i by omega, show (8 * i + j) % 8 = j by omega]
            rw [e]; simpa [bits01, u8s] using O2
          have HO2 := kept O2
          have HB2 : Kept (Below B w w2) := kept (HBj.out.trans (hch.below HSj.out (fun k hk h => by have := HGj.out k h.symm; omega)))
          have HS2 : Kept (B ≤ w2.heap.size) := kept (Nat.le_trans HSj.out hch.size)
          have HG2 : Kept (∀ g, v2.ownBlock = some g → B ≤ g) := kept (fun g hg => by
            rcases F g hg with h | h
            · exact HGj.out g h.symm
            · have := HSj.out; omega)
          clear O2 hch F hand
          go_wp2_with fail
          go_roundw
          case rel => exact ⟨j + 1, _, rfl, by omega, by go_num, HO2.out, HB2.out, HG2.out, HS2.out⟩
          case measure => simp [intOf]; omega
        · have hj8 : j = 8 := by omega
          subst hj8
          go_wp2_with fail
          go_roundw
          case rel => exact ⟨i + 1, by omega, by go_num, HOj.out, HBj.out, HGj.out, HSj.out⟩
          case measure => simp [intOf]; omega
    · have hin : i = s.size := by omega
      subst hin
      go_wp2_with fail
      go_ret
      exact ⟨_, rfl, by have h := HO.out; rwa [List.take_of_length_le (by simp)] at h, HBr.out, HG.out⟩

theorem got_cells {w : World} {G : Nat} {x y z : Value} {t : TypeId} (h : Blk w G #[x, y, z] t) :
    w.cell? ⟨G, 0, none⟩ = some x ∧ w.cell? ⟨G, 1, none⟩ = some y ∧ w.cell? ⟨G, 2, none⟩ = some z ∧ w.frozen? ⟨G, 0, none⟩ = false ∧ w.frozen? ⟨G, 1, none⟩ = false ∧ w.frozen? ⟨G, 2, none⟩ = false :=
  ⟨h.cell rfl, h.cell rfl, h.cell rfl, h.free 0, h.free 1, h.free 2⟩
end Go.Proofs.Yteeegomdaebobaa

-- ---- Kr
/- back.Reader: what its functions do. -/
namespace Go.Proofs.Yteeegomdaebobaa
set_option maxRecDepth 100000
set_option linter.unusedSimpArgs false
set_option linter.unusedVariables false
open Go.RowKit Mix _root_.Go.Proofs.Yteeegomdaebobaa.Own Bits
attribute [local go_sem] max_int min_int

/-- The last byte of a text; where its highest bit lies. -/
def lastB (s : ByteArray) : Nat := byteS s (s.size - 1)
def topS (s : ByteArray) : Nat := 8 * (s.size - 1) + (Zig.bl (lastB s) - 1)
theorem lastB_lt (s : ByteArray) : lastB s < 256 := byteS_lt _ _
theorem bl_last (s : ByteArray) (h : lastB s ≠ 0) : 1 ≤ Zig.bl (lastB s) ∧ Zig.bl (lastB s) ≤ 8 := by
  have h1 := lastB_lt s
  exact ⟨Zig.bl_pos _ h (by omega), Go.Lib.bitLen_le _ 8 (by decide) (by omega)⟩
theorem topS_lt (s : ByteArray) (h0 : 0 < s.size) (h : lastB s ≠ 0) : topS s < 8 * s.size := by
  have := bl_last s h
  unfold topS; omega

/-- What is got of the bits before left. -/
def getE (s : ByteArray) (left : Nat) (n : Int) : Nat × Nat × Nat :=
  if n < 0 ∨ 64 < n then (0, 1, left) else if (left : Int) < n then (0, 2, left) else (ofBits (((bitsS s).drop (left - n.toNat)).take n.toNat), 0, left - n.toNat)

abbrev IsE (w : World) (p : Nat) (s : ByteArray) (k : Nat) : Prop := Blk w p #[.string s, .int .i64 (k : Int)] 139
theorem IsE.later {w w' : World} {p : Nat} {s : ByteArray} {k : Nat} (h : IsE w p s k) (hc : Below w.heap.size w w') : IsE w' p s k := (hc.block p (Blk.lt h)).trans h
theorem IsE.keep {w w' : World} {S : Nat → Prop} {p : Nat} {s : ByteArray} {k : Nat} (h : IsE w p s k) (hc : Chg S w w') (hp : ¬ S p) : IsE w' p s k := hc.keep h hp

theorem bfrom_empty (s : ByteArray) (w : World) (h : s.size = 0) :
    Calls Try.prog 64 #[.string s] w fun e w' => e = .returned (.tuple #[.pointer none, .int .i64 3]) ∧ w = w' := by
  have hs : s = ⟨#[]⟩ := by
    cases s with
    | mk d => have : d = #[] := Array.eq_empty_of_size_eq_zero h
              rw [this]
  subst hs
  go_enter Try.func64, Try.ntmps64
  go_wp2_with fail
  go_ret2
  exact ⟨rfl, rfl⟩

theorem toList_ne (s : ByteArray) (h : 0 < s.size) : s.toList.isEmpty = false := by
  rw [ByteArray.toList_eq, List.isEmpty_eq_false_iff]
  intro e
  have : s.data.toList.length = 0 := by rw [e]; rfl
  rw [Array.length_toList] at this
  have h2 : s.data.size = s.size := rfl
  omega

theorem bfrom_zero (s : ByteArray) (w : World) (h : 0 < s.size) (hs : s.size ≤ 1000000000000) (h0 : lastB s = 0) :
    Calls Try.prog 64 #[.string s] w fun e w' => e = .returned (.tuple #[.pointer none, .int .i64 3]) ∧ w = w' := by
  have hne := toList_ne s h
  have hix := run_ix (P := Try.prog) (T := 9) Try.underlying9 s ((s.size : Int) - 1) (s.size - 1) (by omega) (by omega)
  rw [show byteS s (s.size - 1) = 0 from h0] at hix
  have hs2 : s.size < 2000000000000 := by omega
  clear hs
  go_enter Try.func64, Try.ntmps64
  go_wp2_with fail
  go_ret2
  exact ⟨rfl, rfl⟩

theorem bfrom_calls (s : ByteArray) (w : World) (h : 0 < s.size) (hs : s.size ≤ 1000000000000) (h0 : lastB s ≠ 0) :
    Calls Try.prog 64 #[.string s] w fun e w' => ∃ p, e = .returned (.tuple #[.pointer (some ⟨p, 0, none⟩), .int .i64 0]) ∧ IsE w' p s (topS s) ∧ Below w.heap.size w w' ∧ w.heap.size ≤ p := by
  have hne := toList_ne s h
  have hix := run_ix (P := Try.prog) (T := 9) Try.underlying9 s ((s.size : Int) - 1) (s.size - 1) (by omega) (by omega)
  have hbl := bl_last s h0
  obtain ⟨b, hb⟩ : ∃ b, b = lastB s := ⟨_, rfl⟩
  have hb8 : b < 256 := by rw [hb]; exact lastB_lt s
  rw [show byteS s (s.size - 1) = b from hb.symm] at hix
  have hb0 : ((b : Int) == 0) = false := by rw [beq_eq_false_iff_ne]; omega
  have hl := len8_calls b w hb8
  obtain ⟨L, hL⟩ : ∃ L, L = Go.Lib.bitLen b := ⟨_, rfl⟩
  have htop : 8 * (s.size : Int) - 9 + (L : Int) = (topS s : Int) := by
    have e : topS s = 8 * (s.size - 1) + (L - 1) := by unfold topS; rw [← hb, hL]
    have hb1 : 1 ≤ L := by rw [hL, hb]; exact hbl.1
    omega
  have hL8 : L ≤ 8 := by rw [hL, hb]; exact hbl.2
  rw [← hL] at hl
  obtain ⟨t, ht⟩ : ∃ t, t = topS s := ⟨_, rfl⟩
  rw [← ht] at htop
  rw [← ht]
  have hs2 : s.size < 2000000000000 := by omega
  have HL := kept hl
  clear hl hs hb hL hbl ht
  go_enter Try.func64, Try.ntmps64
  go_wp2_with (first | (go_at_call 79; refine HL.out.mono ?_; rintro e w' ⟨rfl, rfl⟩))
  go_ret2
  exact ⟨_, rfl, Blk.fresh _ _ _, (Below.refl _ _).alloc (Nat.le_refl _) _, Nat.le_refl _⟩

theorem bleft_calls (p : Nat) (s : ByteArray) (k : Nat) (w : World) (h : IsE w p s k) : Calls Try.prog 38 #[.pointer (some ⟨p, 0, none⟩)] w fun e w' => e = .returned (.int .i64 (k : Int)) ∧ w = w' := by
  have c1 : w.cell? ⟨p, 1, none⟩ = some (.int .i64 (k : Int)) := Blk.cell h rfl
  clear h
  go_enter Try.func38, Try.ntmps38
  go_wp2_with fail
  go_ret
  exact ⟨rfl, rfl⟩

set_option maxHeartbeats 2000000 in
theorem bget_arg (p : Nat) (n : Int) (w : World) (hn : n < 0 ∨ 64 < n) :
    Calls Try.prog 80 #[.pointer (some ⟨p, 0, none⟩), .int .i64 n] w fun e w' => e = .returned (.tuple #[.int .u64 0, .int .i64 1]) ∧ w = w' := by
  rcases hn with hn | hn
  · go_enter Try.func80, Try.ntmps80
    go_wp2_with fail
    go_ret2
    exact ⟨rfl, rfl⟩
  · have h0 : ¬ n < 0 := by omega
    go_enter Try.func80, Try.ntmps80
    go_wp2_with fail
    go_ret2
    exact ⟨rfl, rfl⟩

set_option maxHeartbeats 2000000 in
theorem bget_more (p : Nat) (s : ByteArray) (k n : Nat) (w : World) (h : IsE w p s k) (hn : n ≤ 64) (hl : k < n) :
    Calls Try.prog 80 #[.pointer (some ⟨p, 0, none⟩), .int .i64 (n : Int)] w fun e w' => e = .returned (.tuple #[.int .u64 0, .int .i64 2]) ∧ w = w' := by
  have c1 : w.cell? ⟨p, 1, none⟩ = some (.int .i64 (k : Int)) := Blk.cell h rfl
  have h1 : ¬ 64 < n := by omega
  clear h
  go_enter Try.func80, Try.ntmps80
  go_wp2_with fail
  go_ret2
  exact ⟨rfl, rfl⟩

set_option maxHeartbeats 4000000 in
theorem bget_ok (p : Nat) (s : ByteArray) (k n : Nat) (w : World) (h : IsE w p s k) (hs : s.size ≤ 1000000000000) (hk : k ≤ 8 * s.size) (hn : n ≤ 64) (hl : n ≤ k) :
    Calls Try.prog 80 #[.pointer (some ⟨p, 0, none⟩), .int .i64 (n : Int)] w fun e w' => e = .returned (.tuple #[.int .u64 (ofBits (((bitsS s).drop (k - n)).take n) : Int), .int .i64 0]) ∧
      IsE w' p s (k - n) ∧ Chg (fun b => b = p) w w' := by
  have c1 : w.cell? ⟨p, 1, none⟩ = some (.int .i64 (k : Int)) := Blk.cell h rfl
  have f1 : w.frozen? ⟨p, 1, none⟩ = false := h.free 1
  have h1 : ¬ 64 < n := by omega
  have h2 : ¬ k < n := by omega
  obtain ⟨m, hm⟩ : ∃ m, m = k - n := ⟨_, rfl⟩
  have e1 : (k : Int) - (n : Int) = (m : Int) := by omega
  obtain ⟨T, hT⟩ : ∃ T, T = ofBits (((bitsS s).drop (k - n)).take n) := ⟨_, rfl⟩
  rw [← hT, ← hm]
  rw [← hm] at hT
  have H := kept h
  have HT := kept hT
  have hk2 : k < 100000000000000 := by omega
  have HM := kept hm
  have hmn : m + n ≤ 8 * s.size := by omega
  have hs2 : s.size < 2000000000000 := by omega
  clear h hT hm hk hl
  go_enter Try.func80, Try.ntmps80
  go_wp2_with fail
  generalize hw1 : World.setCell w _ _ = w1
  have hB : IsE w1 p s m := by rw [← hw1]; exact H.out.set 1 (.int .i64 (m : Int))
  have hC : Chg (fun b => b = p) w w1 := by rw [← hw1]; exact Chg.setCell w ⟨p, 1, none⟩ _
  have c0 : w1.cell? ⟨p, 0, none⟩ = some (.string s) := Blk.cell hB rfl
  have c1 : w1.cell? ⟨p, 1, none⟩ = some (.int .i64 (m : Int)) := Blk.cell hB rfl
  have HB := kept hB
  have HC := kept hC
  clear hw1 hB hC
  go_loopw [6, 35] (fun s6 s35 wr => ∃ i : Nat, i ≤ n ∧ s35 = .int .i64 (i : Int) ∧ (∃ v : Nat, v = ofBits (((bitsS s).drop m).take i) ∧ s6 = .int .u64 (v : Int)) ∧ wr = w1) (fun s6 s35 _ => n - (intOf s35).toNat)
  case atStart => exact ⟨0, Nat.zero_le _, rfl, ⟨0, rfl, rfl⟩, rfl⟩
  case round =>
    obtain ⟨i, hi, rfl, ⟨v, hv, rfl⟩, rfl⟩ := hrel
    by_cases hlt : i < n
    · have hix := run_ix (P := Try.prog) (T := 9) Try.underlying9 s (((m : Int) + (i : Int)) / 8) ((m + i) / 8) (by omega) (by omega)
      obtain ⟨b, hb⟩ : ∃ b, b = byteS s ((m + i) / 8) := ⟨_, rfl⟩
      have hb8 : b < 256 := by rw [hb]; exact byteS_lt _ _
      rw [← hb] at hix
      have hand := and8 b ((m + i) % 8) hb8
      have hst := or_step (((bitsS s).drop m).take i) (bitS s (m + i)) i (by rw [List.length_take, List.length_drop, length_bitsS]; omega) (by omega)
      rw [← drop_step s m i (by omega), ← hv] at hst
      have e : bitS s (m + i) = b.testBit ((m + i) % 8) := by rw [hb]; rfl
      rw [e] at hst
      obtain ⟨y, hy⟩ : ∃ y, y = (b.testBit ((m + i) % 8)).toNat := ⟨_, rfl⟩
      rw [← hy] at hand hst
      have hy1 : y < 256 := by rw [hy]; cases b.testBit ((m + i) % 8) <;> decide
      clear hb e hy hv
      go_wp2_with fail
      go_roundw
      case rel => exact ⟨i + 1, by omega, by go_num, ⟨_, rfl, rfl⟩, trivial⟩
      case measure => simp [intOf]; omega
    · have hin : i = n := by omega
      subst hin
      rw [← HT.out] at hv
      subst hv
      go_wp2_with fail
      go_ret2
      exact ⟨rfl, HB.out, HC.out⟩

theorem bget_calls (p : Nat) (s : ByteArray) (k : Nat) (n : Int) (w : World) (h : IsE w p s k) (hs : s.size ≤ 1000000000000) (hk : k ≤ 8 * s.size) :
    Calls Try.prog 80 #[.pointer (some ⟨p, 0, none⟩), .int .i64 n] w fun e w' => e = .returned (.tuple #[.int .u64 ((getE s k n).1 : Int), .int .i64 ((getE s k n).2.1 : Int)]) ∧
      IsE w' p s (getE s k n).2.2 ∧ Chg (fun b => b = p) w w' := by
  unfold getE
  by_cases hn : n < 0 ∨ 64 < n
  · rw [if_pos hn]
    exact (bget_arg p n w hn).mono fun e w' ⟨he, hw⟩ => by subst hw; exact ⟨he, h, Chg.refl _ _⟩
  · rw [if_neg hn]
    obtain ⟨m, rfl⟩ := Int.eq_ofNat_of_zero_le (show 0 ≤ n by omega)
    by_cases hm : (k : Int) < (m : Int)
    · rw [if_pos hm]
      exact (bget_more p s k m w h (by omega) (by omega)).mono fun e w' ⟨he, hw⟩ => by subst hw; exact ⟨he, h, Chg.refl _ _⟩
    · rw [if_neg hm]
      exact bget_ok p s k m w h hs hk (by omega) (by omega)
theorem getE_le (s : ByteArray) (k : Nat) (n : Int) : (getE s k n).2.2 ≤ k := by
  unfold getE
  split
  · exact Nat.le_refl _
  · split
    · exact Nat.le_refl _
    · exact Nat.sub_le _ _
end Go.Proofs.Yteeegomdaebobaa

-- ---- Bx
/- bits.Reader: what its methods do. -/
namespace Go.Proofs.Yteeegomdaebobaa
set_option maxRecDepth 100000
set_option linter.unusedSimpArgs false
set_option linter.unusedVariables false
open Go.RowKit Mix _root_.Go.Proofs.Yteeegomdaebobaa.Own Bits
attribute [local go_sem] max_int min_int

/-- A Reader at block p: the text s, the place. -/
def IsRd (w : World) (p : Nat) (s : ByteArray) (k : Nat) : Prop := Blk w p #[.string s, .int .i64 (k : Int)] 141

set_option maxHeartbeats 1000000 in
theorem left_calls (p : Nat) (s : ByteArray) (k : Nat) (w : World) (h : IsRd w p s k) (hs : s.size ≤ 1000000000000) (hk : k ≤ 8 * s.size) :
    Calls Try.prog 68 #[.pointer (some ⟨p, 0, none⟩)] w fun e w' => e = .returned (.int .i64 (8 * (s.size : Int) - k)) ∧ Below w.heap.size w w' := by
  have c0 : w.cell? ⟨p, 0, none⟩ = some (.string s) := Blk.cell h rfl
  have c1 : w.cell? ⟨p, 1, none⟩ = some (.int .i64 (k : Int)) := Blk.cell h rfl
  have l0 := lat_cell c0
  have l1 := lat_cell c1
  have H := kept h
  clear h
  go_enter Try.func68, Try.ntmps68
  go_wp2_with fail
  refine wp_region_quietL (by kernel_rfl) (by kernel_rfl) ?_
  repeat (go_big_quiet_step (fail))
  refine wpQuiet_nil ?_
  intro nq
  go_wp2_with fail
  go_ret
  exact ⟨rfl, nq.below⟩

set_option maxHeartbeats 1000000 in
theorem rbit_calls (p : Nat) (s : ByteArray) (k : Nat) (w : World) (h : IsRd w p s k) (hs : s.size ≤ 1000000000000) (hk : k < 8 * s.size) :
    Calls Try.prog 81 #[.pointer (some ⟨p, 0, none⟩)] w fun e w' => e = .returned (.int .u64 ((bitS s k).toNat : Int)) ∧ IsRd w' p s (k + 1) ∧ Chg (fun b => b = p) w w' := by
  have c0 : w.cell? ⟨p, 0, none⟩ = some (.string s) := Blk.cell h rfl
  have c1 : w.cell? ⟨p, 1, none⟩ = some (.int .i64 (k : Int)) := Blk.cell h rfl
  have l0 := lat_cell c0
  have l1 := lat_cell c1
  have hix := run_ix (P := Try.prog) (T := 9) Try.underlying9 s ((k : Int) / 8) (k / 8) (by omega) (by omega)
  obtain ⟨b, hb⟩ : ∃ b, b = byteS s (k / 8) := ⟨_, rfl⟩
  have hb8 : b < 256 := by rw [hb]; exact byteS_lt _ _
  rw [← hb] at hix
  have HB := kept hb
  clear hb
  have H := kept h
  clear h
  go_enter Try.func81, Try.ntmps81
  go_wp2_with fail
  refine wp_region_quietL (by kernel_rfl) (by kernel_rfl) ?_
  repeat (go_big_quiet_step (fail))
  refine wpQuiet_nil ?_
  intro nq
  have hbit := and_bit b (k % 8) hb8
  rw [hbit]
  have hB1 : Blk nq.w p #[.string s, .int .i64 (k : Int)] 141 := lat_block H.out nq
  have hch := (Chg.of_below (S := fun b => b = p) nq.below)
  generalize nq.w = w1 at hB1 hch ⊢
  have d1 : w1.cell? ⟨p, 1, none⟩ = some (.int .i64 (k : Int)) := hB1.cell rfl
  have f1 : w1.frozen? ⟨p, 1, none⟩ = false := hB1.free 1
  have HB1 := kept hB1
  have HC1 := kept hch
  clear hbit hB1 hch l0 l1 c0 c1 hix
  go_wp2_with fail
  go_ret
  refine ⟨by rw [HB.out]; rfl, ?_, HC1.out.trans (Chg.setCell w1 ⟨p, 1, none⟩ _) (fun _ _ h => h)⟩
  have := HB1.out.set 1 (.int .i64 ((k : Int) + 1))
  simpa [IsRd] using this

/-- What is got: the number, the error, the place behind. -/
def getS (s : ByteArray) (k : Nat) (n : Int) : Nat × Nat × Nat :=
  if n < 0 ∨ 64 < n then (0, 1, k) else if 8 * (s.size : Int) - k < n then (0, 2, k) else (ofBits (((bitsS s).drop k).take n.toNat), 0, k + n.toNat)

set_option maxHeartbeats 2000000 in
theorem get_ok (p : Nat) (s : ByteArray) (k n : Nat) (w : World) (h : IsRd w p s k) (hs : s.size ≤ 1000000000000) (hk : k ≤ 8 * s.size) (hn : n ≤ 64) (hl : k + n ≤ 8 * s.size) :
    Calls Try.prog 67 #[.pointer (some ⟨p, 0, none⟩), .int .i64 (n : Int)] w fun e w' => e = .returned (.tuple #[.int .u64 (ofBits (((bitsS s).drop k).take n) : Int), .int .i64 0]) ∧
      IsRd w' p s (k + n) ∧ Chg (fun b => b = p) w w' := by
  have H := kept h
  clear h
  have t1 : decide ((n : Int) < 0) = false := by simp
  have t2 : decide ((64 : Int) < (n : Int)) = false := by simp; omega
  have t3 : decide (8 * (s.size : Int) - (k : Int) < (n : Int)) = false := by simp; omega
  go_enter Try.func67, Try.ntmps67
  go_wp2_with (first | (go_at_call 68; refine (left_calls p s k w H.out hs hk).mono ?_; rintro e w1 ⟨rfl, hb1⟩; have HB1 := kept hb1; clear hb1))
  go_loopw [7, 27] (fun s7 s27 wr => ∃ i : Nat, i ≤ n ∧ s27 = .int .i64 (i : Int) ∧ s7 = .int .u64 (ofBits (((bitsS s).drop k).take i) : Int) ∧ IsRd wr p s (k + i) ∧ Chg (fun b => b = p) w wr)
    (fun _ s27 _ => n - (intOf s27).toNat)
  case atStart => exact ⟨0, Nat.zero_le _, rfl, by simp [ofBits], by rw [Nat.add_zero]; exact (HB1.out.block p (Blk.lt H.out)).trans H.out, Chg.of_below HB1.out⟩
  case round =>
    obtain ⟨i, hi, rfl, rfl, hR, hC⟩ := hrel
    have HR := kept hR
    have HC := kept hC
    obtain ⟨z, hz⟩ : ∃ z, z = ofBits (((bitsS s).drop k).take i) := ⟨_, rfl⟩
    rw [← hz]
    have HZ := kept hz
    clear hR hC hz
    by_cases hlt : i < n
    · have hki : k + i < 8 * s.size := by omega
      obtain ⟨y, hy⟩ : ∃ y, y = (bitS s (k + i)).toNat := ⟨_, rfl⟩
      have hy1 : y ≤ 1 := by rw [hy]; cases bitS s (k + i) <;> simp
      have HY := kept hy
      clear hy
      go_wp2_with (first | (go_at_call 81; refine (rbit_calls p s (k + i) wr HR.out hs hki).mono ?_; rw [← HY.out]; rintro e w2 ⟨rfl, hR2, hC2⟩; have HR2 := kept hR2; have HC2 := kept hC2; clear hR2 hC2))
      go_roundw
      case rel =>
        refine ⟨i + 1, by omega, by go_num, ?_, HR2.out, HC.out.trans HC2.out (fun _ _ h => h)⟩
        rw [HZ.out, HY.out, drop_step s k i hki, or_step _ _ i (by simp; omega) (by omega)]
      case measure => simp [intOf]; omega
    · go_wp2_with fail
      go_ret2
      have : i = n := by omega
      subst this
      exact ⟨by rw [HZ.out]; rfl, HR.out, HC.out⟩

set_option maxHeartbeats 1000000 in
theorem get_arg (p : Nat) (s : ByteArray) (k : Nat) (n : Int) (w : World) (hn : n < 0 ∨ 64 < n) :
    Calls Try.prog 67 #[.pointer (some ⟨p, 0, none⟩), .int .i64 n] w fun e w' => e = .returned (.tuple #[.int .u64 0, .int .i64 1]) ∧ w = w' := by
  by_cases h0 : n < 0
  · have t1 : decide (n < 0) = true := by simp [h0]
    clear hn
    go_enter Try.func67, Try.ntmps67
    go_wp2_with fail
    go_ret2
    exact ⟨rfl, rfl⟩
  · have t1 : decide (n < 0) = false := by simp [h0]
    have t2 : decide ((64 : Int) < n) = true := by simp; omega
    have h1 : (64 : Int) < n := by omega
    clear hn
    go_enter Try.func67, Try.ntmps67
    go_wp2_with fail
    go_ret2
    exact ⟨rfl, rfl⟩

set_option maxHeartbeats 1000000 in
theorem get_more (p : Nat) (s : ByteArray) (k n : Nat) (w : World) (h : IsRd w p s k) (hs : s.size ≤ 1000000000000) (hk : k ≤ 8 * s.size) (hn : n ≤ 64) (hl : 8 * s.size < k + n) :
    Calls Try.prog 67 #[.pointer (some ⟨p, 0, none⟩), .int .i64 (n : Int)] w fun e w' => e = .returned (.tuple #[.int .u64 0, .int .i64 2]) ∧ Below w.heap.size w w' := by
  have H := kept h
  clear h
  have t1 : decide ((n : Int) < 0) = false := by simp
  have t2 : decide ((64 : Int) < (n : Int)) = false := by simp; omega
  have t3 : decide (8 * (s.size : Int) - (k : Int) < (n : Int)) = true := by simp; omega
  go_enter Try.func67, Try.ntmps67
  go_wp2_with (first | (go_at_call 68; refine (left_calls p s k w H.out hs hk).mono ?_; rintro e w1 ⟨rfl, hb1⟩; have HB1 := kept hb1; clear hb1))
  go_ret2
  exact ⟨rfl, HB1.out⟩

/-- Get, whatever is asked. -/
theorem get_calls (p : Nat) (s : ByteArray) (k : Nat) (n : Int) (w : World) (h : IsRd w p s k) (hs : s.size ≤ 1000000000000) (hk : k ≤ 8 * s.size) :
    Calls Try.prog 67 #[.pointer (some ⟨p, 0, none⟩), .int .i64 n] w fun e w' => e = .returned (.tuple #[.int .u64 ((getS s k n).1 : Int), .int .i64 ((getS s k n).2.1 : Int)]) ∧
      IsRd w' p s (getS s k n).2.2 ∧ Chg (fun b => b = p) w w' := by
  unfold getS
  by_cases hn : n < 0 ∨ 64 < n
  · rw [if_pos hn]
    exact (get_arg p s k n w hn).mono fun e w' ⟨he, hw⟩ => by subst hw; exact ⟨he, h, Chg.refl _ _⟩
  · rw [if_neg hn]
    obtain ⟨m, rfl⟩ := Int.eq_ofNat_of_zero_le (show 0 ≤ n by omega)
    rw [Int.toNat_natCast]
    by_cases hl : 8 * (s.size : Int) - k < (m : Int)
    · rw [if_pos hl]
      exact (get_more p s k m w h hs hk (by omega) (by omega)).mono fun e w' ⟨he, hb⟩ => ⟨he, (hb.block p (Blk.lt h)).trans h, Chg.of_below hb⟩
    · rw [if_neg hl]
      exact get_ok p s k m w h hs hk (by omega) (by omega)

end Go.Proofs.Yteeegomdaebobaa

-- ---- Br
/- bits.Reader: whether nothing is left. -/
namespace Go.Proofs.Yteeegomdaebobaa
set_option maxRecDepth 100000
set_option linter.unusedSimpArgs false
set_option linter.unusedVariables false
open Go.RowKit Mix _root_.Go.Proofs.Yteeegomdaebobaa.Own Bits
attribute [local go_sem] max_int min_int

/-- Whether nothing but noughts is left, and these fewer than eight. -/
def restS (s : ByteArray) (k : Nat) : Bool := decide (8 * s.size < k + 8) && ((bitsS s).drop k).all fun b => !b

theorem restS_byte (s : ByteArray) (k : Nat) (h1 : k < 8 * s.size) (h2 : 8 * s.size < k + 8) : restS s k = (byteS s (s.size - 1) / 2 ^ (k % 8) == 0) := by
  unfold restS
  rw [decide_eq_true h2, Bool.true_and, Bool.eq_iff_iff, ← ofBits_zero, beq_iff_eq]
  have e : ofBits ((bitsS s).drop k) = byteS s (s.size - 1) / 2 ^ (k % 8) := by
    apply Nat.eq_of_testBit_eq
    intro i
    rw [testBit_ofBits, List.getD_eq_getElem?_getD, List.getElem?_drop, ← List.getD_eq_getElem?_getD, getD_bitsS, Nat.testBit_div_two_pow]
    by_cases hi : k + i < 8 * s.size
    · have e1 : (k + i) / 8 = s.size - 1 := by omega
      have e2 : (k + i) % 8 = k % 8 + i := by omega
      simp only [hi, decide_true, Bool.true_and, bitS, e1, e2]
      congr 1; omega
    · simp only [hi, decide_false, Bool.false_and]
      symm
      apply Nat.testBit_lt_two_pow
      have hb := byteS_lt s (s.size - 1)
      have : 2 ^ 8 ≤ 2 ^ (i + k % 8) := Nat.pow_le_pow_right (by decide) (by omega)
      omega
  rw [e]

set_option maxHeartbeats 2000000 in
theorem rest_calls (p : Nat) (s : ByteArray) (k : Nat) (w : World) (h : IsRd w p s k) (hs : s.size ≤ 1000000000000) (hk : k ≤ 8 * s.size) :
    Calls Try.prog 39 #[.pointer (some ⟨p, 0, none⟩)] w fun e w' => e = .returned (.bool (restS s k)) ∧ Below w.heap.size w w' := by
  have c0 : w.cell? ⟨p, 0, none⟩ = some (.string s) := Blk.cell h rfl
  have c1 : w.cell? ⟨p, 1, none⟩ = some (.int .i64 (k : Int)) := Blk.cell h rfl
  have H := kept h
  clear h
  by_cases h8 : k + 8 ≤ 8 * s.size
  · have e : restS s k = false := by unfold restS; rw [decide_eq_false (by omega)]; rfl
    rw [e]
    have t1 : decide ((8 : Int) ≤ 8 * (s.size : Int) - (k : Int)) = true := by simp; omega
    go_enter Try.func39, Try.ntmps39
    go_wp2_with (first | (go_at_call 68; refine (left_calls p s k w H.out hs hk).mono ?_; rintro e w1 ⟨rfl, hb1⟩; have HB1 := kept hb1; clear hb1))
    go_ret
    exact ⟨rfl, HB1.out⟩
  · have t1 : decide ((8 : Int) ≤ 8 * (s.size : Int) - (k : Int)) = false := by simp; omega
    by_cases h0 : k = 8 * s.size
    · have e : restS s k = true := by unfold restS; rw [decide_eq_true (by omega), List.drop_eq_nil_of_le (by simp; omega)]; rfl
      rw [e]
      have t2 : (8 * (s.size : Int) - (k : Int) == 0) = true := by rw [beq_iff_eq]; omega
      go_enter Try.func39, Try.ntmps39
      go_wp2_with (first | (go_at_call 68; refine (left_calls p s k w H.out hs hk).mono ?_; rintro e w1 ⟨rfl, hb1⟩; have h1 : IsRd w1 p s k := (hb1.block p (Blk.lt H.out)).trans H.out; have l0 := lat_cell (Blk.cell h1 (i := 0) rfl); have l1 := lat_cell (Blk.cell h1 (i := 1) rfl); have H1 := kept h1; have HB1 := kept hb1; clear hb1 h1))
      refine wp_region_quietL (by kernel_rfl) (by kernel_rfl) ?_
      repeat (go_big_quiet_step ((go_at_call 68; exact lat_call (left_calls p s k _ (lat_block H1.out _) hs hk))))
      refine wpQuiet_nil ?_
      intro nq
      go_wp2_with fail
      go_ret
      exact ⟨rfl, HB1.out.trans (nq.below.mono HB1.out.size)⟩
    · have e := restS_byte s k (by omega) (by omega)
      rw [e]
      have t2 : (8 * (s.size : Int) - (k : Int) == 0) = false := by rw [beq_eq_false_iff_ne]; omega
      have hix := run_ix (P := Try.prog) (T := 9) Try.underlying9 s ((s.size : Int) - 1) (s.size - 1) (by omega) (by omega)
      obtain ⟨b, hb⟩ : ∃ b, b = byteS s (s.size - 1) := ⟨_, rfl⟩
      have hb8 : b < 256 := by rw [hb]; exact byteS_lt _ _
      rw [← hb] at hix
      have HB := kept hb
      clear hb e
      rw [← HB.out]
      have hbq : Kept (((b : Int) / 2 ^ (k % 8) == 0) = (b / 2 ^ (k % 8) == 0)) := kept (by
        have e : ((b : Int) / 2 ^ (k % 8)) = ((b / 2 ^ (k % 8) : Nat) : Int) := by simp
        rw [Bool.eq_iff_iff, beq_iff_eq, beq_iff_eq, e]
        omega)
      go_enter Try.func39, Try.ntmps39
      go_wp2_with (first | (go_at_call 68; refine (left_calls p s k w H.out hs hk).mono ?_; rintro e w1 ⟨rfl, hb1⟩; have h1 : IsRd w1 p s k := (hb1.block p (Blk.lt H.out)).trans H.out; have l0 := lat_cell (Blk.cell h1 (i := 0) rfl); have l1 := lat_cell (Blk.cell h1 (i := 1) rfl); have H1 := kept h1; have HB1 := kept hb1; clear hb1 h1))
      refine wp_region_quietL (by kernel_rfl) (by kernel_rfl) ?_
      repeat (go_big_quiet_step ((go_at_call 68; exact lat_call (left_calls p s k _ (lat_block H1.out _) hs hk))))
      refine wpQuiet_nil ?_
      intro nq
      go_wp2_with fail
      go_ret
      exact ⟨by show Ending.returned (Value.bool ((b : Int) / 2 ^ (k % 8) == 0)) = _; rw [hbq.out], HB1.out.trans (nq.below.mono HB1.out.size)⟩
end Go.Proofs.Yteeegomdaebobaa

-- ---- Km
/- The text of bits with a bit 1 behind them, and what is got of it: plain facts. -/
namespace Go.Proofs.Yteeegomdaebobaa
set_option maxRecDepth 100000
set_option linter.unusedSimpArgs false
set_option linter.unusedVariables false
open Go.RowKit Mix _root_.Go.Proofs.Yteeegomdaebobaa.Own Bits
attribute [local go_sem] max_int min_int

/-- The text of bits with a bit 1 behind them. -/
def markS (l : List Bool) : ByteArray := textOf (pack (l ++ [true]))
theorem markS_size (l : List Bool) : (markS l).size = l.length / 8 + 1 := by
  unfold markS; rw [size_textOf, length_pack, List.length_append, List.length_singleton]; omega

end Go.Proofs.Yteeegomdaebobaa

-- ---- Sb
/- Parts by states: what is put, what is got, what was put is got. Plain facts; no program in sight. -/
namespace Go.Proofs.Yteeegomdaebobaa.St
set_option maxRecDepth 100000
set_option linter.unusedSimpArgs false
set_option linter.unusedVariables false
set_option linter.unusedSectionVars false
open Hp Ol Nl Sp Bits Vt Np

/-- States back from the last part: where one comes; what is told on the way: numbers, in how many bits. -/
def encs (l : List Int) (m : Nat) : List Nat → Nat × List (Nat × Nat)
  | [] => (0, [])
  | c :: cs => (fnd l m c (encs l m cs).1, (encs l m cs).2 ++ [((encs l m cs).1 - tS l m (fnd l m c (encs l m cs).1), tB l m (fnd l m c (encs l m cs).1))])
def bitsP (vs : List (Nat × Nat)) : List Bool := vs.flatMap fun p => bitsOf p.1 p.2
def restsP (ps : List (Nat × Nat)) : List Bool := ps.flatMap fun p => bitsOf p.2 (p.1 - 1)
theorem bitsP_append (a b : List (Nat × Nat)) : bitsP (a ++ b) = bitsP a ++ bitsP b := by simp [bitsP, List.flatMap_append]
theorem bitsP_one (v n : Nat) : bitsP [(v, n)] = bitsOf v n := by simp [bitsP]
theorem restsP_append (a b : List (Nat × Nat)) : restsP (a ++ b) = restsP a ++ restsP b := by simp [restsP, List.flatMap_append]
/-- All that is told of states. -/
def toldP (l : List Int) (m : Nat) (cs : List Nat) : List (Nat × Nat) := (encs l m cs).2 ++ [((encs l m cs).1, m)]
def sealedP (l : List Int) (m : Nat) (cs : List Nat) : ByteArray := markS (bitsP (toldP l m cs))
/-- The bytes of parts. -/
def putB (l : List Int) (m : Nat) (ps : List (Nat × Nat)) : ByteArray := txt (putV (sealedP l m (ps.map Prod.fst)).size) ++ sealedP l m (ps.map Prod.fst) ++ textOf (pack (restsP ps))
/-- May a part be put? -/
def okS (l : List Int) (p : Int × Nat) : Bool := Zig.may p.1 p.2 && decide (l.getD p.1.toNat 0 ≠ 0)
def natS (p : Int × Nat) : Nat × Nat := (p.1.toNat, p.2)
def putSE (l : List Int) (lg : Int) (ps : List (Int × Nat)) : ByteArray × Int :=
  if mayN l lg = true then if ps.all (okS l) = true then (putB l lg.toNat (ps.map natS), 0) else (⟨#[]⟩, 1) else (⟨#[]⟩, 3)

/-- Parts one by one: the state, how many bits are left of what was sealed, the place in the rests. -/
def gets (l : List Int) (m : Nat) (a b : ByteArray) : Nat → Nat → Nat → Nat → Option (List (Nat × Nat) × Nat × Nat × Nat)
  | 0, s, k, p => some ([], s, k, p)
  | n + 1, s, k, p =>
    if (getE a k (tB l m s : Int)).2.1 = 0 ∧ (getS b p ((tC l m s - 1 : Nat) : Int)).2.1 = 0 then
      (gets l m a b n (tS l m s + (getE a k (tB l m s : Int)).1) (getE a k (tB l m s : Int)).2.2 (getS b p ((tC l m s - 1 : Nat) : Int)).2.2).map fun r => ((tC l m s, (getS b p ((tC l m s - 1 : Nat) : Int)).1) :: r.1, r.2)
    else none
/-- What there is behind all parts. -/
def doneG (b : ByteArray) : Option (List (Nat × Nat) × Nat × Nat × Nat) → Option (List (Nat × Nat))
  | none => none
  | some r => if r.2.1 = 0 ∧ r.2.2.1 = 0 ∧ restS b r.2.2.2 = true then some r.1 else none
def bodyG (l : List Int) (m : Nat) (a b : ByteArray) (n : Nat) : Option (List (Nat × Nat)) :=
  if a.size = 0 ∨ lastB a = 0 then none
  else if (getE a (topS a) (m : Int)).2.1 ≠ 0 then none
  else doneG b (gets l m a b n (getE a (topS a) (m : Int)).1 (getE a (topS a) (m : Int)).2.2 0)
/-- What was sealed, and the rests. -/
def splitV (s : ByteArray) : Option (ByteArray × ByteArray) :=
  if (goV 10 true (bsOf s)).2.2 = 0 ∧ (goV 10 true (bsOf s)).1 ≤ s.size - (goV 10 true (bsOf s)).2.1 then
    some (s.extract (goV 10 true (bsOf s)).2.1 ((goV 10 true (bsOf s)).2.1 + (goV 10 true (bsOf s)).1), s.extract ((goV 10 true (bsOf s)).2.1 + (goV 10 true (bsOf s)).1) s.size)
  else none
def fullG (l : List Int) (m : Nat) (n : Nat) : Option (ByteArray × ByteArray) → Option (List (Nat × Nat))
  | none => none
  | some ab => bodyG l m ab.1 ab.2 n
def ansG : Option (List (Nat × Nat)) → List (Nat × Nat) × Int
  | none => ([], 3)
  | some ps => (ps, 0)
def getSE (s : ByteArray) (n : Int) (l : List Int) (lg : Int) : List (Nat × Nat) × Int :=
  if mayN l lg = true then if n < 0 ∨ 4096 < n then ([], 1) else ansG (fullG l lg.toNat n.toNat (splitV s)) else ([], 3)

theorem getE_lt (a : ByteArray) (k n : Nat) : (getE a k (n : Int)).1 < 2 ^ n := by
  have h0 : 0 < 2 ^ n := Nat.pow_pos (by decide)
  unfold getE
  split
  · exact h0
  · split
    · exact h0
    · rw [Int.toNat_natCast]
      refine Nat.lt_of_lt_of_le (ofBits_lt _) (Nat.pow_le_pow_right (by decide) ?_)
      rw [List.length_take]; omega
theorem getE_left (a : ByteArray) (k : Nat) (n : Int) : (getE a k n).2.2 ≤ k := getE_le a k n
theorem gets_more {l : List Int} {m : Nat} {a b : ByteArray} {n s k p v k' r p' : Nat} (h1 : getE a k (tB l m s : Int) = (v, 0, k')) (h2 : getS b p ((tC l m s - 1 : Nat) : Int) = (r, 0, p')) :
    gets l m a b (n + 1) s k p = (gets l m a b n (tS l m s + v) k' p').map fun q => ((tC l m s, r) :: q.1, q.2) := by
  conv => lhs; unfold gets
  rw [h1, h2]
  simp
theorem gets_bad1 {l : List Int} {m : Nat} {a b : ByteArray} {n s k p : Nat} (h : (getE a k (tB l m s : Int)).2.1 ≠ 0) : gets l m a b (n + 1) s k p = none := by
  conv => lhs; unfold gets
  rw [if_neg (fun hh => h hh.1)]
theorem gets_bad2 {l : List Int} {m : Nat} {a b : ByteArray} {n s k p : Nat} (h : (getS b p ((tC l m s - 1 : Nat) : Int)).2.1 ≠ 0) : gets l m a b (n + 1) s k p = none := by
  conv => lhs; unfold gets
  rw [if_neg (fun hh => h hh.2)]

/-! ### What was put is got -/
def AbleS (l : List Int) (p : Nat × Nat) : Prop := p.1 < 65 ∧ 0 < l.getD p.1 0 ∧ p.2 < 2 ^ (p.1 - 1)
theorem encs_lt {l : List Int} {m : Nat} (hM : MayS l m) : ∀ (cs : List Nat), (∀ c ∈ cs, c < 65 ∧ 0 < l.getD c 0) → (encs l m cs).1 < 2 ^ m := by
  intro cs
  induction cs with
  | nil => intro _; exact Nat.pow_pos (by decide)
  | cons c cs ih =>
    intro h
    have h1 := h c (by simp)
    exact (fnd_of hM h1.1 h1.2 (ih fun d hd => h d (List.mem_cons_of_mem _ hd))).1
end Go.Proofs.Yteeegomdaebobaa.St

-- ---- Bn
/- A Writer of the call's own. -/
namespace Go.Proofs.Yteeegomdaebobaa
set_option maxRecDepth 100000
set_option linter.unusedSimpArgs false
set_option linter.unusedVariables false
open Go.RowKit Mix _root_.Go.Proofs.Yteeegomdaebobaa.Own Bits

/-- A Writer all of whose memory lies from block B on. -/
structure NewW (B : Nat) (w : World) (p : Nat) (v : Value) (l : List Bool) : Prop where
  is : IsW w p v l
  at_ : B ≤ p
  row : ∀ g, v.ownBlock = some g → B ≤ g

theorem NewW.keep {B : Nat} {w w' : World} {S : Nat → Prop} {p : Nat} {v : Value} {l : List Bool} (h : NewW B w p v l) (hc : Chg S w w') (hp : ¬ S p) (hv : ∀ g, v.ownBlock = some g → ¬ S g) : NewW B w' p v l :=
  ⟨h.is.keep hc hp hv, h.at_, h.row⟩
theorem NewW.later {B : Nat} {w w' : World} {p : Nat} {v : Value} {l : List Bool} (h : NewW B w p v l) (hc : Below w.heap.size w w') : NewW B w' p v l :=
  h.keep (Chg.of_below (S := fun _ => False) hc) id (fun _ _ => id)

theorem new_new (B : Nat) (w : World) (hB : B ≤ w.heap.size) : Calls Try.prog 32 #[] w fun e w' => ∃ p, e = .returned (.pointer (some ⟨p, 0, none⟩)) ∧ NewW B w' p (.slice none 0 0) [] ∧ Below w.heap.size w w' ∧ w.heap.size ≤ p :=
  (new_calls w).mono fun e w' ⟨p, he, hW, hb, hp⟩ => ⟨p, he, ⟨hW, Nat.le_trans hB hp, fun g hg => by simp [Value.ownBlock] at hg⟩, hb, hp⟩

theorem put_new (B p : Nat) (v : Value) (l : List Bool) (x : Nat) (n : Int) (w : World) (hB : B ≤ w.heap.size) (hW : NewW B w p v l) (hl : l.length < 1000000000000) (hx : x < 18446744073709551616) (hn0 : -9223372036854775808 ≤ n) (hn1 : n ≤ 9223372036854775807) :
    Calls Try.prog 33 #[.pointer (some ⟨p, 0, none⟩), .int .u64 (x : Int), .int .i64 n] w fun e w' => e = .returned (.tuple #[]) ∧
      ∃ v', NewW B w' p v' (l ++ bitsOf x (clamp n)) ∧ Below B w w' ∧ Chg (fun k => k = p ∨ some k = v.ownBlock) w w' ∧ ∀ g, v'.ownBlock = some g → some g = v.ownBlock ∨ w.heap.size ≤ g :=
  (put_calls p v l x n w hW.is hl hx hn0 hn1).mono fun e w' ⟨he, v', h1, h2, h3⟩ => ⟨he, v', ⟨h1, hW.at_, fun g hg => by
      rcases h3 g hg with h | h
      · exact hW.row g h.symm
      · omega⟩, h2.below hB (fun k hk h => by
      rcases h with h | h
      · have := hW.at_; omega
      · have := hW.row k h.symm; omega), h2, h3⟩
end Go.Proofs.Yteeegomdaebobaa

-- ---- Ks
/- back.Seal: the text of numbers in bits, a bit 1 behind all. -/
namespace Go.Proofs.Yteeegomdaebobaa
set_option maxRecDepth 100000
set_option linter.unusedSimpArgs false
set_option linter.unusedVariables false
open Go.RowKit Mix _root_.Go.Proofs.Yteeegomdaebobaa.Own Bits
attribute [local go_sem] max_int min_int

/-- The bits of the first i numbers, each in as many bits as it is told. -/
def catC (xs : List Nat) (ys : List Int) : Nat → List Bool
  | 0 => []
  | i + 1 => catC xs ys i ++ bitsOf (xs.getD i 0) (clamp (ys.getD i 0))

theorem catC_len (xs : List Nat) (ys : List Int) (i : Nat) : (catC xs ys i).length ≤ 64 * i := by
  induction i with
  | zero => simp [catC]
  | succ i ih =>
    have := clamp_le (ys.getD i 0)
    rw [catC, List.length_append, length_bitsOf]
    omega

theorem bitsOf_one : bitsOf 1 (clamp 1) = [true] := rfl

theorem mem_getD {l : List Nat} {P : Nat → Prop} (h : ∀ n ∈ l, P n) (i : Nat) (hi : i < l.length) : P (l.getD i 0) := by
  rw [List.getD_eq_getElem?_getD, List.getElem?_eq_getElem hi]; exact h _ (List.getElem_mem _)
theorem mem_getDI {l : List Int} {P : Int → Prop} (h : ∀ n ∈ l, P n) (i : Nat) (hi : i < l.length) : P (l.getD i 0) := by
  rw [List.getD_eq_getElem?_getD, List.getElem?_eq_getElem hi]; exact h _ (List.getElem_mem _)

set_option maxHeartbeats 4000000 in
theorem seal_calls (a0 : Option Addr) (n0 c0 : Nat) (xs : List Nat) (a1 : Option Addr) (n1 c1 : Nat) (ys : List Int) (w : World) (hR0 : Rd w (.slice a0 n0 c0) (nums .u64 xs)) (hR1 : Rd w (.slice a1 n1 c1) (ints .i64 ys))
    (hX : ∀ x ∈ xs, x < 18446744073709551616) (hY : ∀ y ∈ ys, -9223372036854775808 ≤ y ∧ y ≤ 9223372036854775807) (n : Nat) (hn : n = min n0 n1) (hn100 : n ≤ 1000) (hb0 : n0 < 1000000000000000) (hb1 : n1 < 1000000000000000) :
    Calls Try.prog 31 #[.slice a0 n0 c0, .slice a1 n1 c1] w fun e w' => e = .returned (.string (textOf (pack (catC xs ys n ++ [true])))) ∧ Below w.heap.size w w' := by
  have hx : xs.length = n0 := by have := hR0.length; rw [length_nums] at this; exact this.symm
  have hy : ys.length = n1 := by have := hR1.length; rw [length_ints] at this; exact this.symm
  have hmn : mn (n0 : Int) (n1 : Int) = (n : Int) := by rw [mn_eq]; omega
  have hle : n ≤ n0 ∧ n ≤ n1 := by omega
  obtain ⟨B, hB⟩ : ∃ B, B = w.heap.size := ⟨_, rfl⟩
  rw [← hB]
  obtain ⟨T, hT⟩ : ∃ T, T = textOf (pack (catC xs ys n ++ [true])) := ⟨_, rfl⟩
  rw [← hT]
  have HB := kept hB
  have HR0 := kept hR0
  have HR1 := kept hR1
  have HX := kept hX
  have HY := kept hY
  have HXL := kept hx
  have HYL := kept hy
  have HB0 := kept hb0
  have HB1 := kept hb1
  have HT := kept hT
  have HLE := kept hle
  clear hB hR0 hR1 hX hY hx hy hb0 hb1 hT hn hle
  go_enter Try.func31, Try.ntmps31
  go_wp2_with fail
  refine (new_new B w (by rw [HB.out]; exact Nat.le_refl _)).mono ?_
  rintro e wa ⟨pa, rfl, hWa, hba, hpa⟩
  have HWa := kept hWa
  have HS1 : Kept (B ≤ wa.heap.size) := kept (by rw [HB.out]; exact hba.size)
  have HBa : Kept (Below B w wa) := kept (by rw [HB.out]; exact hba)
  clear hWa hba hpa
  go_wp2_with fail
  go_loopw [16] (fun s16 wr => ∃ i : Nat, i ≤ n ∧ s16 = .int .i64 (i : Int) ∧ ∃ va, NewW B wr pa va (catC xs ys i) ∧ Below B w wr ∧ B ≤ wr.heap.size)
    (fun s16 _ => n - (intOf s16).toNat)
  case atStart => exact ⟨0, Nat.zero_le _, rfl, _, HWa.out, HBa.out, HS1.out⟩
  case round =>
    obtain ⟨i, hi, rfl, va, hW, hb, hs⟩ := hrel
    have HW := kept hW
    have HBr := kept hb
    have HS := kept hs
    clear hW hb hs HWa HBa HS1
    by_cases hlt : i < n
    · have hi0 : i < n0 := by have := HLE.out; omega
      have hi1 : i < n1 := by have := HLE.out; omega
      have hrd0 := HR0.out.below HBr.out (by rw [HB.out]; exact HR0.out.lt)
      have hrd1 := HR1.out.below HBr.out (by rw [HB.out]; exact HR1.out.lt)
      obtain ⟨x0, rfl, hc0⟩ := hrd0.at (Own.nums_at .u64 xs i (by rw [HXL.out]; exact hi0))
      obtain ⟨x1, rfl, hc1⟩ := hrd1.at (Own.ints_at .i64 ys i (by rw [HYL.out]; exact hi1))
      have hx64 := mem_getD HX.out i (by rw [HXL.out]; exact hi0)
      have hy64 := mem_getDI HY.out i (by rw [HYL.out]; exact hi1)
      obtain ⟨x, hx⟩ : ∃ x, x = xs.getD i 0 := ⟨_, rfl⟩
      obtain ⟨y, hy⟩ : ∃ y, y = ys.getD i 0 := ⟨_, rfl⟩
      have hcat : catC xs ys (i + 1) = catC xs ys i ++ bitsOf x (clamp y) := by rw [hx, hy]; rfl
      rw [← hx] at hc0 hx64
      rw [← hy] at hc1 hy64
      have HX64 := kept hx64
      have HY64 := kept hy64
      have HC := kept hcat
      have l0 := lat_cell hc0
      have l1 := lat_cell hc1
      have hcl := catC_len xs ys i
      have HLL : Kept ((catC xs ys i).length < 1000000000000) := kept (by omega)
      clear hx hy hx64 hy64 hrd0 hrd1 hcat hcl hc0 hc1
      go_wp2_with fail
      refine wp_region_mixL [] [0,1,2,3,4,5,6,7,8] [9] (by kernel_rfl) (by kernel_rfl) ?_
      intro K1 hK1
      simp only [pick, List.filterMap_cons, List.filterMap_nil, List.getElem?_cons_zero, List.getElem?_cons_succ]
      refine wpQuiet_nil ?_
      repeat (show wpQuiet _ _ _ _ (_ :: _) _; go_big_quiet_step (fail))
      refine wpQuiet_nil ?_
      show wpList _ _ _ (_ :: _) _ _
      generalize hwd : World.drew wr = wd
      have hlat : Below wr.heap.size wr wd := by rw [← hwd]; exact (Below.refl _ _).drew
      have HW2 := kept (HW.out.later hlat)
      have HB2 := kept (HBr.out.trans (hlat.mono HS.out))
      have HS2 := kept (Nat.le_trans HS.out hlat.size)
      clear hwd hlat l0 l1
      go_wp2_with (first
        | (go_at_call 33; refine (put_new B pa va _ x y wd HS2.out HW2.out HLL.out HX64.out HY64.out.1 HY64.out.2).mono ?_; rintro e w2 ⟨rfl, va2, hW2, hb2, hC2, hG2⟩; have HW3 := kept hW2; have HB3 := kept (HB2.out.trans hb2); have HS3 := kept (Nat.le_trans HS2.out hb2.size); clear hW2 hb2 hC2 hG2))
      refine hK1 _ _ ?_
      go_wp2_with fail
      go_roundw
      case rel => exact ⟨i + 1, by omega, by go_num, va2, by rw [HC.out]; exact HW3.out, HB3.out, HS3.out⟩
      case measure => simp [intOf]; omega
    · have hin : i = n := by omega
      subst hin
      have hcl := catC_len xs ys i
      have HLL : Kept ((catC xs ys i).length < 1000000000000) := kept (by omega)
      clear hcl
      go_wp2_with (first
        | (go_at_call 33; refine (put_new B pa va _ 1 1 wr HS.out HW.out HLL.out (by decide) (by decide) (by decide)).mono ?_; rintro e w2 ⟨rfl, va2, hW2, hb2, hC2, hG2⟩; have hA := bytes_calls pa va2 _ w2 hW2.is; rw [bitsOf_one, ← HT.out] at hA; have HA := kept hA; have HB3 := kept (HBr.out.trans hb2); clear hW2 hb2 hC2 hG2 hA)
        | (go_at_call 35; refine HA.out.mono ?_; rintro e w' ⟨rfl, rfl⟩))
      go_ret
      exact ⟨rfl, HB3.out⟩
end Go.Proofs.Yteeegomdaebobaa

-- ---- Spq
/- A slice of parts that can be read; which parts may be put. Plain facts; no program in sight. -/
namespace Go.Proofs.Yteeegomdaebobaa.St
set_option maxRecDepth 100000
set_option linter.unusedSimpArgs false
set_option linter.unusedVariables false
open Go.RowKit Mix _root_.Go.Proofs.Yteeegomdaebobaa.Own Bits Nl Sp Ol Hp

/-- A slice of parts that can be read. -/
structure RdQ (w : World) (A : Option Addr) (n : Nat) (ps : List (Int × Nat)) : Prop where
  len : ps.length = n
  at_ : 0 < n → ∃ x, A = some x ∧ ∀ i p, ps[i]? = some p → w.cell? (x.add (i * 2)) = some (.int .i64 p.1) ∧ w.cell? (x.add (i * 2 + 1)) = some (.int .u64 (p.2 : Int))
  wf : ∀ p ∈ ps, -9223372036854775808 ≤ p.1 ∧ p.1 ≤ 9223372036854775807 ∧ p.2 < 18446744073709551616
theorem RdQ.later {w w' : World} {A : Option Addr} {n : Nat} {ps : List (Int × Nat)} (h : RdQ w A n ps) (hb : Below w.heap.size w w') : RdQ w' A n ps :=
  ⟨h.len, fun h0 => by
    obtain ⟨x, hx, hc⟩ := h.at_ h0
    refine ⟨x, hx, fun i p hp => ?_⟩
    obtain ⟨c0, c1⟩ := hc i p hp
    exact ⟨(hb.cell (World.block_lt_of_cell? w _ c0)).trans c0, (hb.cell (World.block_lt_of_cell? w _ c1)).trans c1⟩, h.wf⟩
theorem cellN_add {w : World} {x : Addr} {n : Nat} {v : Value} (h : w.cell? (x.add n) = some v) (hn : n ≠ 0) : w.cell? ⟨x.block, x.off + n, none⟩ = some v := by
  unfold Addr.add at h
  rw [if_neg hn] at h
  exact h
theorem cellN_next {w : World} {x : Addr} {n : Nat} {v : Value} (h : w.cell? (x.add (n + 1)) = some v) : w.cell? ⟨(x.add n).block, (x.add n).off + 1, none⟩ = some v := by
  have h1 := cellN_add h (by omega)
  unfold Addr.add
  split
  · rename_i h0; subst h0; exact h1
  · exact h1
/-- What a part that may be put is. -/
theorem okS_able {l : List Int} {m : Nat} (hM : MayS l m) {p : Int × Nat} (h : okS l p = true) : 0 ≤ p.1 ∧ p.1 ≤ 64 ∧ AbleS l (natS p) := by
  unfold okS at h
  rw [Bool.and_eq_true, decide_eq_true_eq] at h
  obtain ⟨h1, h2⟩ := h
  unfold Zig.may at h1
  rw [Bool.and_eq_true, decide_eq_true_eq] at h1
  obtain ⟨⟨h3, h4⟩, h5⟩ := h1
  have hm := hM.each _ (getD_mem (show p.1.toNat < l.length by rw [hM.len]; omega))
  refine ⟨h3, h4, by show p.1.toNat < 65; omega, ?_, ?_⟩
  · show 0 < l.getD p.1.toNat 0; omega
  · show p.2 < 2 ^ (p.1.toNat - 1)
    by_cases hc : p.1 < 1
    · rw [if_pos hc, decide_eq_true_eq] at h5
      have : 0 < 2 ^ (p.1.toNat - 1) := Nat.pow_pos (by decide)
      omega
    · rw [if_neg hc, decide_eq_true_eq] at h5; exact h5
theorem clamp_cls (c : Nat) (hc : c ≤ 64) : clamp ((c : Int) - 1) = c - 1 := by unfold clamp; omega
theorem clamp_nat (n : Nat) (hn : n ≤ 64) : clamp (n : Int) = n := by unfold clamp; omega
/-- The lengths and numbers, one behind another. -/
theorem cat_bits (xs ns : List Nat) (hl : xs.length = ns.length) (hn : ∀ n ∈ ns, n ≤ 64) (hx : True) : ∀ k, k ≤ ns.length → catC xs (ns.map fun n : Nat => (n : Int)) k = bitsP ((xs.zip ns).take k) := by
  intro k
  induction k with
  | zero => intro _; simp [catC, bitsP]
  | succ k ih =>
    intro hk
    have h1 : k < xs.length := by omega
    have h2 : k < ns.length := by omega
    have e1 : (ns.map fun n : Nat => (n : Int)).getD k 0 = ((ns.getD k 0 : Nat) : Int) := by simp [List.getD_eq_getElem?_getD, h2]
    have e2 : (xs.zip ns).take (k + 1) = (xs.zip ns).take k ++ [(xs.getD k 0, ns.getD k 0)] := by
      rw [List.take_succ_eq_append_getElem (by rw [List.length_zip]; omega)]
      simp [List.getD_eq_getElem?_getD, h1, h2]
    have h64 : ns.getD k 0 ≤ 64 := by
      rw [List.getD_eq_getElem?_getD, List.getElem?_eq_getElem h2]; exact hn _ (List.getElem_mem h2)
    rw [catC, ih (by omega), e1, clamp_nat _ h64, e2, bitsP_append, bitsP_one]
theorem bitsP_len (vs : List (Nat × Nat)) (h : ∀ p ∈ vs, p.2 ≤ 64) : (bitsP vs).length ≤ 64 * vs.length := by
  induction vs with
  | nil => simp [bitsP]
  | cons a t ih =>
    have h1 := h a (by simp)
    have := ih fun p hp => h p (List.mem_cons_of_mem _ hp)
    simp only [bitsP, List.flatMap_cons, List.length_append, length_bitsOf, List.length_cons] at this ⊢
    omega
theorem restsP_len (ps : List (Nat × Nat)) (h : ∀ p ∈ ps, p.1 < 65) : (restsP ps).length ≤ 64 * ps.length := by
  induction ps with
  | nil => simp [restsP]
  | cons a t ih =>
    have h1 := h a (by simp)
    have := ih fun p hp => h p (List.mem_cons_of_mem _ hp)
    simp only [restsP, List.flatMap_cons, List.length_append, length_bitsOf, List.length_cons] at this ⊢
    omega
end Go.Proofs.Yteeegomdaebobaa.St

-- ---- Mt
/- A region that draws its order: some operations first, then a tree of orders. Conditions: the Bools over the region's own text. -/
namespace Go.Proofs.Yteeegomdaebobaa.Mix
set_option maxRecDepth 100000
set_option linter.unusedSimpArgs false
set_option linter.unusedVariables false
open Go.RowKit
section
variable {P : Program} {md : Region.Mode} {ops : Array Oper} {Q : Exit → Act → World → Prop} {C : World → Prop}

/-- Orders: a chain, or one of two first. -/
inductive Ord
  | chain (ts : List Nat)
  | pre (ts : List Nat) (t : Ord)
  | fork (i : Nat) (t : Ord) (j : Nat) (u : Ord)
  | fork3 (i : Nat) (t : Ord) (j : Nat) (u : Ord) (k : Nat) (v : Ord)
def Ord.nodes : Ord → List Nat
  | .chain ts => ts
  | .pre ts t => ts ++ t.nodes
  | .fork i t j u => i :: j :: (t.nodes ++ u.nodes)
  | .fork3 i t j u k v => i :: j :: k :: (t.nodes ++ (u.nodes ++ v.nodes))
/-- A chain that is forced, what follows left open. -/
def ordP (md : Region.Mode) (ops : Array Oper) : List Nat → Array Bool → Bool
  | [], listed => true
  | i :: l, listed => decide (Region.ready md ops listed = [i]) && ordP md ops l (listed.setIfInBounds i true)
def Ord.okB (md : Region.Mode) (ops : Array Oper) : Ord → Nat → Array Bool → Bool
  | .chain ts, n, listed => decide (ts.length = n) && seqL md ops ts listed
  | .pre ts t, n, listed => decide (ts.length ≤ n) && ordP md ops ts listed && t.okB md ops (n - ts.length) (marked listed ts)
  | .fork _ _ _ _, 0, _ => false
  | .fork3 _ _ _ _ _ _, 0, _ => false
  | .fork3 i t j u k v, n + 1, listed => decide (Region.ready md ops listed = [i, j, k]) && t.okB md ops n (listed.setIfInBounds i true) && u.okB md ops n (listed.setIfInBounds j true) && v.okB md ops n (listed.setIfInBounds k true)
  | .fork i t j u, n + 1, listed => decide (Region.ready md ops listed = [i, j]) && t.okB md ops n (listed.setIfInBounds i true) && u.okB md ops n (listed.setIfInBounds j true)
def wpOrd (P : Program) (ops : Array Oper) (l : List Oper) (K : Act → World → Prop) : Ord → Act → World → Prop
  | .chain ts, a, w => wpList P ops (Only K) (pick l ts) a w
  | .fork i t j u, a, w => wpList P ops (Only (wpOrd P ops l K t)) (pick l [i]) a w ∧ wpList P ops (Only (wpOrd P ops l K u)) (pick l [j]) a w
  | .pre ts t, a, w => wpList P ops (Only (wpOrd P ops l K t)) (pick l ts) a w
  | .fork3 i t j u k v, a, w => wpList P ops (Only (wpOrd P ops l K t)) (pick l [i]) a w ∧ wpList P ops (Only (wpOrd P ops l K u)) (pick l [j]) a w ∧ wpList P ops (Only (wpOrd P ops l K v)) (pick l [k]) a w
theorem ord_outgrown (K : Act → World → Prop) : ¬ LetsOut (Only K) := fun ⟨_, _, h⟩ => h
theorem ord_only {o : Oper} {a : Act} {w : World} {K K1 K2 : Act → World → Prop} (hh : o.wp P a w K (Only K1)) : o.wp P a w K (Only K2) := by
  unfold Oper.wp at *
  generalize (execOp a.eval o).run P w = r at *
  cases r with
  | ok n w' =>
    cases n with
    | enter f args =>
      rw [Oper.upon_enter] at hh ⊢
      refine Calls.mono hh ?_
      intro e w'' h
      cases e with
      | returned v => exact h
      | panicked c => exact (h : False).elim
      | outgrown => exact (ord_outgrown _ h).elim
    | _ => exact hh
  | halt x w' =>
    cases x with
    | panic v => rw [Oper.upon_panic] at hh; exact (hh : False).elim
    | _ => exact hh
theorem ord_one {l : List Oper} {i : Nat} {K K' : Act → World → Prop} {a : Act} {w : World} (hl : i < l.length) (h : wpList P l.toArray (Only K') (pick l [i]) a w) : wpOp P l.toArray (Only K) i K' a w := by
  have e : l[i]? = some l[i] := List.getElem?_eq_getElem hl
  have e2 : pick l [i] = [l[i]] := by simp [pick, e]
  rw [e2] at h
  have e3 : l.toArray[i]? = some l[i] := by simp [e]
  unfold wpOp
  rw [e3]
  have hK : (wpList P l.toArray (Only K') [] : Act → World → Prop) = K' := by funext a w; rfl
  unfold wpList at h
  simp only
  split at h
  · rename_i hw
    rw [if_pos hw]
    rcases h with h | h
    · rw [hK] at h; exact .inl (ord_only h)
    · exact (ord_outgrown _ h.2).elim
  · rename_i hw
    rw [if_neg hw]
    rw [hK] at h; exact h
theorem wpM_ordpre {l : List Oper} {K K' : Act → World → Prop} {h1 h2 : List Nat} {n : Nat} : ∀ (ts : List Nat) (listed : Array Bool) (a : Act) (w : World), (∀ i ∈ ts, (i ∉ h1 ∧ i ∉ h2) ∧ i < l.length) → ordP md l.toArray ts listed = true →
    (∀ a' w', K' a' w' → wpM P md l.toArray (Only K) C h1 h2 n (marked listed ts) a' w') → wpList P l.toArray (Only K') (pick l ts) a w → wpM P md l.toArray (Only K) C h1 h2 (n + ts.length) listed a w := by
  intro ts
  induction ts with
  | nil => intro listed a w _ _ hk h; exact hk a w h
  | cons i ts ih =>
    intro listed a w hn hB hk h
    simp only [ordP, Bool.and_eq_true, decide_eq_true_eq] at hB
    obtain ⟨hr, hB⟩ := hB
    have hni := hn i (by simp)
    have e : l[i]? = some l[i] := List.getElem?_eq_getElem hni.2
    have e2 : pick l (i :: ts) = l[i] :: pick l ts := by simp [pick, e]
    have e3 : l.toArray[i]? = some l[i] := by simp [e]
    rw [e2] at h
    have hop : wpOp P l.toArray (Only K) i (wpList P l.toArray (Only K') (pick l ts)) a w := by
      unfold wpOp
      rw [e3]
      unfold wpList at h
      simp only
      split at h
      · rename_i hw
        rw [if_pos hw]
        rcases h with h | h
        · exact .inl (ord_only h)
        · exact (ord_outgrown _ h.2).elim
      · rename_i hw
        rw [if_neg hw]; exact h
    rw [List.length_cons, show n + (ts.length + 1) = (n + ts.length) + 1 by omega]
    refine ⟨fun h1 => (by rw [hr] at h1; cases h1), fun k hk2 => ?_⟩
    rw [hr] at hk2
    obtain rfl : k = i := by simpa using hk2
    rw [if_neg hni.1.1, if_neg hni.1.2]
    exact wpOp_mono (fun a' w' h' => ih _ a' w' (fun x hx => hn x (List.mem_cons_of_mem _ hx)) hB hk h') hop
theorem wpM_ord {l : List Oper} {K : Act → World → Prop} {h1 h2 : List Nat} : ∀ (T : Ord) (n : Nat) (listed : Array Bool) (a : Act) (w : World), (∀ i ∈ T.nodes, (i ∉ h1 ∧ i ∉ h2) ∧ i < l.length) → T.okB md l.toArray n listed = true →
    wpOrd P l.toArray l K T a w → wpM P md l.toArray (Only K) C h1 h2 n listed a w := by
  intro T
  induction T with
  | chain ts =>
    intro n listed a w hn hB h
    simp only [Ord.okB, Bool.and_eq_true, decide_eq_true_eq] at hB
    rw [← hB.1]
    exact wpM_seq ts (pick l ts) _ a w (fun i hi => (hn i hi).1) (pick_map ts fun i hi => (hn i hi).2) hB.2 h
  | pre ts t iht =>
    intro n listed a w hn hB h
    simp only [Ord.okB, Bool.and_eq_true, decide_eq_true_eq] at hB
    obtain ⟨⟨hlen, hB1⟩, hB2⟩ := hB
    have hr := wpM_ordpre (md := md) (C := C) (h1 := h1) (h2 := h2) (K := K) (n := n - ts.length) ts listed a w (fun i hi => hn i (by simp [Ord.nodes, hi])) hB1 (fun a' w' h' => iht _ _ a' w' (fun x hx => hn x (by simp [Ord.nodes, hx])) hB2 h') h
    rwa [show n - ts.length + ts.length = n by omega] at hr
  | fork3 i t j u k v iht ihu ihv =>
    intro n listed a w hn hB h
    cases n with
    | zero => simp [Ord.okB] at hB
    | succ n =>
      simp only [Ord.okB, Bool.and_eq_true, decide_eq_true_eq] at hB
      obtain ⟨⟨⟨hr, hBt⟩, hBu⟩, hBv⟩ := hB
      refine ⟨fun h1 => (by rw [hr] at h1; cases h1), fun q hq => ?_⟩
      rw [hr] at hq
      have hni := hn i (by simp [Ord.nodes])
      have hnj := hn j (by simp [Ord.nodes])
      have hnk := hn k (by simp [Ord.nodes])
      have hq2 : q = i ∨ q = j ∨ q = k := by simpa using hq
      rcases hq2 with rfl | rfl | rfl
      · rw [if_neg hni.1.1, if_neg hni.1.2]
        exact wpOp_mono (fun a' w' h' => iht n _ a' w' (fun x hx => hn x (by simp [Ord.nodes, hx])) hBt h') (ord_one hni.2 h.1)
      · rw [if_neg hnj.1.1, if_neg hnj.1.2]
        exact wpOp_mono (fun a' w' h' => ihu n _ a' w' (fun x hx => hn x (by simp [Ord.nodes, hx])) hBu h') (ord_one hnj.2 h.2.1)
      · rw [if_neg hnk.1.1, if_neg hnk.1.2]
        exact wpOp_mono (fun a' w' h' => ihv n _ a' w' (fun x hx => hn x (by simp [Ord.nodes, hx])) hBv h') (ord_one hnk.2 h.2.2)
  | fork i t j u iht ihu =>
    intro n listed a w hn hB h
    cases n with
    | zero => simp [Ord.okB] at hB
    | succ n =>
      simp only [Ord.okB, Bool.and_eq_true, decide_eq_true_eq] at hB
      obtain ⟨⟨hr, hBt⟩, hBu⟩ := hB
      refine ⟨fun h1 => (by rw [hr] at h1; cases h1), fun k hk => ?_⟩
      rw [hr] at hk
      have hni := hn i (by simp [Ord.nodes])
      have hnj := hn j (by simp [Ord.nodes])
      have hk2 : k = i ∨ k = j := by simpa using hk
      rcases hk2 with rfl | rfl
      · rw [if_neg hni.1.1, if_neg hni.1.2]
        exact wpOp_mono (fun a' w' h' => iht n _ a' w' (fun x hx => hn x (by simp [Ord.nodes, hx])) hBt h') (ord_one hni.2 h.1)
      · rw [if_neg hnj.1.1, if_neg hnj.1.2]
        exact wpOp_mono (fun a' w' h' => ihu n _ a' w' (fun x hx => hn x (by simp [Ord.nodes, hx])) hBu h') (ord_one hnj.2 h.2)

def ordB (md : Region.Mode) (ops : Array Oper) (h1 h2 : List Nat) (T : Ord) : Bool :=
  Region.noSelect ops && h2.all (fun i => !h1.contains i) && T.nodes.all (fun i => !h1.contains i && !h2.contains i && decide (i < ops.size)) &&
  (List.range ops.size).all (fun t => h1.contains t || h2.contains t || (match ops[t]? with | some o => newOp o.op | none => false) || h2.all fun i => anc md ops ops.size t i) &&
  hoistB md ops (h1 ++ h2) (Array.replicate ops.size false) && T.okB md ops (ops.size - h1.length - h2.length) (marked (Array.replicate ops.size false) (h1 ++ h2)) && decide (h1.length + h2.length ≤ ops.size)

theorem any_ord {a : Act} {w : World} {l : List Oper} (h1 h2 : List Nat) (T : Ord) (C : World → Prop) (hB : ordB .any l.toArray h1 h2 T = true)
    (hC : ∀ w w', C w → Below w.heap.size w w' → C w') (hw : C { w with drawn := w.drawn + 1 })
    (h : ∀ K : Act → World → Prop, (∀ a w, Q .normal a w → K a w) → wpQuiet P l.toArray (fun _ => True) (fun a1 => wpQuiet P l.toArray C (fun a2 => wpOrd P l.toArray l K T a2 { w with drawn := w.drawn + 1 }) (pick l h2) a1) (pick l h1) a) :
    wpAny P .any l.toArray (Only fun a w => Q .normal a w) l.toArray.size (Array.replicate l.toArray.size false) a { w with drawn := w.drawn + 1 } := by
  have H := h (fun a w => Q .normal a w) fun _ _ h => h
  simp only [ordB, Bool.and_eq_true, decide_eq_true_eq] at hB
  obtain ⟨⟨⟨⟨⟨⟨hsel, h12⟩, hts⟩, htail⟩, hh⟩, hseq⟩, hlen⟩ := hB
  have h12' : ∀ i ∈ h2, i ∉ h1 := fun i hi => by simpa using List.all_eq_true.1 h12 i hi
  have hts' : ∀ i ∈ T.nodes, (i ∉ h1 ∧ i ∉ h2) ∧ i < l.length := fun i hi => by simpa using List.all_eq_true.1 hts i hi
  have htail' : ∀ j oj, l.toArray[j]? = some oj → j ∉ h1 → j ∉ h2 → newOp oj.op = true ∨ ∀ i ∈ h2, anc .any l.toArray l.toArray.size j i = true := fun j oj hj n1 n2 => by
    have h3 := List.all_eq_true.1 htail j (List.mem_range.2 (Array.getElem?_eq_some_iff.1 hj).1)
    simp only [hj, Bool.or_eq_true, List.contains_iff_mem, n1, n2, false_or] at h3
    rcases h3 with h3 | h3
    · exact .inl h3
    · exact .inr fun i hi => List.all_eq_true.1 h3 i hi
  rw [hoistB_append, Bool.and_eq_true] at hh
  rw [marked_append] at hseq
  have lt1 := hoistB_lt _ _ hh.1
  have lt2 := hoistB_lt _ _ hh.2
  have hQ' : ∀ c a w d v, Only (fun a w => Q .normal a w) (.panic c) (a.put d v) w → Only (fun a w => Q .normal a w) (.panic c) a w := fun _ _ _ _ _ h => h
  have cl0 : Closed .any l.toArray (Array.replicate l.toArray.size false) := fun j oj _ hl => by rw [getD_replicate_false] at hl; cases hl
  have cl1 := closed_marked _ _ hh.1 cl0
  refine wpAny_of_M (C := C) (h1 := h1) (h2 := h2) _ _ _ _ ?_
  obtain ⟨N, hN⟩ : ∃ N, N = l.toArray.size - h1.length - h2.length := ⟨_, rfl⟩
  rw [← hN] at hseq
  have key : wpM P .any l.toArray (Only fun a w => Q .normal a w) C h1 h2 (N + h2.length + h1.length) (Array.replicate l.toArray.size false) a { w with drawn := w.drawn + 1 } := ?_
  · have e : l.toArray.size = N + h2.length + h1.length := by omega
    have e2 : ∀ n, n = N + h2.length + h1.length → wpM P .any l.toArray (Only fun a w => Q .normal a w) C h1 h2 n (Array.replicate l.toArray.size false) a { w with drawn := w.drawn + 1 } := fun n hn => hn ▸ key
    exact e2 _ e
  refine hoist1 hsel hQ' h1 (pick l h1) _ a (fun i hi => hi) (pick_map h1 (by simpa using lt1)) hh.1 (fun a1 H1 => ?_) H
  refine hoist2 hsel hQ' hC h12' htail' hw h2 (pick l h2) _ a1 (fun i hi => hi) (pick_map h2 (by simpa using lt2)) hh.2 cl1 (fun a2 H2 => ?_) H1
  exact wpM_ord T N _ a2 _ hts' hseq H2

/-- Some operations first (those of h1 look at no memory), then a tree of orders. -/
theorem wp_region_ordL {id : Nat} {a : Act} {w : World} {l : List Oper} (h1 h2 : List Nat) (T : Ord) (hm : P.follows .mixedOrders = true) (hB : ordB .any l.toArray h1 h2 T = true)
    (h : ∀ K : Act → World → Prop, (∀ a w, Q .normal a w → K a w) → wpQuiet P l.toArray (fun _ => True) (fun a1 => wpQuiet P l.toArray (fun w' => ∃ n : Lat w, w' = n.w) (fun a2 => wpOrd P l.toArray l K T a2 w.drew) (pick l h2) a1) (pick l h1) a) :
    (Code.region id l.toArray true).wp P Q a w := by
  refine Code.wp_mono (Q := Only fun a w => Q .normal a w) (fun e a w h => by cases e <;> first | exact h | exact h.elim) ?_
  exact wp_region_any hm (any_ord h1 h2 T (fun w' => ∃ n : Lat w, w' = n.w) hB (fun _ w2 ⟨n, e⟩ hb => by subst e; exact ⟨⟨w2, n.below.trans (hb.mono n.below.size)⟩, rfl⟩) ⟨Lat.drew w, rfl⟩ h)
end
end Go.Proofs.Yteeegomdaebobaa.Mix

-- ---- Mp
/- A region that draws its order: loads are taken first where what may stand ahead of them is shown to leave them; then a tree of orders. Conditions: the Bools over the region's own text. -/
namespace Go.Proofs.Yteeegomdaebobaa.Mix
set_option maxRecDepth 100000
set_option linter.unusedSimpArgs false
set_option linter.unusedVariables false
open Go.RowKit
section
variable {P : Program} {ops : Array Oper} {Q : Exit → Act → World → Prop} {md : Region.Mode} {C : World → Prop}

/-- Whatever order is picked from here on (what is in h3 leaves the class): what is in 'h1' yields in every world, what is in 'h2' in every world of the class, the rest is carried out. -/
def wpW (P : Program) (md : Region.Mode) (ops : Array Oper) (Q : Exit → Act → World → Prop) (C : World → Prop) (h1 h2 h3 : List Nat) : Nat → Array Bool → Act → World → Prop
  | 0, listed, a, w => Region.ready md ops listed = [] ∧ Q .normal a w
  | fuel + 1, listed, a, w =>
    (Region.ready md ops listed = [] → Q .normal a w) ∧
    ∀ i ∈ Region.ready md ops listed,
      if i ∈ h1 then ∃ o v, ops[i]? = some o ∧ Yields P ops o v a ∧ wpW P md ops Q C h1 h2 h3 fuel (listed.setIfInBounds i true) (a.put o.dst v) w
      else if i ∈ h2 then ∃ o v, ops[i]? = some o ∧ C w ∧ YieldsIf P ops C o v a ∧ wpW P md ops Q C h1 h2 h3 fuel (listed.setIfInBounds i true) (a.put o.dst v) w
      else wpOp P ops Q i (fun a' w' => (i ∈ h3 → C w') ∧ wpW P md ops Q C h1 h2 h3 fuel (listed.setIfInBounds i true) a' w') a w

theorem wpAny_of_W {h1 h2 h3 : List Nat} : ∀ (fuel : Nat) (listed : Array Bool) (a : Act) (w : World), wpW P md ops Q C h1 h2 h3 fuel listed a w → wpAny P md ops Q fuel listed a w
  | 0, _, _, _, h => h
  | fuel + 1, listed, a, w, h => ⟨h.1, fun i hi => by
      have h2 := h.2 i hi
      split at h2
      · obtain ⟨o, v, ho, hy, hm⟩ := h2
        exact hy.wpOp ho (wpAny_of_W fuel _ _ _ hm)
      · split at h2
        · obtain ⟨o, v, ho, hc, hy, hm⟩ := h2
          exact hy.wpOp ho hc (wpAny_of_W fuel _ _ _ hm)
        · exact wpOp_mono (fun a' w' h' => wpAny_of_W fuel _ a' w' h'.2) h2⟩

theorem wpW_first1 {h1 h2 h3 : List Nat} {i : Nat} {oi : Oper} {v : Value} (hi : ops[i]? = some oi) (hi1 : i ∈ h1) (hsel : ∀ (j : Nat) (o : Oper) cs b, ops[j]? = some o → o.op ≠ .select cs b)
    (hQ : ∀ c a w, Q (.panic c) (a.put oi.dst v) w → Q (.panic c) a w) :
    ∀ (fuel : Nat) (listed : Array Bool) (a : Act) (w : World), Free md ops i oi listed →
      i ∈ Region.ready md ops listed → Yields P ops oi v a →
      wpW P md ops Q C h1 h2 h3 fuel (listed.setIfInBounds i true) (a.put oi.dst v) w → wpW P md ops Q C h1 h2 h3 (fuel + 1) listed a w := by
  intro fuel
  induction fuel with
  | zero =>
    intro listed a w _ hr hy H
    refine ⟨fun h => (by rw [h] at hr; cases hr), fun j hj => ?_⟩
    by_cases hji : j = i
    · subst hji; rw [if_pos hi1]; exact ⟨oi, v, hi, hy, H⟩
    · have := ready_mono hj hji
      rw [H.1] at this
      cases this
  | succ fuel ih =>
    intro listed a w hfree hr hy H
    refine ⟨fun h => (by rw [h] at hr; cases hr), fun j hj => ?_⟩
    by_cases hji : j = i
    · subst hji; rw [if_pos hi1]; exact ⟨oi, v, hi, hy, H⟩
    · have hH := H.2 j (ready_mono hj hji)
      obtain ⟨hjun, oj, hoj, hall⟩ := mem_ready.1 hj
      have hap := hfree j oj hoj hji hjun (not_waits hr hall)
      have hfree' := hfree.set hjun
      have hr' := ready_mono hr (Ne.symm hji)
      obtain ⟨_, hne, _⟩ := Oper.apart_spec hap
      split at hH
      · rename_i hj1
        obtain ⟨o, u, ho, hyj, hm⟩ := hH
        have e : oj = o := Option.some.inj (hoj.symm.trans ho)
        subst e
        rw [if_pos hj1]
        refine ⟨oj, u, hoj, yields_put (fun cs b => hsel j oj cs b hoj) hap hyj, ih _ _ _ hfree' hr' (yields_put' (fun cs b => hsel i oi cs b hi) hap u hy) ?_⟩
        rw [Array.setIfInBounds_comm _ _ hji, ← Act.put_comm a v u hne]
        exact hm
      · rename_i hj1
        split at hH
        · rename_i hj2
          obtain ⟨o, u, ho, hc, hyj, hm⟩ := hH
          have e : oj = o := Option.some.inj (hoj.symm.trans ho)
          subst e
          rw [if_neg hj1, if_pos hj2]
          refine ⟨oj, u, hoj, hc, yieldsIf_put (fun cs b => hsel j oj cs b hoj) hap hyj, ih _ _ _ hfree' hr' (yields_put' (fun cs b => hsel i oi cs b hi) hap u hy) ?_⟩
          rw [Array.setIfInBounds_comm _ _ hji, ← Act.put_comm a v u hne]
          exact hm
        · rename_i hj2
          rw [if_neg hj1, if_neg hj2]
          have h2 := wpOp_put hoj hap (fun cs b => hsel i oi cs b hi) (fun cs b => hsel j oj cs b hoj) hQ hy hH
          refine wpOp_mono (fun a' w' g3 => ⟨g3.2.1, ih (listed.setIfInBounds j true) a' w' hfree' hr' g3.1 ?_⟩) h2
          rw [Array.setIfInBounds_comm _ _ hji]
          exact g3.2.2

theorem wpW_first2 {h1 h2 h3 : List Nat} {i n : Nat} {oi : Oper} {v : Value} (hi : ops[i]? = some oi) (hi1 : i ∉ h1) (hi2 : i ∈ h2) (hsel : ∀ (j : Nat) (o : Oper) cs b, ops[j]? = some o → o.op ≠ .select cs b)
    (hQ : ∀ c a w, Q (.panic c) (a.put oi.dst v) w → Q (.panic c) a w) (hC : ∀ w w', C w → Below w.heap.size w w' → C w')
    (htail : ∀ j oj, ops[j]? = some oj → j ∉ h1 → j ∉ h2 → j ∈ h3 ∨ newOp oj.op = true ∨ anc md ops n j i = true) :
    ∀ (fuel : Nat) (listed : Array Bool) (a : Act) (w : World), Free md ops i oi listed → Closed md ops listed →
      i ∈ Region.ready md ops listed → YieldsIf P ops C oi v a → C w →
      wpW P md ops Q C h1 h2 h3 fuel (listed.setIfInBounds i true) (a.put oi.dst v) w → wpW P md ops Q C h1 h2 h3 (fuel + 1) listed a w := by
  intro fuel
  induction fuel with
  | zero =>
    intro listed a w _ _ hr hy hw H
    refine ⟨fun h => (by rw [h] at hr; cases hr), fun j hj => ?_⟩
    by_cases hji : j = i
    · subst hji; rw [if_neg hi1, if_pos hi2]; exact ⟨oi, v, hi, hw, hy, H⟩
    · have := ready_mono hj hji
      rw [H.1] at this
      cases this
  | succ fuel ih =>
    intro listed a w hfree hcl hr hy hw H
    refine ⟨fun h => (by rw [h] at hr; cases hr), fun j hj => ?_⟩
    by_cases hji : j = i
    · subst hji; rw [if_neg hi1, if_pos hi2]; exact ⟨oi, v, hi, hw, hy, H⟩
    · have hH := H.2 j (ready_mono hj hji)
      obtain ⟨hjun, oj, hoj, hall⟩ := mem_ready.1 hj
      have hap := hfree j oj hoj hji hjun (not_waits hr hall)
      have hfree' := hfree.set hjun
      have hcl' := hcl.set hj
      have hr' := ready_mono hr (Ne.symm hji)
      obtain ⟨_, hne, _⟩ := Oper.apart_spec hap
      split at hH
      · rename_i hj1
        obtain ⟨o, u, ho, hyj, hm⟩ := hH
        have e : oj = o := Option.some.inj (hoj.symm.trans ho)
        subst e
        rw [if_pos hj1]
        refine ⟨oj, u, hoj, yields_put (fun cs b => hsel j oj cs b hoj) hap hyj, ih _ _ _ hfree' hcl' hr' (yieldsIf_put' (fun cs b => hsel i oi cs b hi) hap u hy) hw ?_⟩
        rw [Array.setIfInBounds_comm _ _ hji, ← Act.put_comm a v u hne]
        exact hm
      · rename_i hj1
        split at hH
        · rename_i hj2
          obtain ⟨o, u, ho, hc, hyj, hm⟩ := hH
          have e : oj = o := Option.some.inj (hoj.symm.trans ho)
          subst e
          rw [if_neg hj1, if_pos hj2]
          refine ⟨oj, u, hoj, hc, yieldsIf_put (fun cs b => hsel j oj cs b hoj) hap hyj, ih _ _ _ hfree' hcl' hr' (yieldsIf_put' (fun cs b => hsel i oi cs b hi) hap u hy) hw ?_⟩
          rw [Array.setIfInBounds_comm _ _ hji, ← Act.put_comm a v u hne]
          exact hm
        · rename_i hj2
          rw [if_neg hj1, if_neg hj2]
          have hk : wpOp P ops Q j (fun a' w' => C w' ∧ (YieldsIf P ops C oi v a' ∧ (j ∈ h3 → C w') ∧ wpW P md ops Q C h1 h2 h3 fuel ((listed.setIfInBounds i true).setIfInBounds j true) (a'.put oi.dst v) w')) a w := by
            have hp := wpOp_putIf hoj hap (fun cs b => hsel i oi cs b hi) (fun cs b => hsel j oj cs b hoj) hQ hy hH
            rcases htail j oj hoj hj1 hj2 with hj3 | hnew | hanc
            · exact wpOp_mono (fun a' w' g => ⟨g.2.1 hj3, g⟩) hp
            · exact wpOp_new hoj hnew hC hw hp
            · have h1 := anc_listed hcl n j oj hoj hall hanc
              have h0 := getD_both (mem_ready.1 hr).1
              rw [h1] at h0; cases h0
          refine wpOp_mono (fun a' w' g => ⟨g.2.2.1, ih (listed.setIfInBounds j true) a' w' hfree' hcl' hr' g.2.1 g.1 ?_⟩) hk
          rw [Array.setIfInBounds_comm _ _ hji]
          exact g.2.2.2

theorem hoistW1 {h1 h2 h3 : List Nat} (hsel : Region.noSelect ops = true) (hQ : ∀ c a w d v, Q (.panic c) (a.put d v) w → Q (.panic c) a w) {Qa : Act → Prop} {w : World} {fuel : Nat} :
    ∀ (l : List Nat) (lo : List Oper) (listed : Array Bool) (a : Act), (∀ i ∈ l, i ∈ h1) → l.map (fun i => ops[i]?) = lo.map some → hoistB md ops l listed = true →
      (∀ a', Qa a' → wpW P md ops Q C h1 h2 h3 fuel (marked listed l) a' w) → wpQuiet P ops (fun _ => True) Qa lo a → wpW P md ops Q C h1 h2 h3 (fuel + l.length) listed a w := by
  intro l
  induction l with
  | nil => intro lo listed a _ hm _ hk h; cases lo with | nil => exact hk a h | cons _ _ => simp at hm
  | cons i l ih =>
    intro lo listed a hmem hm hB hk h
    cases lo with
    | nil => simp at hm
    | cons o lo =>
      simp only [List.map_cons, List.cons.injEq] at hm
      obtain ⟨ho, hm⟩ := hm
      simp only [hoistB, Bool.and_eq_true, ho] at hB
      obtain ⟨⟨⟨hr, hf⟩, hh⟩, hB⟩ := hB
      have ih' := fun a' h' => ih lo (listed.setIfInBounds i true) a' (fun j hj => hmem j (List.mem_cons_of_mem _ hj)) hm hB hk h'
      rw [List.length_cons, show fuel + (l.length + 1) = (fuel + l.length) + 1 by omega]
      unfold wpQuiet at h
      split at h
      · rename_i hw
        obtain ⟨v, hq, hn⟩ := h
        exact wpW_first1 ho (hmem i (by simp)) (Region.noSelect_spec hsel) (fun c a w => hQ c a w _ _) _ _ _ _ (Region.free_spec ho hf) (by simpa using hr) (.inl ⟨hw, fun w => quiet_run hh (hq w trivial)⟩) (ih' _ hn)
      · rename_i hw
        exact wpW_first1 ho (hmem i (by simp)) (Region.noSelect_spec hsel) (fun c a w => hQ c a w _ _) _ _ _ _ (Region.free_spec ho hf) (by simpa using hr) (.inr ⟨by simpa using hw, rfl⟩) (ih' _ h)

theorem hoistW2 {h1 h2 h3 : List Nat} (hsel : Region.noSelect ops = true) (hQ : ∀ c a w d v, Q (.panic c) (a.put d v) w → Q (.panic c) a w) (hC : ∀ w w', C w → Below w.heap.size w w' → C w')
    (h12 : ∀ i ∈ h2, i ∉ h1) (htail : ∀ j oj, ops[j]? = some oj → j ∉ h1 → j ∉ h2 → j ∈ h3 ∨ newOp oj.op = true ∨ ∀ i ∈ h2, anc md ops ops.size j i = true) {Qa : Act → Prop} {w : World} (hw : C w) {fuel : Nat} :
    ∀ (l : List Nat) (lo : List Oper) (listed : Array Bool) (a : Act), (∀ i ∈ l, i ∈ h2) → l.map (fun i => ops[i]?) = lo.map some → hoistB md ops l listed = true → Closed md ops listed →
      (∀ a', Qa a' → wpW P md ops Q C h1 h2 h3 fuel (marked listed l) a' w) → wpQuiet P ops C Qa lo a → wpW P md ops Q C h1 h2 h3 (fuel + l.length) listed a w := by
  intro l
  induction l with
  | nil => intro lo listed a _ hm _ _ hk h; cases lo with | nil => exact hk a h | cons _ _ => simp at hm
  | cons i l ih =>
    intro lo listed a hmem hm hB hc hk h
    cases lo with
    | nil => simp at hm
    | cons o lo =>
      simp only [List.map_cons, List.cons.injEq] at hm
      obtain ⟨ho, hm⟩ := hm
      simp only [hoistB, Bool.and_eq_true, ho] at hB
      obtain ⟨⟨⟨hr, hf⟩, hh⟩, hB⟩ := hB
      have hr' : i ∈ Region.ready md ops listed := by simpa using hr
      have ih' := fun a' h' => ih lo (listed.setIfInBounds i true) a' (fun j hj => hmem j (List.mem_cons_of_mem _ hj)) hm hB (hc.set hr') hk h'
      have hi2 := hmem i (by simp)
      have ht : ∀ j oj, ops[j]? = some oj → j ∉ h1 → j ∉ h2 → j ∈ h3 ∨ newOp oj.op = true ∨ anc md ops ops.size j i = true := fun j oj hj a b => (htail j oj hj a b).imp id (fun h => h.imp id (fun h => h i hi2))
      rw [List.length_cons, show fuel + (l.length + 1) = (fuel + l.length) + 1 by omega]
      unfold wpQuiet at h
      split at h
      · rename_i hwant
        obtain ⟨v, hq, hn⟩ := h
        exact wpW_first2 ho (h12 i hi2) hi2 (Region.noSelect_spec hsel) (fun c a w => hQ c a w _ _) hC ht _ _ _ _ (Region.free_spec ho hf) hc hr' (.inl ⟨hwant, fun w hw => quiet_run hh (hq w hw)⟩) hw (ih' _ hn)
      · rename_i hwant
        exact wpW_first2 ho (h12 i hi2) hi2 (Region.noSelect_spec hsel) (fun c a w => hQ c a w _ _) hC ht _ _ _ _ (Region.free_spec ho hf) hc hr' (.inr ⟨by simpa using hwant, rfl⟩) hw (ih' _ h)

theorem wpW_seq {h1 h2 h3 : List Nat} : ∀ (l : List Nat) (lo : List Oper) (listed : Array Bool) (a : Act) (w : World), (∀ i ∈ l, (i ∉ h1 ∧ i ∉ h2) ∧ i ∉ h3) → l.map (fun i => ops[i]?) = lo.map some → seqL md ops l listed = true →
    wpList P ops Q lo a w → wpW P md ops Q C h1 h2 h3 l.length listed a w := by
  intro l
  induction l with
  | nil => intro lo listed a w _ hm hB h; cases lo with | nil => exact ⟨by simpa [seqL] using hB, h⟩ | cons _ _ => simp at hm
  | cons i l ih =>
    intro lo listed a w hmem hm hB h
    cases lo with
    | nil => simp at hm
    | cons o lo =>
      simp only [List.map_cons, List.cons.injEq] at hm
      obtain ⟨ho, hm⟩ := hm
      simp only [seqL, Bool.and_eq_true, decide_eq_true_eq] at hB
      refine ⟨fun h1 => (by rw [hB.1] at h1; cases h1), fun j hj => ?_⟩
      rw [hB.1] at hj
      have hji : j = i := by simpa using hj
      subst hji
      have hn := hmem j (by simp)
      rw [if_neg hn.1.1, if_neg hn.1.2]
      have hw : wpOp P ops Q j (wpList P ops Q lo) a w := by unfold wpOp; simp only [ho]; exact h
      exact wpOp_mono (fun a' w' h' => ⟨fun h3 => absurd h3 hn.2, ih lo _ a' w' (fun k hk => hmem k (List.mem_cons_of_mem _ hk)) hm hB.2 h'⟩) hw


/-- Orders: the tree's ways; what h3 names leaves the class. -/
def wpOrdW (P : Program) (ops : Array Oper) (l : List Oper) (C : World → Prop) (h3 : List Nat) (K : Act → World → Prop) : Ord → Act → World → Prop
  | .chain ts, a, w => wpList P ops (Only K) (pick l ts) a w
  | .fork i t j u, a, w => wpList P ops (Only fun a w => (i ∈ h3 → C w) ∧ wpOrdW P ops l C h3 K t a w) (pick l [i]) a w ∧ wpList P ops (Only fun a w => (j ∈ h3 → C w) ∧ wpOrdW P ops l C h3 K u a w) (pick l [j]) a w
  | .pre [] t, a, w => wpOrdW P ops l C h3 K t a w
  | .pre (i :: ts) t, a, w => ts = [] ∧ wpList P ops (Only fun a w => (i ∈ h3 → C w) ∧ wpOrdW P ops l C h3 K t a w) (pick l [i]) a w
  | .fork3 i t j u k v, a, w => False
def okW (md : Region.Mode) (ops : Array Oper) (h3 : List Nat) : Ord → Nat → Array Bool → Bool
  | .chain ts, n, listed => decide (ts.length = n) && seqL md ops ts listed && ts.all (fun i => !h3.contains i)
  | .pre [i] t, n + 1, listed => decide (Region.ready md ops listed = [i]) && okW md ops h3 t n (listed.setIfInBounds i true)
  | .fork i t j u, n + 1, listed => decide (Region.ready md ops listed = [i, j]) && okW md ops h3 t n (listed.setIfInBounds i true) && okW md ops h3 u n (listed.setIfInBounds j true)
  | _, _, _ => false
theorem wpW_ord {l : List Oper} {K : Act → World → Prop} {h1 h2 h3 : List Nat} : ∀ (T : Ord) (n : Nat) (listed : Array Bool) (a : Act) (w : World), (∀ i ∈ T.nodes, (i ∉ h1 ∧ i ∉ h2) ∧ i < l.length) → okW md l.toArray h3 T n listed = true →
    wpOrdW P l.toArray l C h3 K T a w → wpW P md l.toArray (Only K) C h1 h2 h3 n listed a w := by
  intro T
  induction T with
  | chain ts =>
    intro n listed a w hn hB h
    simp only [okW, Bool.and_eq_true, decide_eq_true_eq] at hB
    rw [← hB.1.1]
    have h3' : ∀ i ∈ ts, i ∉ h3 := fun i hi => by simpa using List.all_eq_true.1 hB.2 i hi
    exact wpW_seq ts (pick l ts) _ a w (fun i hi => ⟨(hn i hi).1, h3' i hi⟩) (pick_map ts fun i hi => (hn i hi).2) hB.1.2 h
  | pre ts t iht =>
    intro n listed a w hn hB h
    match ts, n, hB, h with
    | [], _, hB, _ => simp [okW] at hB
    | [i], 0, hB, _ => simp [okW] at hB
    | i :: j :: ts, _, hB, _ => simp [okW] at hB
    | [i], n + 1, hB, h =>
      simp only [okW, Bool.and_eq_true, decide_eq_true_eq] at hB
      refine ⟨fun h1 => (by rw [hB.1] at h1; cases h1), fun k hk => ?_⟩
      rw [hB.1] at hk
      have hni := hn i (by simp [Ord.nodes])
      obtain rfl : k = i := by simpa using hk
      rw [if_neg hni.1.1, if_neg hni.1.2]
      exact wpOp_mono (fun a' w' h' => ⟨h'.1, iht n _ a' w' (fun x hx => hn x (by simp [Ord.nodes, hx])) hB.2 h'.2⟩) (ord_one hni.2 h.2)
  | fork3 i t j u k v iht ihu ihv => intro n listed a w hn hB h; exact h.elim
  | fork i t j u iht ihu =>
    intro n listed a w hn hB h
    cases n with
    | zero => simp [okW] at hB
    | succ n =>
      simp only [okW, Bool.and_eq_true, decide_eq_true_eq] at hB
      obtain ⟨⟨hr, hBt⟩, hBu⟩ := hB
      refine ⟨fun h1 => (by rw [hr] at h1; cases h1), fun k hk => ?_⟩
      rw [hr] at hk
      have hni := hn i (by simp [Ord.nodes])
      have hnj := hn j (by simp [Ord.nodes])
      have hk2 : k = i ∨ k = j := by simpa using hk
      rcases hk2 with rfl | rfl
      · rw [if_neg hni.1.1, if_neg hni.1.2]
        exact wpOp_mono (fun a' w' h' => ⟨h'.1, iht n _ a' w' (fun x hx => hn x (by simp [Ord.nodes, hx])) hBt h'.2⟩) (ord_one hni.2 h.1)
      · rw [if_neg hnj.1.1, if_neg hnj.1.2]
        exact wpOp_mono (fun a' w' h' => ⟨h'.1, ihu n _ a' w' (fun x hx => hn x (by simp [Ord.nodes, hx])) hBu h'.2⟩) (ord_one hnj.2 h.2)

def ordWB (md : Region.Mode) (ops : Array Oper) (h1 h2 h3 : List Nat) (T : Ord) : Bool :=
  Region.noSelect ops && h2.all (fun i => !h1.contains i) && T.nodes.all (fun i => !h1.contains i && !h2.contains i && decide (i < ops.size)) &&
  (List.range ops.size).all (fun t => h1.contains t || h2.contains t || h3.contains t || (match ops[t]? with | some o => newOp o.op | none => false) || h2.all fun i => anc md ops ops.size t i) &&
  hoistB md ops (h1 ++ h2) (Array.replicate ops.size false) && okW md ops h3 T (ops.size - h1.length - h2.length) (marked (Array.replicate ops.size false) (h1 ++ h2)) && decide (h1.length + h2.length ≤ ops.size)

theorem any_ordW {a : Act} {w : World} {l : List Oper} (h1 h2 h3 : List Nat) (T : Ord) (C : World → Prop) (hB : ordWB .any l.toArray h1 h2 h3 T = true)
    (hC : ∀ w w', C w → Below w.heap.size w w' → C w') (hw : C { w with drawn := w.drawn + 1 })
    (h : ∀ K : Act → World → Prop, (∀ a w, Q .normal a w → K a w) → wpQuiet P l.toArray (fun _ => True) (fun a1 => wpQuiet P l.toArray C (fun a2 => wpOrdW P l.toArray l C h3 K T a2 { w with drawn := w.drawn + 1 }) (pick l h2) a1) (pick l h1) a) :
    wpAny P .any l.toArray (Only fun a w => Q .normal a w) l.toArray.size (Array.replicate l.toArray.size false) a { w with drawn := w.drawn + 1 } := by
  have H := h (fun a w => Q .normal a w) fun _ _ h => h
  simp only [ordWB, Bool.and_eq_true, decide_eq_true_eq] at hB
  obtain ⟨⟨⟨⟨⟨⟨hsel, h12⟩, hts⟩, htail⟩, hh⟩, hseq⟩, hlen⟩ := hB
  have h12' : ∀ i ∈ h2, i ∉ h1 := fun i hi => by simpa using List.all_eq_true.1 h12 i hi
  have hts' : ∀ i ∈ T.nodes, (i ∉ h1 ∧ i ∉ h2) ∧ i < l.length := fun i hi => by simpa using List.all_eq_true.1 hts i hi
  have htail' : ∀ j oj, l.toArray[j]? = some oj → j ∉ h1 → j ∉ h2 → j ∈ h3 ∨ newOp oj.op = true ∨ ∀ i ∈ h2, anc .any l.toArray l.toArray.size j i = true := fun j oj hj n1 n2 => by
    have h4 := List.all_eq_true.1 htail j (List.mem_range.2 (Array.getElem?_eq_some_iff.1 hj).1)
    simp only [hj, Bool.or_eq_true, List.contains_iff_mem, n1, n2, false_or] at h4
    rcases h4 with (h4 | h4) | h4
    · exact .inl h4
    · exact .inr (.inl h4)
    · exact .inr (.inr fun i hi => List.all_eq_true.1 h4 i hi)
  rw [hoistB_append, Bool.and_eq_true] at hh
  rw [marked_append] at hseq
  have lt1 := hoistB_lt _ _ hh.1
  have lt2 := hoistB_lt _ _ hh.2
  have hQ' : ∀ c a w d v, Only (fun a w => Q .normal a w) (.panic c) (a.put d v) w → Only (fun a w => Q .normal a w) (.panic c) a w := fun _ _ _ _ _ h => h
  have cl0 : Closed .any l.toArray (Array.replicate l.toArray.size false) := fun j oj _ hl => by rw [getD_replicate_false] at hl; cases hl
  have cl1 := closed_marked _ _ hh.1 cl0
  refine wpAny_of_W (C := C) (h1 := h1) (h2 := h2) (h3 := h3) _ _ _ _ ?_
  obtain ⟨N, hN⟩ : ∃ N, N = l.toArray.size - h1.length - h2.length := ⟨_, rfl⟩
  rw [← hN] at hseq
  have key : wpW P .any l.toArray (Only fun a w => Q .normal a w) C h1 h2 h3 (N + h2.length + h1.length) (Array.replicate l.toArray.size false) a { w with drawn := w.drawn + 1 } := ?_
  · have e : l.toArray.size = N + h2.length + h1.length := by omega
    have e2 : ∀ n, n = N + h2.length + h1.length → wpW P .any l.toArray (Only fun a w => Q .normal a w) C h1 h2 h3 n (Array.replicate l.toArray.size false) a { w with drawn := w.drawn + 1 } := fun n hn => hn ▸ key
    exact e2 _ e
  refine hoistW1 hsel hQ' h1 (pick l h1) _ a (fun i hi => hi) (pick_map h1 (by simpa using lt1)) hh.1 (fun a1 H1 => ?_) H
  refine hoistW2 hsel hQ' hC h12' htail' hw h2 (pick l h2) _ a1 (fun i hi => hi) (pick_map h2 (by simpa using lt2)) hh.2 cl1 (fun a2 H2 => ?_) H1
  exact wpW_ord T N _ a2 _ hts' hseq H2

/-- Some operations first (those of h1 look at no memory, those of h2 at what the class holds), then a tree of orders; what h3 names is shown to leave the class. -/
theorem wp_region_ordW {id : Nat} {a : Act} {w : World} {l : List Oper} (h1 h2 h3 : List Nat) (T : Ord) (C : World → Prop) (hm : P.follows .mixedOrders = true) (hB : ordWB .any l.toArray h1 h2 h3 T = true)
    (hC : ∀ w w', C w → Below w.heap.size w w' → C w') (hw : C w.drew)
    (h : ∀ K : Act → World → Prop, (∀ a w, Q .normal a w → K a w) → wpQuiet P l.toArray (fun _ => True) (fun a1 => wpQuiet P l.toArray C (fun a2 => wpOrdW P l.toArray l C h3 K T a2 w.drew) (pick l h2) a1) (pick l h1) a) :
    (Code.region id l.toArray true).wp P Q a w := by
  refine Code.wp_mono (Q := Only fun a w => Q .normal a w) (fun e a w h => by cases e <;> first | exact h | exact h.elim) ?_
  exact wp_region_any hm (any_ordW h1 h2 h3 T C hB hC hw h)
end
end Go.Proofs.Yteeegomdaebobaa.Mix

-- ---- My
/- Several rows of one-cell elements that a call owns side by side: each in a block of its own. No program in sight. -/
namespace Go.Proofs.Yteeegomdaebobaa.Own
set_option maxRecDepth 100000
set_option linter.unusedSimpArgs false
set_option linter.unusedVariables false
open Go Go.RowKit

/-- In no block both. -/
def Dj (u v : Value) : Prop := ∀ b, u.ownBlock = some b → v.ownBlock ≠ some b
theorem Dj.symm {u v : Value} (h : Dj u v) : Dj v u := fun b h1 h2 => h b h2 h1
/-- These rows, each alone in its block, all from block B on. -/
structure Many (B : Nat) (w : World) (e : TypeId) (R : List (Value × List Value)) : Prop where
  own : ∀ (i : Nat) v xs, R[i]? = some (v, xs) → Owns w e v xs
  new : ∀ (i : Nat) v xs, R[i]? = some (v, xs) → ∀ b, v.ownBlock = some b → B ≤ b
  sep : ∀ (i j : Nat) a xs b ys, i ≠ j → R[i]? = some (a, xs) → R[j]? = some (b, ys) → Dj a b

theorem Many.nil (B : Nat) (w : World) (e : TypeId) : Many B w e [] := ⟨fun i v xs h => by simp at h, fun i v xs h => by simp at h, fun i j a xs b ys _ h => by simp at h⟩
theorem Many.chg {B : Nat} {w w' : World} {S : Nat → Prop} {e : TypeId} {R : List (Value × List Value)} (h : Many B w e R) (hc : Chg S w w') (hn : ∀ (i : Nat) v xs, R[i]? = some (v, xs) → ∀ g, v.ownBlock = some g → ¬ S g) : Many B w' e R :=
  ⟨fun i v xs hi => (h.own i v xs hi).chg hc (hn i v xs hi), h.new, h.sep⟩
theorem Many.later {B : Nat} {w w' : World} {e : TypeId} {R : List (Value × List Value)} (h : Many B w e R) (hb : Below w.heap.size w w') : Many B w' e R :=
  ⟨fun i v xs hi => (h.own i v xs hi).keep fun g hg hl => hb.block g hl, h.new, h.sep⟩
/-- One row has turned. -/
theorem Many.set {B : Nat} {w w' : World} {e : TypeId} {R : List (Value × List Value)} (h : Many B w e R) (i : Nat) {v v' : Value} {xs xs' : List Value} (hi : R[i]? = some (v, xs)) (hc : Chg (fun k => some k = v.ownBlock) w w')
    (ho : Owns w' e v' xs') (hn : ∀ g, v'.ownBlock = some g → some g = v.ownBlock ∨ w.heap.size ≤ g) (hB : B ≤ w.heap.size) : Many B w' e (R.set i (v', xs')) := by
  have hil : i < R.length := (List.getElem?_eq_some_iff.1 hi).1
  refine ⟨fun j u ys hj => ?_, fun j u ys hj b hb => ?_, fun j k a ys b zs hjk hj hk => ?_⟩
  · by_cases e1 : j = i
    · subst e1
      rw [List.getElem?_set_self hil, Option.some.injEq, Prod.mk.injEq] at hj
      obtain ⟨rfl, rfl⟩ := hj; exact ho
    · rw [List.getElem?_set_ne (fun e => e1 e.symm)] at hj
      exact (h.own j u ys hj).chg hc fun g hg hs => h.sep j i u ys v xs e1 hj hi g hg hs.symm
  · by_cases e1 : j = i
    · subst e1
      rw [List.getElem?_set_self hil, Option.some.injEq, Prod.mk.injEq] at hj
      obtain ⟨rfl, rfl⟩ := hj
      rcases hn b hb with h1 | h1
      · exact h.new j v xs hi b h1.symm
      · omega
    · rw [List.getElem?_set_ne (fun e => e1 e.symm)] at hj; exact h.new j u ys hj b hb
  · have other : ∀ (m : Nat) (u : Value) (us : List Value), m ≠ i → R[m]? = some (u, us) → Dj u v' := fun m u us hm hmu g hg hv => by
      rcases hn g hv with h1 | h1
      · exact h.sep m i u us v xs hm hmu hi g hg h1.symm
      · have := (h.own m u us hmu).lt g hg; omega
    by_cases e1 : j = i
    · subst e1
      have e2 : k ≠ j := fun e => hjk e.symm
      rw [List.getElem?_set_self hil, Option.some.injEq, Prod.mk.injEq] at hj
      rw [List.getElem?_set_ne (fun e => e2 e.symm)] at hk
      obtain ⟨rfl, rfl⟩ := hj
      exact (other k b zs e2 hk).symm
    · rw [List.getElem?_set_ne (fun e => e1 e.symm)] at hj
      by_cases e2 : k = i
      · subst e2
        rw [List.getElem?_set_self hil, Option.some.injEq, Prod.mk.injEq] at hk
        obtain ⟨rfl, rfl⟩ := hk
        exact other j a ys e1 hj
      · rw [List.getElem?_set_ne (fun e => e2 e.symm)] at hk
        exact h.sep j k a ys b zs hjk hj hk
/-- A new row. -/
theorem Many.add {B : Nat} {w w' : World} {e : TypeId} {R : List (Value × List Value)} (h : Many B w e R) (hb : Below w.heap.size w w') {v : Value} {xs : List Value} (ho : Owns w' e v xs) (hn : ∀ g, v.ownBlock = some g → w.heap.size ≤ g) (hB : B ≤ w.heap.size) : Many B w' e (R ++ [(v, xs)]) := by
  have h' := h.later hb
  have last : ∀ (j : Nat) u ys, (R ++ [(v, xs)])[j]? = some (u, ys) → R[j]? = some (u, ys) ∨ (j = R.length ∧ u = v ∧ ys = xs) := fun j u ys hj => by
    rcases Nat.lt_trichotomy j R.length with h1 | h1 | h1
    · rw [List.getElem?_append_left h1] at hj; exact .inl hj
    · subst h1
      rw [List.getElem?_append_right (Nat.le_refl _)] at hj
      simp at hj; exact .inr ⟨rfl, hj.1.symm, hj.2.symm⟩
    · rw [List.getElem?_eq_none (by simp; omega)] at hj; cases hj
  have oth : ∀ (j : Nat) u ys, R[j]? = some (u, ys) → Dj u v := fun j u ys hj g hg hv => by
    have := (h.own j u ys hj).lt g hg; have := hn g hv; omega
  refine ⟨fun j u ys hj => ?_, fun j u ys hj b hb => ?_, fun j k a ys b zs hjk hj hk => ?_⟩
  · rcases last j u ys hj with h1 | ⟨_, rfl, rfl⟩
    · exact h'.own j u ys h1
    · exact ho
  · rcases last j u ys hj with h1 | ⟨_, rfl, rfl⟩
    · exact h'.new j u ys h1 b hb
    · have := hn b hb; omega
  · rcases last j a ys hj with h1 | ⟨rfl, rfl, rfl⟩
    · rcases last k b zs hk with h2 | ⟨rfl, rfl, rfl⟩
      · exact h'.sep j k a ys b zs hjk h1 h2
      · exact oth j a ys h1
    · rcases last k b zs hk with h2 | ⟨rfl, rfl, rfl⟩
      · exact (oth k b zs h2).symm
      · exact absurd rfl hjk
/-- A block of another type stays. -/
theorem Many.other {B : Nat} {w w' : World} {e t : TypeId} {R : List (Value × List Value)} (h : Many B w e R) (i : Nat) {v : Value} {xs : List Value} (hi : R[i]? = some (v, xs)) (hc : Chg (fun k => some k = v.ownBlock) w w') {p : Nat} {cs : Array Value} (hp : Blk w p cs t) (hne : e ≠ t) : Blk w' p cs t :=
  hc.keep hp fun hs => (h.own i v xs hi).ne hp hne hs.symm
/-- A block of another type is written. -/
theorem Many.setBlk {B : Nat} {w : World} {e t : TypeId} {R : List (Value × List Value)} (h : Many B w e R) {p : Nat} {cs : Array Value} (hp : Blk w p cs t) (hne : e ≠ t) (j : Nat) (u : Value) : Many B (w.setCell ⟨p, j, none⟩ u) e R :=
  h.chg (Chg.setCell w _ _) fun i v xs hi g hg hs => (h.own i v xs hi).ne hp hne (by rw [hg]; exact congrArg some hs)
theorem Many.below {B : Nat} {w w' : World} {e : TypeId} {R : List (Value × List Value)} (h : Many B w e R) (i : Nat) {v : Value} {xs : List Value} (hi : R[i]? = some (v, xs)) (hc : Chg (fun k => some k = v.ownBlock) w w') (hB : B ≤ w.heap.size) : Below B w w' :=
  hc.below hB fun k hk hs => by have := h.new i v xs hi k hs.symm; omega
/-- One cell of a row is written. -/
theorem Many.store {B : Nat} {w : World} {e : TypeId} {R : List (Value × List Value)} (h : Many B w e R) (i : Nat) {g n cap : Nat} {xs : List Value} (hi : R[i]? = some (.slice (some ⟨g, 0, none⟩) n cap, xs)) (j : Nat) (u : Value) (hB : B ≤ w.heap.size) :
    Many B (w.setCell ⟨g, j, none⟩ u) e (R.set i (.slice (some ⟨g, 0, none⟩) n cap, xs.set j u)) :=
  h.set i hi (by have := Chg.setCell w ⟨g, j, none⟩ u; exact this.mono fun k _ hk => by rw [hk]; rfl) ((h.own i _ _ hi).store j u) (fun b hb => .inl hb.symm) hB
end Go.Proofs.Yteeegomdaebobaa.Own
namespace Go.Proofs.Yteeegomdaebobaa
open Go.RowKit _root_.Go.Proofs.Yteeegomdaebobaa.Own
theorem rowI {w : World} {e : TypeId} {k : IntKind} {v : Value} {xs : List Int} (h : Owns w e v (ints k xs)) (hx : xs ≠ []) : ∃ g c, v = .slice (some ⟨g, 0, none⟩) xs.length c ∧ xs.length ≤ c ∧ g < w.heap.size := by
  obtain ⟨g, c, h1, h2, h3⟩ := h.row (by intro e; exact hx (by have := congrArg List.length e; rw [length_ints] at this; exact List.length_eq_zero_iff.1 this))
  rw [length_ints] at h1 h2
  exact ⟨g, c, h1, h2, h3⟩
end Go.Proofs.Yteeegomdaebobaa

-- ---- Owk
/- Rows of elements of several cells that a call makes for itself. No program in sight. -/
namespace Go.Proofs.Yteeegomdaebobaa.Own
set_option maxRecDepth 100000
set_option linter.unusedSimpArgs false
set_option linter.unusedVariables false
open Go Go.RowKit

/-- v is a slice of n elements of sz cells each, alone in a block of its own, or nil. -/
def OwnK (w : World) (e : TypeId) (sz : Nat) (v : Value) (n : Nat) (cs : List Value) : Prop := w.ownsRow 0 e sz v n cs
theorem OwnK.keep {w w' : World} {e : TypeId} {sz n : Nat} {v : Value} {cs : List Value} (h : OwnK w e sz v n cs) (hk : ∀ g, v.ownBlock = some g → g < w.heap.size → w'.heap[g]? = w.heap[g]?) : OwnK w' e sz v n cs := by
  refine ⟨h.1, ?_⟩
  rcases h.2 with hn | ⟨g, cap, cur, rfl, hb, hgg, rest⟩
  · exact .inl hn
  · exact .inr ⟨g, cap, cur, rfl, hb, (hk g rfl (lt_of_some hgg)).trans hgg, rest⟩
theorem OwnK.chg {w w' : World} {S : Nat → Prop} {e : TypeId} {sz n : Nat} {v : Value} {cs : List Value} (h : OwnK w e sz v n cs) (hc : Chg S w w') (hn : ∀ g, v.ownBlock = some g → ¬ S g) : OwnK w' e sz v n cs :=
  h.keep fun g hg hl => hc.block g hl (hn g hg)
theorem OwnK.later {w w' : World} {e : TypeId} {sz n : Nat} {v : Value} {cs : List Value} (h : OwnK w e sz v n cs) (hb : Below w.heap.size w w') : OwnK w' e sz v n cs := h.keep fun g _ hl => hb.block g hl
theorem OwnK.setOther {w : World} {e : TypeId} {sz n : Nat} {v : Value} {cs : List Value} (h : OwnK w e sz v n cs) {a : Addr} (hn : v.ownBlock ≠ some a.block) (u : Value) : OwnK (w.setCell a u) e sz v n cs :=
  h.keep fun g hg _ => Below.heap_setCell w a u g fun e => hn (by rw [hg, e])
theorem OwnK.lt {w : World} {e : TypeId} {sz n : Nat} {v : Value} {cs : List Value} (h : OwnK w e sz v n cs) : ∀ g, v.ownBlock = some g → g < w.heap.size := fun g hg => (World.ownsRow.lt h g hg).2
theorem OwnK.blk {w : World} {e : TypeId} {sz n : Nat} {v : Value} {cs : List Value} (h : OwnK w e sz v n cs) : ∀ g, v.ownBlock = some g → ∃ cur, Blk w g cur e := by
  intro g hg
  rcases h.2 with ⟨rfl, _⟩ | ⟨g', cap, cur, rfl, _, hb, _⟩
  · simp [Value.ownBlock] at hg
  · simp [Value.ownBlock] at hg; subst hg; exact ⟨cur, hb⟩
theorem OwnK.ne {w : World} {e t : TypeId} {sz n : Nat} {v : Value} {cs : List Value} {p : Nat} {ds : Array Value} (h : OwnK w e sz v n cs) (k : Blk w p ds t) (hne : e ≠ t) : v.ownBlock ≠ some p := by
  intro hg
  obtain ⟨cur, hb⟩ := h.blk p hg
  exact hb.ne k hne rfl
theorem OwnK.neO {w : World} {e t : TypeId} {sz n : Nat} {v u : Value} {cs xs : List Value} (h : OwnK w e sz v n cs) (k : Owns w t u xs) (hne : e ≠ t) {g : Nat} (hg : u.ownBlock = some g) : v.ownBlock ≠ some g := by
  obtain ⟨cur, hb⟩ := k.blk g hg
  exact h.ne hb hne
theorem OwnK.slice {w : World} {e : TypeId} {sz n : Nat} {v : Value} {cs : List Value} (h : OwnK w e sz v n cs) : ∃ a cap, v = .slice a n cap ∧ n ≤ cap ∧ cap ≤ maxLen ∧ (0 < n → ∃ g, a = some ⟨g, 0, none⟩) := by
  rcases h.2 with ⟨rfl, rfl⟩ | ⟨g, cap, cur, rfl, _, _, hc, hm, _⟩
  · exact ⟨none, 0, rfl, Nat.le_refl _, by simp [maxLen], fun h => absurd h (by omega)⟩
  · exact ⟨_, cap, rfl, hc, hm, fun _ => ⟨g, rfl⟩⟩
theorem OwnK.cell {w : World} {e : TypeId} {sz g n cap : Nat} {cs : List Value} (h : OwnK w e sz (.slice (some ⟨g, 0, none⟩) n cap) n cs) {j : Nat} {u : Value} (hu : cs[j]? = some u) : w.cell? ⟨g, j, none⟩ = some u := by
  have hj : j < cs.length := (List.getElem?_eq_some_iff.1 hu).1
  rw [World.ownsRow.cellAt h j (by have := h.1; omega), hu]
theorem OwnK.nil (w : World) (e : TypeId) (sz : Nat) : OwnK w e sz (.slice none 0 0) 0 [] := World.ownsRow_nil w 0 e sz
theorem OwnK.free {w : World} {e : TypeId} {sz g n cap : Nat} {cs : List Value} (h : OwnK w e sz (.slice (some ⟨g, 0, none⟩) n cap) n cs) (j : Nat) : w.frozen? ⟨g, j, none⟩ = false := by
  obtain ⟨cur, hb⟩ := h.blk g rfl
  exact hb.free j
theorem OwnK.store {w : World} {e : TypeId} {sz g n cap : Nat} {cs : List Value} (h : OwnK w e sz (.slice (some ⟨g, 0, none⟩) n cap) n cs) (j : Nat) (u : Value) :
    OwnK (w.setCell ⟨g, j, none⟩ u) e sz (.slice (some ⟨g, 0, none⟩) n cap) n (cs.set j u) := by
  rcases h.2 with ⟨hv, _⟩ | ⟨g', cap', cur, hv, hb, hgg, hc, hm, hs, ht⟩
  · simp at hv
  · simp only [Value.slice.injEq, Option.some.injEq, Addr.mk.injEq, and_true, true_and] at hv
    obtain ⟨rfl, rfl⟩ := hv
    have h2 : Blk (w.setCell ⟨g, j, none⟩ u) g (cur.setIfInBounds j u) e := Blk.set hgg j u
    refine ⟨by rw [List.length_set]; exact h.1, .inr ⟨g, cap, _, rfl, hb, h2, hc, hm, by simpa using hs, ?_⟩⟩
    rw [Array.toList_setIfInBounds, List.take_set, ht]

section
variable {P : Program} {w : World}
/-- 'append' of one element that lies in a new block. -/
theorem wpList_appK1 {ops : Array Oper} {rest : List Oper} {o : Oper} {a : Act} {Q : Exit → Act → World → Prop} (hgd : o.guard = none) (s x : Operand) (t : TypeId)
    (ho : o.op = .call { callee := .builtin .append, args := #[s, x], argTypes := #[t, t] })
    (e : TypeId) (i : TypeInfo) (z : Value) (size bytes : Nat) (ht : P.underlying t = some (.slice e)) (hi : P.info? e = some i) (hz : i.zero = some z)
    (hsize : i.size = size) (hby : i.bytes = bytes) (hzs : z.cells.size = size) (hsz : 0 < size)
    (v : Value) (n : Nat) (cs us : List Value) (hs : a.eval s = v) (hown : OwnK w e size v n cs) (hu : us.length = size) (h1 : ∀ u ∈ us, u.oneCell' = true)
    (hx : a.eval x = .slice (some ⟨w.heap.size, 0, none⟩) 1 1)
    (h63 : n + 1 ≤ maxLen) (hbytes : (n + 1) * bytes ≤ 140737488355328)
    (h : ∀ v' w', OwnK w' e size v' (n + 1) (cs ++ us) → Chg (fun k => some k = v.ownBlock) w w' → (∀ g, v'.ownBlock = some g → some g = v.ownBlock ∨ w.heap.size ≤ g) → wpList P ops Q rest (a.put o.dst v') w') :
    wpList P ops Q (o :: rest) a (w.alloc (.cells us.toArray e)) := by
  refine wpList_append_own_at (w := w.alloc (.cells us.toArray e)) hgd s x t ho 0 e i z size bytes ht hi hz hsize hby hzs hsz v n cs hs (hown.later ((Below.refl _ _).alloc (Nat.le_refl _) _)) ⟨w.heap.size, 0, none⟩ 1 1 us hx (by rw [hu]; simp) ?_ h1 h63 hbytes (Nat.zero_le _) ?_
  · intro j u hj
    have hb : Blk (w.alloc (.cells us.toArray e)) w.heap.size us.toArray e := Blk.fresh _ _ _
    have := hb.cell (i := j) (v := u) (by simpa using hj)
    rw [show (⟨w.heap.size, 0, none⟩ : Addr).add j = ⟨w.heap.size, j, none⟩ from by unfold Addr.add; split <;> simp_all]
    exact this
  · intro v' w' k1 k2 _ k4
    refine h v' w' k1 ((Chg.alloc _ w _).trans (Chg.of_grown k2) fun _ _ h => h) fun g hg => ?_
    rcases k4 with k4 | k4
    · left; rw [← k4]; exact hg.symm
    · right; rw [k4] at hg; simp at hg; omega

/-- 'make([]T, 0, n)'. -/
theorem wpList_mkK0 {ops : Array Oper} {rest : List Oper} {o : Oper} {a : Act} {Q : Exit → Act → World → Prop} (hgd : o.guard = none) (l c : Operand) (t : TypeId) (ho : o.op = Op.makeSlice t l c)
    (e : TypeId) (i : TypeInfo) (z : Value) (size bytes : Nat) (ht : P.underlying t = some (.slice e)) (hi : P.info? e = some i) (hz : i.zero = some z) (hsize : i.size = size) (hby : i.bytes = bytes)
    (kl kc : IntKind) (C : Int) (n : Nat) (hl : a.eval l = .int kl 0) (hc : a.eval c = .int kc C) (hC : C = (n : Int)) (b2 : bytes * n ≤ 281474976710656) (b3 : n ≤ maxLen)
    (h : ∀ w', OwnK w' e size (.slice (some ⟨w.heap.size, 0, none⟩) 0 n) 0 [] → Below w.heap.size w w' → wpList P ops Q rest (a.put o.dst (.slice (some ⟨w.heap.size, 0, none⟩) 0 n)) w') :
    wpList P ops Q (o :: rest) a w :=
  wpList_plain hgd fun K hK => by
    obtain ⟨w', hr, ho2, hg⟩ := run_make_own (P := P) w 0 t e i z size ht hi hz hsize kl kc n (by rw [hby]; exact b2) b3 (Nat.zero_le _)
    unfold Oper.wp execOp
    rw [hC] at hc
    simp only [ho, hl, hc, Sem.run_bind, Sem.run_pure, hr, Result.andThen_ok]
    exact hK _ _ (h w' ho2 ⟨hg.os, hg.tape, hg.output, hg.size, fun k hk => hg.block k hk (by simp)⟩)
end
end Go.Proofs.Yteeegomdaebobaa.Own
