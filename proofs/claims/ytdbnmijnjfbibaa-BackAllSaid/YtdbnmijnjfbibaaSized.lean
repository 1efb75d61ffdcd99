/- What can be read of a slice, whoever owns it; a law's parameter that is a slice of whole numbers. No program in sight. -/
import Derived.Test.YtdbnmijnjfbibaaOwn
import Derived.SizedLaws
import Derived.ChangeSlices
namespace Go.Proofs.Ytdbnmijnjfbibaa.Own
set_option linter.unusedSimpArgs false
set_option linter.unusedVariables false
open Go Go.RowKit Go.ChangeShapes Go.WideShapes

/-- The block where a slice's cells lie. -/
def homeOf : Value → Option Nat
  | .slice (some x) (_ + 1) _ => some x.block
  | _ => none

/-- Of v the elements xs can be read. -/
def Rd (w : World) (v : Value) (xs : List Value) : Prop :=
  ∃ a cap, v = .slice a xs.length cap ∧ xs.length ≤ cap ∧ cap ≤ maxLen ∧ ∀ i u, xs[i]? = some u → ∃ x, a = some x ∧ w.cell? (x.add i) = some u

theorem Rd.nil (w : World) : Rd w (.slice none 0 0) [] := ⟨none, 0, rfl, Nat.le_refl _, by simp [maxLen], fun i u h => by simp at h⟩

theorem add_block (x : Addr) (i : Nat) : (x.add i).block = x.block := by unfold Addr.add; split <;> rfl
theorem lt_of_cell {w : World} {p : Addr} {v : Value} (h : w.cell? p = some v) : p.block < w.heap.size := by
  rcases Nat.lt_or_ge p.block w.heap.size with hl | hl
  · exact hl
  · simp [World.cell?, Array.getElem?_eq_none hl] at h

theorem Rd.lt {w : World} {v : Value} {xs : List Value} (h : Rd w v xs) : ∀ g, homeOf v = some g → g < w.heap.size := by
  intro g hg
  obtain ⟨a, cap, rfl, _, _, hc⟩ := h
  cases xs with
  | nil => cases a <;> simp [homeOf] at hg
  | cons u t =>
    obtain ⟨x, rfl, hx⟩ := hc 0 u rfl
    simp [homeOf] at hg
    subst hg
    have := lt_of_cell hx
    rwa [add_block] at this

theorem Rd.keep {w w' : World} {v : Value} {xs : List Value} (h : Rd w v xs) (hk : ∀ g, homeOf v = some g → g < w.heap.size → w'.heap[g]? = w.heap[g]?) : Rd w' v xs := by
  obtain ⟨a, cap, rfl, h1, h2, hc⟩ := h
  refine ⟨a, cap, rfl, h1, h2, fun i u hu => ?_⟩
  obtain ⟨x, rfl, hx⟩ := hc i u hu
  have hpos : 0 < xs.length := by have := (List.getElem?_eq_some_iff.1 hu).1; omega
  have hhome : homeOf (Value.slice (some x) xs.length cap) = some x.block := by
    cases xs with
    | nil => simp at hpos
    | cons => rfl
  have hlt := lt_of_cell hx
  rw [add_block] at hlt
  exact ⟨x, rfl, (World.cell?_of_block (w := w) (a := x.add i) (by rw [add_block]; exact hk x.block hhome hlt)).trans hx⟩
theorem Rd.chg {w w' : World} {S : Nat → Prop} {v : Value} {xs : List Value} (h : Rd w v xs) (hc : Chg S w w') (hn : ∀ g, homeOf v = some g → ¬ S g) : Rd w' v xs :=
  h.keep fun g hg hl => hc.block g hl (hn g hg)
theorem Rd.below {B : Nat} {w w' : World} {v : Value} {xs : List Value} (h : Rd w v xs) (hb : Below B w w') (hB : ∀ g, homeOf v = some g → g < B) : Rd w' v xs :=
  h.keep fun g hg _ => hb.block g (hB g hg)
theorem Rd.later {w w' : World} {v : Value} {xs : List Value} (h : Rd w v xs) (hb : Below w.heap.size w w') : Rd w' v xs :=
  h.below hb h.lt

theorem home_own {g : Nat} {n cap g' : Nat} (h : homeOf (.slice (some ⟨g, 0, none⟩) n cap) = some g') : g' = g := by
  cases n with
  | zero => simp [homeOf] at h
  | succ n => simp [homeOf] at h; exact h.symm

theorem Owns.rd {w : World} {e : TypeId} {v : Value} {xs : List Value} (h : Owns w e v xs) : Rd w v xs := by
  rcases h.form with ⟨rfl, rfl⟩ | ⟨g, cap, cur, rfl, hb, hc, hm, hs, ht⟩
  · exact Rd.nil w
  · refine ⟨_, cap, rfl, hc, hm, fun i u hu => ⟨_, rfl, ?_⟩⟩
    have := h.cell hu
    rw [show (⟨g, 0, none⟩ : Addr).add i = ⟨g, i, none⟩ from by unfold Addr.add; split <;> simp_all]
    exact this
theorem Owns.home {w : World} {e : TypeId} {v : Value} {xs : List Value} (h : Owns w e v xs) : ∀ g, homeOf v = some g → v.ownBlock = some g := by
  intro g hg
  rcases h.form with ⟨rfl, rfl⟩ | ⟨g', cap, cur, rfl, _⟩
  · simp [homeOf] at hg
  · rw [home_own hg]; rfl

theorem Rd.length {w : World} {a : Option Addr} {n cap : Nat} {xs : List Value} (h : Rd w (.slice a n cap) xs) : n = xs.length := by
  obtain ⟨_, _, hv, _⟩ := h
  simp at hv
  exact hv.2.1
theorem Rd.at {w : World} {a : Option Addr} {n cap : Nat} {xs : List Value} (h : Rd w (.slice a n cap) xs) {i : Nat} {u : Value} (hu : xs[i]? = some u) : ∃ x, a = some x ∧ w.cell? (x.add i) = some u := by
  obtain ⟨_, _, hv, _, _, hc⟩ := h
  simp only [Value.slice.injEq] at hv
  obtain ⟨rfl, _, rfl⟩ := hv
  exact hc i u hu

theorem add_add (x : Addr) (i j : Nat) : (x.add i).add j = x.add (i + j) := by
  unfold Addr.add
  by_cases hi : i = 0
  · subst hi; simp
  · by_cases hj : j = 0
    · subst hj; simp [hi]
    · simp [hi, hj, Nat.add_assoc]

/-- What can be read of a part of a slice. -/
theorem Rd.sub {w : World} {a : Option Addr} {N cap : Nat} {xs : List Value} (h : Rd w (.slice a N cap) xs) (k n : Nat) (hk : k + n ≤ N) :
    Rd w (.slice (if cap = k then a else a.map (fun x => x.add k)) (k + n - k) (cap - k)) ((xs.drop k).take n) := by
  obtain ⟨_, _, hv, h1, h2, hc⟩ := h
  simp only [Value.slice.injEq] at hv
  obtain ⟨rfl, rfl, rfl⟩ := hv
  have hl : ((xs.drop k).take n).length = n := by rw [List.length_take, List.length_drop]; omega
  refine ⟨_, _, by rw [hl, Nat.add_sub_cancel_left], by rw [hl]; omega, by omega, fun i u hu => ?_⟩
  have hi : i < n := by have := (List.getElem?_eq_some_iff.1 hu).1; omega
  rw [List.getElem?_take, if_pos hi, List.getElem?_drop] at hu
  obtain ⟨x, rfl, hx⟩ := hc _ u hu
  rw [if_neg (by omega)]
  exact ⟨x.add k, rfl, by rw [add_add]; exact hx⟩

theorem Rd.take {w : World} {a : Option Addr} {N cap : Nat} {xs : List Value} (h : Rd w (.slice a N cap) xs) (n : Nat) (hn : n ≤ N) : Rd w (.slice a n cap) (xs.take n) := by
  obtain ⟨_, _, hv, h1, h2, hc⟩ := h
  simp only [Value.slice.injEq] at hv
  obtain ⟨rfl, rfl, rfl⟩ := hv
  have hl : (xs.take n).length = n := by rw [List.length_take]; omega
  refine ⟨_, _, by rw [hl], by rw [hl]; omega, h2, fun i u hu => ?_⟩
  have hi : i < n := by have := (List.getElem?_eq_some_iff.1 hu).1; omega
  rw [List.getElem?_take, if_pos hi] at hu
  exact hc i u hu

/-- Whole numbers from nought on, as values; whole numbers, as values. -/
def nums (k : IntKind) (l : List Nat) : List Value := l.map fun n : Nat => .int k (n : Int)
def ints (k : IntKind) (l : List Int) : List Value := l.map fun n => .int k n
@[simp] theorem length_nums (k : IntKind) (l : List Nat) : (nums k l).length = l.length := by simp [nums]
@[simp] theorem length_ints (k : IntKind) (l : List Int) : (ints k l).length = l.length := by simp [ints]
theorem nums_at (k : IntKind) (l : List Nat) (i : Nat) (h : i < l.length) : (nums k l)[i]? = some (.int k ((l.getD i 0 : Nat) : Int)) := by
  simp [nums, List.getD_eq_getElem?_getD, h]
theorem ints_at (k : IntKind) (l : List Int) (i : Nat) (h : i < l.length) : (ints k l)[i]? = some (.int k (l.getD i 0)) := by
  simp [ints, List.getD_eq_getElem?_getD, h]

/-- A law's parameter that is a slice of whole numbers. -/
def Arg (k : IntKind) (w : World) (a : Option Addr) (len cap : Nat) (zs : List Int) : Prop :=
  (a = none ∧ len = 0 ∧ cap = 0 ∧ zs = []) ∨
  ∃ x, a = some x ∧ len ≤ cap ∧ cap ≤ maxLen ∧ zs.length = cap ∧ (∀ i, i < zs.length → w.cell? (x.add i) = some (.int k (zs.getD i 0))) ∧ ∀ n ∈ zs, (Lit.int k n).wf = true

theorem Arg.rd {k : IntKind} {w : World} {a : Option Addr} {len cap : Nat} {zs : List Int} (h : Arg k w a len cap zs) :
    ∃ xs : List Int, xs.length = len ∧ Rd w (.slice a len cap) (ints k xs) ∧ ∀ n ∈ xs, (Lit.int k n).wf = true := by
  rcases h with ⟨rfl, rfl, rfl, rfl⟩ | ⟨x, rfl, hl, hm, hz, hc, hw⟩
  · exact ⟨[], rfl, Rd.nil w, by simp⟩
  · have hlen : (zs.take len).length = len := by rw [List.length_take]; omega
    refine ⟨zs.take len, hlen, ⟨some x, cap, by rw [length_ints, hlen], by rw [length_ints, hlen]; exact hl, hm, fun i u hu => ⟨x, rfl, ?_⟩⟩, fun n hn => hw n (List.mem_of_mem_take hn)⟩
    have hi : i < len := by have := (List.getElem?_eq_some_iff.1 hu).1; rw [length_ints, hlen] at this; exact this
    rw [ints_at k _ i (by omega)] at hu
    have := hc i (by omega)
    rw [this, ← hu]
    simp [List.getD_eq_getElem?_getD, List.getElem?_take, hi]

theorem Arg.rdN {k : IntKind} (hk : k.min = 0) {w : World} {a : Option Addr} {len cap : Nat} {zs : List Int} (h : Arg k w a len cap zs) :
    ∃ xs : List Nat, xs.length = len ∧ Rd w (.slice a len cap) (nums k xs) ∧ ∀ n ∈ xs, (n : Int) ≤ k.max := by
  obtain ⟨xs, hl, hr, hw⟩ := h.rd
  have hw2 : ∀ n ∈ xs, 0 ≤ n ∧ n ≤ k.max := fun n hn => by
    have := hw n hn
    simp only [Lit.wf, Bool.and_eq_true, decide_eq_true_eq, hk] at this
    exact this
  refine ⟨xs.map Int.toNat, by simpa using hl, ?_, ?_⟩
  · have e : nums k (xs.map Int.toNat) = ints k xs := by
      unfold nums ints
      rw [List.map_map]
      apply List.map_congr_left
      intro n hn
      have := (hw2 n hn).1
      simp [Int.toNat_of_nonneg this]
    rw [e]
    exact hr
  · intro n hn
    obtain ⟨z, hz, rfl⟩ := List.mem_map.1 hn
    have := hw2 z hz
    omega

/-- A row's slice of whole numbers is no longer than its weight allows. -/
theorem sized_ints {H : Type} {enc : TypeId × Value → H} {P : Program} {W : World} {base : Nat} {spare : Nat → Bool} {held : Bool} {t e : TypeId} {k : IntKind} {a : Option Addr} {len cap : Nat} {d : DataW H} {ps : List MemPlace} {ts : List TypeId} {ds : List (DataW H)} {j : Nat}
    (hsz : (DataW.weightsEach P ts ds).all (· ≤ reachBytes) = true) (ht : ts[j]? = some t) (hd : ds[j]? = some d) (hu : P.underlying t = some (.slice e)) (he : P.underlying e = some (.int k)) (hc : P.cellsOf e = 1) {B : Nat} (hB : P.bytesOf e = B)
    (h : DataW.Trod enc P W base spare held t (.slice a len cap) d ps) : len * B ≤ 140737488351232 := by
  obtain ⟨fuel, hf⟩ := h
  rcases open_ints hu he hc hf with ⟨hcs, _⟩ | ⟨x, l, c, zs, hcs, _, hl, _, hz, hx, _, _⟩
  · simp [Value.cells] at hcs
    obtain ⟨rfl, rfl, rfl⟩ := hcs
    simp
  · simp [Value.cells] at hcs
    obtain ⟨rfl, rfl, rfl⟩ := hcs
    obtain ⟨hx, _⟩ := Prod.mk.inj hx
    subst hx
    have z := sized_slice hsz ht hd hu
    rw [hB] at z
    have hl2 : len ≤ zs.length := by
      rw [hz]
      split
      · exact hl
      · exact Nat.le_refl _
    have h1 : (lits (H := H) k (zs.take len)).length + (lits (H := H) k (zs.drop len)).length = zs.length := by
      simp [lits]
      omega
    rw [h1] at z
    exact Nat.le_trans (Nat.mul_le_mul_right _ hl2) z
end Go.Proofs.Ytdbnmijnjfbibaa.Own
