/- Part B2 of what the layer's laws stand on: Re, Le, Mo, Mb, Mc, Mf, Mg, Mh, Mi, Mj, Rf, Rg, Mk, Ml, Mn, Nl, PAx0, PAx13, PAx14, PAx15. Written by a program (merge.py) out of this session's own texts and of what the kit's print wrote over stand-ins (sp.py). Conditions: those that each theorem names. -/
import Derived.Test.YtejecpmfhgplmaaQB1
import Derived.Deep.RegionHeld3
import Derived.Deep.CutBlock
import Derived.Test.YtejecpmfhgplmaaProg
import Derived.Below
import Derived.Deep.Draws
import Derived.Deep.AppendLies
import Derived.Maps.AppendAt
import Derived.OwnWalk
import Derived.Laws.BytesArg
import Derived.Laws.MakeOwn
import Derived.Laws.OwnMore
import Derived.Deep.OwnRows
import Derived.Tactics
import Derived.Lib.ConvBytes
import Derived.Laws.Slices
import Derived.WalkKit
import Derived.KernelRfl
import Derived.RowKit3
import Derived.Deep.LoopGhost
import Derived.Deep.QuietTactic
import Derived.BigQuiet
import Derived.WideLaws
import Derived.Deep.DeepCutAuto
import Derived.Laws.Rows
import Derived.Lib.AppendStr
import Derived.ArgAppend
import Derived.Laws.IdiomCopy
import Derived.OrdersHeld
import Derived.Laws.BitsLemmas
import Derived.RowKit
import Derived.Test.YtejecpmfhgplmaaWWords
import Derived.Test.YtejecpmfhgplmaaWLast
import Derived.Test.YtejecpmfhgplmaaWTab
import Derived.Test.YtejecpmfhgplmaaWFour
import Derived.Test.YtejecpmfhgplmaaWQPut
import Derived.Test.YtejecpmfhgplmaaWApart
import Derived.Test.YtejecpmfhgplmaaWArr
import Derived.Test.YtejecpmfhgplmaaWZeros
import Derived.Test.YtejecpmfhgplmaaWFoot
import Derived.Test.YtejecpmfhgplmaaWKept
import Derived.Test.YtejecpmfhgplmaaWShare
import Derived.Test.YtejecpmfhgplmaaWN
import Derived.Test.YtejecpmfhgplmaaWFootNe
import Derived.Test.YtejecpmfhgplmaaWAt
import Derived.Test.YtejecpmfhgplmaaWEqStruct
import Derived.Test.YtejecpmfhgplmaaWRepsOne
import Derived.Test.YtejecpmfhgplmaaWInv
import Derived.Test.YtejecpmfhgplmaaWInvWords
import Derived.Test.YtejecpmfhgplmaaWGuard
import Derived.Test.YtejecpmfhgplmaaWNEv
import Derived.Test.YtejecpmfhgplmaaWMore
-- ---- Re
/- wringerref7.Lengths: what it refuses. Conditions: the list reads as the argument does. -/
namespace Go.Proofs.Ytejecpmfhgplmaa
set_option linter.unusedSimpArgs false
set_option linter.unusedVariables false
open Go.RowKit Mix _root_.Go.Proofs.Ytejecpmfhgplmaa.Own Dp Ol
attribute [local go_sem] Own.max_int Own.min_int

/-- What may be asked, as a Bool. -/
def fqB (l : List Int) (a : Int) : Bool := decide (l.length = 65 ∧ 7 ≤ a ∧ a ≤ 15 ∧ ∀ x ∈ l, 0 ≤ x ∧ x ≤ 16777216)
theorem fqB_iff (l : List Int) (a : Int) : fqB l a = true ↔ ∃ m : Nat, a = (m : Int) ∧ Fq l m := by
  unfold fqB
  rw [decide_eq_true_eq]
  constructor
  · rintro ⟨h1, h2, h3, h4⟩
    exact ⟨a.toNat, by omega, h1, h4, by omega, by omega⟩
  · rintro ⟨m, rfl, h⟩
    exact ⟨h.len, by have := h.lo; omega, by have := h.hi; omega, h.each⟩

set_option maxRecDepth 100000 in
set_option maxHeartbeats 2000000 in
theorem rlen_bad (A0 : Option Addr) (n0 c0 : Nat) (l0 : List Int) (a1 : Int) (w : World) (hR : Rd w (.slice A0 n0 n0) (ints .i64 l0)) (hn : n0 < 200000000000000) (hb : ¬ fqB l0 a1 = true) :
    Calls Try.prog 12 #[.slice A0 n0 c0, .int .i64 a1] w fun e w' => e = .returned (.agg #[.slice none 0 0, .int .i64 1]) ∧ Below w.heap.size w w' := by
  have hl : l0.length = n0 := by have := hR.length; rw [length_ints] at this; exact this.symm
  by_cases h65 : n0 = 65
  · subst h65
    by_cases h7 : a1 < 7
    · have t7 : decide (a1 < 7) = true := decide_eq_true h7
      clear hR hb hl hn
      go_enter Try.func12, Try.ntmps12
      go_wp2_with fail
      exact bodyPost_ret (results_cell_row rfl _ _ w.heap.size 28 #[.slice none 0 0, .int .i64 1] (0, 0) _ rfl (Blk.fresh _ _ _) Try.underlying28 rfl (by kernel_rfl)) rfl ⟨rfl, (Below.refl _ _).alloc (Nat.le_refl _) _⟩
    · have t7 : decide (a1 < 7) = false := decide_eq_false h7
      by_cases h15 : 15 < a1
      · have t15 : decide (15 < a1) = true := decide_eq_true h15
        clear hR hb hl hn
        go_enter Try.func12, Try.ntmps12
        go_wp2_with fail
        exact bodyPost_ret (results_cell_row rfl _ _ w.heap.size 28 #[.slice none 0 0, .int .i64 1] (0, 0) _ rfl (Blk.fresh _ _ _) Try.underlying28 rfl (by kernel_rfl)) rfl ⟨rfl, (Below.refl _ _).alloc (Nat.le_refl _) _⟩
      · have t15 : decide (15 < a1) = false := decide_eq_false h15
        obtain ⟨j, hj, hjb⟩ : ∃ j, j < 65 ∧ ¬ (0 ≤ l0.getD j 0 ∧ l0.getD j 0 ≤ 16777216) := by
          refine Classical.byContradiction fun hc => hb ?_
          unfold fqB
          rw [decide_eq_true_eq]
          refine ⟨hl, by omega, by omega, fun x hx => ?_⟩
          obtain ⟨j, hj, e⟩ := List.getElem_of_mem hx
          refine Classical.byContradiction fun hx2 => hc ⟨j, by omega, ?_⟩
          have e2 : l0.getD j 0 = x := by simp [List.getD_eq_getElem?_getD, hj, e]
          rw [e2]; exact hx2
        obtain ⟨B, hB⟩ : ∃ B, B = w.heap.size := ⟨_, rfl⟩
        have HB := kept hB
        have HR := kept hR
        have HL := kept hl
        have HJ := kept hjb
        clear hR hb hl hn hjb hB
        go_enter Try.func12, Try.ntmps12
        go_wp2_with fail
        rw [show w.heap.size = B from HB.out.symm]
        generalize hw1 : World.alloc w _ = w1
        have HR1 := kept (HR.out.later (show Below w.heap.size w w1 by rw [← hw1]; exact (Below.refl _ _).alloc (Nat.le_refl _) _))
        have HS : Kept (Blk w1 B #[.slice none 0 0, .int .i64 0] 28 ∧ Below B w w1) := kept (by rw [← hw1, HB.out]; exact ⟨Blk.fresh _ _ _, (Below.refl _ _).alloc (Nat.le_refl _) _⟩)
        clear hw1
        go_loopw [5] (fun s5 wr => ∃ i : Nat, i ≤ j ∧ s5 = .int .i64 (i : Int) ∧ wr = w1) (fun s5 _ => 65 - (intOf s5).toNat)
        case atStart => exact ⟨0, by omega, rfl, rfl⟩
        case round =>
          obtain ⟨i, hi, rfl, rfl⟩ := hrel
          have hil : i < 65 := by omega
          obtain ⟨x, rfl, hc⟩ := HR1.out.at (Own.ints_at .i64 l0 i (by rw [HL.out]; omega))
          by_cases hij : i = j
          · subst hij
            have hy := HJ.out
            have hd0 := HS.out.1.cell (i := 0) rfl
            have hd1 := HS.out.1.cell (i := 1) rfl
            have hf0 := HS.out.1.free 0
            have hf1 := HS.out.1.free 1
            obtain ⟨y, hye⟩ : ∃ y, y = l0.getD i 0 := ⟨_, rfl⟩
            rw [← hye] at hc hy
            clear hye
            by_cases h0 : y < 0
            · have ty : decide (y < 0) = true := decide_eq_true h0
              clear hy
              go_wp2_with fail
              exact bodyPost_ret (results_cell_row rfl _ _ B 28 #[.slice none 0 0, .int .i64 1] (0, 0) _ rfl ((HS.out.1.set 0 _).set 1 _) Try.underlying28 rfl (by kernel_rfl)) rfl ⟨rfl, by rw [← HB.out]; exact (HS.out.2.setCell (p := ⟨B, 0, none⟩) (Nat.le_refl _) _).setCell (p := ⟨B, 1, none⟩) (Nat.le_refl _) _⟩
            · have ty : decide (y < 0) = false := decide_eq_false h0
              have tz : decide (16777216 < y) = true := decide_eq_true (by omega)
              have hz : 16777216 < y := by omega
              clear hy
              go_wp2_with fail
              exact bodyPost_ret (results_cell_row rfl _ _ B 28 #[.slice none 0 0, .int .i64 1] (0, 0) _ rfl ((HS.out.1.set 0 _).set 1 _) Try.underlying28 rfl (by kernel_rfl)) rfl ⟨rfl, by rw [← HB.out]; exact (HS.out.2.setCell (p := ⟨B, 0, none⟩) (Nat.le_refl _) _).setCell (p := ⟨B, 1, none⟩) (Nat.le_refl _) _⟩
          · obtain ⟨y, hye⟩ : ∃ y, y = l0.getD i 0 := ⟨_, rfl⟩
            rw [← hye] at hc
            clear hye
            have hd0 := HS.out.1.cell (i := 0) rfl
            have hd1 := HS.out.1.cell (i := 1) rfl
            have hf0 := HS.out.1.free 0
            have hf1 := HS.out.1.free 1
            by_cases h0 : y < 0
            · have ty : decide (y < 0) = true := decide_eq_true h0
              go_wp2_with fail
              exact bodyPost_ret (results_cell_row rfl _ _ B 28 #[.slice none 0 0, .int .i64 1] (0, 0) _ rfl ((HS.out.1.set 0 _).set 1 _) Try.underlying28 rfl (by kernel_rfl)) rfl ⟨rfl, by rw [← HB.out]; exact (HS.out.2.setCell (p := ⟨B, 0, none⟩) (Nat.le_refl _) _).setCell (p := ⟨B, 1, none⟩) (Nat.le_refl _) _⟩
            · have ty : decide (y < 0) = false := decide_eq_false h0
              by_cases hz : 16777216 < y
              · have tz : decide (16777216 < y) = true := decide_eq_true hz
                go_wp2_with fail
                exact bodyPost_ret (results_cell_row rfl _ _ B 28 #[.slice none 0 0, .int .i64 1] (0, 0) _ rfl ((HS.out.1.set 0 _).set 1 _) Try.underlying28 rfl (by kernel_rfl)) rfl ⟨rfl, by rw [← HB.out]; exact (HS.out.2.setCell (p := ⟨B, 0, none⟩) (Nat.le_refl _) _).setCell (p := ⟨B, 1, none⟩) (Nat.le_refl _) _⟩
              · have tz : decide (16777216 < y) = false := decide_eq_false hz
                go_wp2_with fail
                go_roundw
                case rel => exact ⟨i + 1, by omega, by go_num, trivial⟩
                case measure => simp [intOf]; omega
  · have t65 : ((n0 : Int) != 65) = true := by simp; omega
    clear hR hb hl h65
    go_enter Try.func12, Try.ntmps12
    go_wp2_with fail
    exact bodyPost_ret (results_cell_row rfl _ _ w.heap.size 28 #[.slice none 0 0, .int .i64 1] (0, 0) _ rfl (Blk.fresh _ _ _) Try.underlying28 rfl (by kernel_rfl)) rfl ⟨rfl, (Below.refl _ _).alloc (Nat.le_refl _) _⟩
end Go.Proofs.Ytejecpmfhgplmaa

-- ---- Le
/- The answer of both lengths. No program in sight. -/
namespace Go.Proofs.Ytejecpmfhgplmaa.PA
/-- The answer. -/
def lenE (l : List Int) (a : Int) : List Int × Int := if fqB l a = true then (Dp.lenL l a.toNat, 0) else ([], 1)
/-- A cost, as both reckon it: of the first i. -/
def costA (a b : List Int) : Nat → Int
  | 0 => 0
  | i + 1 => Go.RowKit.wrap64 (costA a b i + Go.RowKit.wrap64 (a.getD i 0 * b.getD i 0))
def costW (a b : List Int) : Int := costA a b (min a.length b.length)
end Go.Proofs.Ytejecpmfhgplmaa.PA

-- ---- Mo
/- A region that draws its order, of which the order is forced but for a fork. No program in sight. -/
namespace Go.Proofs.Ytejecpmfhgplmaa.Mix
set_option linter.unusedSimpArgs false
set_option linter.unusedVariables false
set_option linter.unusedSectionVars false
open Go Go.RowKit

section
variable {P : Program} {md : Region.Mode} {ops : Array Oper} {Q : Exit → Act → World → Prop} {C : World → Prop}

/-- The orders in which the rest may come: a chain, or one of two first. -/
inductive Tr where
  | seq (ts : List Nat)
  | one (i : Nat) (t : Tr)
  | two (i : Nat) (t : Tr) (j : Nat) (u : Tr)
  | three (i : Nat) (t : Tr) (j : Nat) (u : Tr) (k : Nat) (v : Tr)
def Tr.len : Tr → Nat
  | .seq ts => ts.length
  | .one _ t => t.len + 1
  | .two _ t _ _ => t.len + 1
  | .three _ t _ _ _ _ => t.len + 1
def Tr.all (p : Nat → Bool) : Tr → Bool
  | .seq ts => ts.all p
  | .one i t => p i && t.all p
  | .two i t j u => p i && p j && t.all p && u.all p
  | .three i t j u k v => p i && p j && p k && t.all p && u.all p && v.all p
def treeB (md : Region.Mode) (ops : Array Oper) : Tr → Array Bool → Bool
  | .seq ts, listed => seqL md ops ts listed
  | .one i t, listed => decide (Region.ready md ops listed = [i]) && treeB md ops t (listed.setIfInBounds i true)
  | .two i t j u, listed => decide (Region.ready md ops listed = [i, j]) && decide (u.len = t.len) && treeB md ops t (listed.setIfInBounds i true) && treeB md ops u (listed.setIfInBounds j true)
  | .three i t j u k v, listed => decide (Region.ready md ops listed = [i, j, k]) && decide (u.len = t.len) && decide (v.len = t.len) && treeB md ops t (listed.setIfInBounds i true) && treeB md ops u (listed.setIfInBounds j true) && treeB md ops v (listed.setIfInBounds k true)
def wpTr (P : Program) (l : List Oper) (K : Act → World → Prop) : Tr → Act → World → Prop
  | .seq ts, a, w => wpList P l.toArray (Only K) (pick l ts) a w
  | .one i t, a, w => wpList P l.toArray (Only (wpTr P l K t)) (pick l [i]) a w
  | .two i t j u, a, w => wpList P l.toArray (Only (wpTr P l K t)) (pick l [i]) a w ∧ wpList P l.toArray (Only (wpTr P l K u)) (pick l [j]) a w
  | .three i t j u k v, a, w => wpList P l.toArray (Only (wpTr P l K t)) (pick l [i]) a w ∧ wpList P l.toArray (Only (wpTr P l K u)) (pick l [j]) a w ∧ wpList P l.toArray (Only (wpTr P l K v)) (pick l [k]) a w

theorem wp_only {o : Oper} {a : Act} {w : World} {K K' A B : Act → World → Prop} (h : ∀ a w, K a w → K' a w) (hh : o.wp P a w K (Only A)) : o.wp P a w K' (Only B) := by
  unfold Oper.wp at *
  generalize (execOp a.eval o).run P w = r at *
  cases r with
  | ok n w' =>
    cases n <;> simp only [Oper.upon] at hh ⊢ <;>
      first
        | exact h _ _ hh
        | exact Calls.mono hh (fun e w'' he => by
            cases e with
            | returned v => exact h _ _ he
            | panicked c => exact he.elim
            | outgrown => obtain ⟨a1, w1, h1⟩ := he; exact h1.elim)
        | exact Rows.mono hh (fun _ _ he => h _ _ he)
  | halt x w' => cases x <;> simp only [Oper.upon] at hh ⊢ <;> exact hh
theorem wpOp_only {i : Nat} {o : Oper} (ho : ops[i]? = some o) {a : Act} {w : World} {K A B : Act → World → Prop} (h : ∀ a w, A a w → K a w) (hh : wpList P ops (Only A) [o] a w) : wpOp P ops (Only B) i K a w := by
  unfold wpOp
  simp only [ho]
  unfold wpList at hh
  split
  · rename_i hw
    rw [if_pos hw] at hh
    rcases hh with hh | ⟨_, a1, w1, h1⟩
    · exact .inl (wp_only (fun a w h1 => h a w h1) hh)
    · exact h1.elim
  · rename_i hw
    rw [if_neg hw] at hh
    exact h _ _ hh

theorem wpM_tree {l : List Oper} {h1 h2 : List Nat} {K : Act → World → Prop} : ∀ (t : Tr) (listed : Array Bool) (a : Act) (w : World), t.all (fun i => !h1.contains i && !h2.contains i) = true → treeB md l.toArray t listed = true →
    wpTr P l K t a w → wpM P md l.toArray (Only K) C h1 h2 t.len listed a w := by
  intro t
  induction t with
  | seq ts =>
    intro listed a w hm hB h
    have hts : ∀ i ∈ ts, i ∉ h1 ∧ i ∉ h2 := fun i hi => by simpa using List.all_eq_true.1 hm i hi
    exact wpM_seq ts (pick l ts) listed a w hts (pick_map ts (by have := seqL_lt ts listed hB; simpa using this)) hB h
  | one i t iht =>
    intro listed a w hm hB h
    simp only [Tr.all, Bool.and_eq_true, Bool.not_eq_true', List.contains_eq_mem, decide_eq_false_iff_not] at hm
    simp only [treeB, Bool.and_eq_true, decide_eq_true_eq] at hB
    obtain ⟨hi, hmt⟩ := hm
    obtain ⟨hr, hbt⟩ := hB
    have h1 : i ∈ Region.ready md l.toArray listed := by rw [hr]; simp
    obtain ⟨_, o, ho, _⟩ := mem_ready.1 h1
    have h2 : l[i]? = some o := by simpa using ho
    have hp : pick l [i] = [o] := by simp [pick, h2]
    refine ⟨fun h1 => (by rw [hr] at h1; cases h1), fun k hk => ?_⟩
    rw [hr] at hk
    have hki : k = i := by simpa using hk
    subst hki
    rw [if_neg hi.1, if_neg hi.2]
    have h3 : wpList P l.toArray (Only (wpTr P l K t)) (pick l [k]) a w := h
    rw [hp] at h3
    exact wpOp_only ho (fun a' w' h' => iht _ a' w' (by simpa using hmt) hbt h') h3
  | two i t j u iht ihu =>
    intro listed a w hm hB h
    simp only [Tr.all, Bool.and_eq_true, Bool.not_eq_true', List.contains_eq_mem, decide_eq_false_iff_not] at hm
    simp only [treeB, Bool.and_eq_true, decide_eq_true_eq] at hB
    obtain ⟨⟨⟨hi, hj⟩, hmt⟩, hmu⟩ := hm
    obtain ⟨⟨⟨hr, hlen⟩, hbt⟩, hbu⟩ := hB
    have at_ : ∀ k, k ∈ [i, j] → ∃ o, l.toArray[k]? = some o ∧ pick l [k] = [o] := fun k hk => by
      have h1 : k ∈ Region.ready md l.toArray listed := by rw [hr]; exact hk
      obtain ⟨_, o, ho, _⟩ := mem_ready.1 h1
      refine ⟨o, ho, ?_⟩
      have h2 : l[k]? = some o := by simpa using ho
      simp [pick, h2]
    refine ⟨fun h1 => (by rw [hr] at h1; cases h1), fun k hk => ?_⟩
    rw [hr] at hk
    obtain ⟨o, ho, hp⟩ := at_ k hk
    rcases List.mem_cons.1 hk with rfl | hk
    · rw [if_neg hi.1, if_neg hi.2]
      have h2 := h.1
      rw [hp] at h2
      exact wpOp_only ho (fun a' w' h' => iht _ a' w' (by simpa using hmt) hbt h') h2
    · have hkj : k = j := by simpa using hk
      subst hkj
      rw [if_neg hj.1, if_neg hj.2]
      have h3 := h.2
      rw [hp] at h3
      have hu : ∀ a' w', wpTr P l K u a' w' → wpM P md l.toArray (Only K) C h1 h2 t.len (listed.setIfInBounds k true) a' w' := fun a' w' h' => by
        have := ihu (listed.setIfInBounds k true) a' w' (by simpa using hmu) hbu h'
        rwa [hlen] at this
      exact wpOp_only ho hu h3
  | three i t j u m v iht ihu ihv =>
    intro listed a w hm hB h
    simp only [Tr.all, Bool.and_eq_true, Bool.not_eq_true', List.contains_eq_mem, decide_eq_false_iff_not] at hm
    simp only [treeB, Bool.and_eq_true, decide_eq_true_eq] at hB
    obtain ⟨⟨⟨⟨⟨hi, hj⟩, hmm⟩, hmt⟩, hmu⟩, hmv⟩ := hm
    obtain ⟨⟨⟨⟨⟨hr, hlen⟩, hlenv⟩, hbt⟩, hbu⟩, hbv⟩ := hB
    have at_ : ∀ k, k ∈ [i, j, m] → ∃ o, l.toArray[k]? = some o ∧ pick l [k] = [o] := fun k hk => by
      have h1 : k ∈ Region.ready md l.toArray listed := by rw [hr]; exact hk
      obtain ⟨_, o, ho, _⟩ := mem_ready.1 h1
      refine ⟨o, ho, ?_⟩
      have h2 : l[k]? = some o := by simpa using ho
      simp [pick, h2]
    refine ⟨fun h1 => (by rw [hr] at h1; cases h1), fun k hk => ?_⟩
    rw [hr] at hk
    obtain ⟨o, ho, hp⟩ := at_ k hk
    rcases List.mem_cons.1 hk with rfl | hk
    · rw [if_neg hi.1, if_neg hi.2]
      have h2 := h.1
      rw [hp] at h2
      exact wpOp_only ho (fun a' w' h' => iht _ a' w' (by simpa using hmt) hbt h') h2
    · rcases List.mem_cons.1 hk with rfl | hk
      · rw [if_neg hj.1, if_neg hj.2]
        have h3 := h.2.1
        rw [hp] at h3
        have hu : ∀ a' w', wpTr P l K u a' w' → wpM P md l.toArray (Only K) C h1 h2 t.len (listed.setIfInBounds k true) a' w' := fun a' w' h' => by
          have := ihu (listed.setIfInBounds k true) a' w' (by simpa using hmu) hbu h'
          rwa [hlen] at this
        exact wpOp_only ho hu h3
      · have hkm : k = m := by simpa using hk
        subst hkm
        rw [if_neg hmm.1, if_neg hmm.2]
        have h3 := h.2.2
        rw [hp] at h3
        have hu : ∀ a' w', wpTr P l K v a' w' → wpM P md l.toArray (Only K) C h1 h2 t.len (listed.setIfInBounds k true) a' w' := fun a' w' h' => by
          have := ihv (listed.setIfInBounds k true) a' w' (by simpa using hmv) hbv h'
          rwa [hlenv] at this
        exact wpOp_only ho hu h3

def mixTB (md : Region.Mode) (ops : Array Oper) (h1 h2 : List Nat) (t : Tr) : Bool :=
  Region.noSelect ops && h2.all (fun i => !h1.contains i) && t.all (fun i => !h1.contains i && !h2.contains i) &&
  (List.range ops.size).all (fun t => h1.contains t || h2.contains t || (match ops[t]? with | some o => newOp o.op | none => false) || h2.all fun i => anc md ops ops.size t i) &&
  hoistB md ops (h1 ++ h2) (Array.replicate ops.size false) && treeB md ops t (marked (Array.replicate ops.size false) (h1 ++ h2)) && (decide (h1.length + h2.length + t.len = ops.size))

/-- Some operations first (those of h1 look at no memory), then a tree of orders. -/
theorem wp_region_treeL {id : Nat} {a : Act} {w : World} {l : List Oper} (h1 h2 : List Nat) (t : Tr) (hm : P.follows .mixedOrders = true) (hB : mixTB .any l.toArray h1 h2 t = true)
    (h : ∀ K : Act → World → Prop, (∀ a w, Q .normal a w → K a w) → wpQuiet P l.toArray (fun _ => True) (fun a1 => wpQuiet P l.toArray (fun w' => ∃ n : Lat w, w' = n.w) (fun a2 => wpTr P l K t a2 w.drew) (pick l h2) a1) (pick l h1) a) :
    (Code.region id l.toArray true).wp P Q a w := by
  have H := h (fun a w => Q .normal a w) fun _ _ h => h
  simp only [mixTB, Bool.and_eq_true, decide_eq_true_eq] at hB
  obtain ⟨⟨⟨⟨⟨⟨hsel, h12⟩, hts⟩, htail⟩, hh⟩, hseq⟩, hlen⟩ := hB
  have hC : ∀ w1 w2 : World, (∃ n : Lat w, w1 = n.w) → Below w1.heap.size w1 w2 → ∃ n : Lat w, w2 = n.w := fun _ w2 ⟨n, e⟩ hb => by subst e; exact ⟨⟨w2, n.below.trans (hb.mono n.below.size)⟩, rfl⟩
  have hw : ∃ n : Lat w, ({ w with drawn := w.drawn + 1 } : World) = n.w := ⟨Lat.drew w, rfl⟩
  have h12' : ∀ i ∈ h2, i ∉ h1 := fun i hi => by simpa using List.all_eq_true.1 h12 i hi
  have htail' : ∀ j oj, l.toArray[j]? = some oj → j ∉ h1 → j ∉ h2 → newOp oj.op = true ∨ ∀ i ∈ h2, anc .any l.toArray l.toArray.size j i = true := fun j oj hj n1 n2 => by
    have h3 := List.all_eq_true.1 htail j (List.mem_range.2 (Array.getElem?_eq_some_iff.1 hj).1)
    simp only [hj, Bool.or_eq_true, List.contains_iff_mem, n1, n2, false_or] at h3
    rcases h3 with h3 | h3
    · exact .inl h3
    · exact .inr fun i hi => List.all_eq_true.1 h3 i hi
  rw [hoistB_append, Bool.and_eq_true] at hh
  rw [marked_append] at hseq
  have lt1 := hoistB_lt _ _ hh.1
  have lt2 := hoistB_lt _ _ hh.2
  have hQ' : ∀ c a w d v, Only (fun a w => Q .normal a w) (.panic c) (a.put d v) w → Only (fun a w => Q .normal a w) (.panic c) a w := fun _ _ _ _ _ h => h
  have cl0 : Closed .any l.toArray (Array.replicate l.toArray.size false) := fun j oj _ hl => by rw [getD_replicate_false] at hl; cases hl
  have cl1 := closed_marked _ _ hh.1 cl0
  refine Code.wp_mono (Q := Only fun a w => Q .normal a w) (fun e a w h => by cases e <;> first | exact h | exact h.elim) ?_
  refine wp_region_any hm (wpAny_of_M (C := fun w' => ∃ n : Lat w, w' = n.w) (h1 := h1) (h2 := h2) _ _ _ _ ?_)
  have key : wpM P .any l.toArray (Only fun a w => Q .normal a w) (fun w' => ∃ n : Lat w, w' = n.w) h1 h2 (t.len + h2.length + h1.length) (Array.replicate l.toArray.size false) a { w with drawn := w.drawn + 1 } := ?_
  · have e2 : ∀ n, n = t.len + h2.length + h1.length → wpM P .any l.toArray (Only fun a w => Q .normal a w) (fun w' => ∃ n : Lat w, w' = n.w) h1 h2 n (Array.replicate l.toArray.size false) a { w with drawn := w.drawn + 1 } := fun n hn => hn ▸ key
    exact e2 _ (by omega)
  refine hoist1 hsel hQ' h1 (pick l h1) _ a (fun i hi => hi) (pick_map h1 (by simpa using lt1)) hh.1 (fun a1 H1 => ?_) H
  refine hoist2 hsel hQ' hC h12' htail' hw h2 (pick l h2) _ a1 (fun i hi => hi) (pick_map h2 (by simpa using lt2)) hh.2 cl1 (fun a2 H2 => ?_) H1
  exact wpM_tree t _ a2 _ hts hseq H2
end
end Go.Proofs.Ytejecpmfhgplmaa.Mix

-- ---- Mb
/- merge's maker: its memory, the place of a node. Conditions: those that each theorem names. -/
namespace Go.Proofs.Ytejecpmfhgplmaa
set_option linter.unusedSimpArgs false
set_option linter.unusedVariables false
open Go.RowKit Mix _root_.Go.Proofs.Ytejecpmfhgplmaa.Own

namespace Dp
/-- What is known of a node: the cost, how many are told there, whether it can be, whether it is known. -/
abbrev Bst := Int × Int × Bool × Bool
/-- A node's best, as merge tells it. -/
def mres : Nat → List Int → Nat → Bst
  | r, g, o =>
    if g = [] ∧ o = 0 then (0, 0, true, false)
    else if o = 0 ∨ g.length < o then (0, 0, false, false)
    else match r with
      | 0 => (0, 0, false, false)
      | r + 1 => match best (cand r g o) o with
        | some (x, k) => (x + g.sum, (k : Int), true, true)
        | none => (0, 0, false, true)
def keyM (n d j o : Nat) : Nat := (d * n + j) * n + o
end Dp
open Dp

def bstV (b : Bst) : List Value := [.int .i64 b.1, .int .i64 b.2.1, .bool b.2.2.1, .bool b.2.2.2]
def flB (H : List Bst) : List Value := H.flatMap bstV
theorem length_flB (H : List Bst) : (flB H).length = H.length * 4 := by
  unfold flB
  induction H with
  | nil => rfl
  | cons a t ih => rw [List.flatMap_cons, List.length_append, ih, List.length_cons]; simp [bstV]; omega
theorem flB_at (H : List Bst) (z : Bst) : ∀ (i : Nat), i < H.length → (flB H)[i * 4]? = some (.int .i64 (H.getD i z).1) ∧ (flB H)[i * 4 + 1]? = some (.int .i64 (H.getD i z).2.1) ∧ (flB H)[i * 4 + 2]? = some (.bool (H.getD i z).2.2.1) ∧ (flB H)[i * 4 + 3]? = some (.bool (H.getD i z).2.2.2) := by
  induction H with
  | nil => intro i h; simp at h
  | cons a t ih =>
    intro i h
    cases i with
    | zero => simp [flB, bstV]
    | succ i =>
      have h2 := ih i (by simpa using h)
      have e : flB (a :: t) = bstV a ++ flB t := by simp [flB]
      have el : (bstV a).length = 4 := rfl
      rw [e]
      refine ⟨?_, ?_, ?_, ?_⟩
      · rw [List.getElem?_append_right (by rw [el]; omega), el, show (i + 1) * 4 - 4 = i * 4 by omega]; simpa using h2.1
      · rw [List.getElem?_append_right (by rw [el]; omega), el, show (i + 1) * 4 + 1 - 4 = i * 4 + 1 by omega]; simpa using h2.2.1
      · rw [List.getElem?_append_right (by rw [el]; omega), el, show (i + 1) * 4 + 2 - 4 = i * 4 + 2 by omega]; simpa using h2.2.2.1
      · rw [List.getElem?_append_right (by rw [el]; omega), el, show (i + 1) * 4 + 3 - 4 = i * 4 + 3 by omega]; simpa using h2.2.2.2
theorem flB_set (H : List Bst) : ∀ (i : Nat) (b : Bst), i < H.length → flB (H.set i b) = ((((flB H).set (i * 4) (.int .i64 b.1)).set (i * 4 + 1) (.int .i64 b.2.1)).set (i * 4 + 2) (.bool b.2.2.1)).set (i * 4 + 3) (.bool b.2.2.2) := by
  induction H with
  | nil => intro i b h; simp at h
  | cons a t ih =>
    intro i b h
    have e : ∀ c (u : List Bst), flB (c :: u) = bstV c ++ flB u := fun c u => by simp [flB]
    cases i with
    | zero => rw [List.set_cons_zero, e, e]; simp [bstV]
    | succ i =>
      have el : (bstV a).length = 4 := rfl
      rw [List.set_cons_succ, e, e, ih i b (by simpa using h)]
      simp only [List.set_append_right _ _ (show (bstV a).length ≤ (i + 1) * 4 by rw [el]; omega), List.set_append_right _ _ (show (bstV a).length ≤ (i + 1) * 4 + 1 by rw [el]; omega), List.set_append_right _ _ (show (bstV a).length ≤ (i + 1) * 4 + 2 by rw [el]; omega), List.set_append_right _ _ (show (bstV a).length ≤ (i + 1) * 4 + 3 by rw [el]; omega), el]
      rw [show (i + 1) * 4 - 4 = i * 4 by omega, show (i + 1) * 4 + 1 - 4 = i * 4 + 1 by omega, show (i + 1) * 4 + 2 - 4 = i * 4 + 2 by omega, show (i + 1) * 4 + 3 - 4 = i * 4 + 3 by omega]

/-- A maker of merge's at block p. -/
structure TabM (w : World) (p : Nat) (vs vh : Value) (lim : Nat) (g : List Int) (H : List Bst) : Prop where
  blk : Blk w p #[vs, .int .i64 (lim : Int), vh] 50
  rs : Owns w 3 vs (ints .i64 (sums g))
  rh : OwnK w 57 4 vh H.length (flB H)
theorem TabM.later {w w' : World} {p : Nat} {vs vh : Value} {lim : Nat} {g : List Int} {H : List Bst} (h : TabM w p vs vh lim g H) (hb : Below w.heap.size w w') : TabM w' p vs vh lim g H :=
  ⟨(hb.block p h.blk.lt).trans h.blk, h.rs.keep fun k _ hk => hb.block k hk, h.rh.later hb⟩

set_option maxHeartbeats 1000000 in
theorem at_calls (p : Nat) (vs vh : Value) (lim : Nat) (g : List Int) (H : List Bst) (d j o n : Nat) (w : World) (hT : TabM w p vs vh lim g H) (hn : n = g.length + 1) (hn2 : n ≤ 100) (hd : d ≤ 100) (hj : j ≤ 1000) (ho : o ≤ 1000) :
    Calls Try.prog 31 #[.pointer (some ⟨p, 0, none⟩), .agg #[.int .i64 (d : Int), .int .i64 (j : Int), .int .i64 (o : Int)]] w fun e w' => e = .returned (.int .i64 (keyM n d j o : Int)) ∧ Below w.heap.size w w' := by
  obtain ⟨aq, cs, hv⟩ := sliceI hT.rs
  rw [length_sums, ← hn] at hv
  subst hv
  have c0 := hT.blk.cell (i := 0) rfl
  have h1 : d * n ≤ 100 * 100 := Nat.mul_le_mul hd hn2
  have h2 : (d * n + j) * n ≤ 11000 * 100 := Nat.mul_le_mul (by omega) hn2
  obtain ⟨A, hA⟩ : ∃ A, A = d * n := ⟨_, rfl⟩
  obtain ⟨M, hM⟩ : ∃ M, M = (d * n + j) * n := ⟨_, rfl⟩
  have hdn : (d : Int) * (n : Int) = (A : Int) := by rw [hA]; simp
  have hkn : ((A : Int) + (j : Int)) * (n : Int) = (M : Int) := by rw [hM, hA]; simp
  have hK : keyM n d j o = M + o := by unfold keyM; rw [hM]
  rw [← hM] at h2
  rw [← hA] at h1
  have hG : g.length + 1 = n := hn.symm
  have HK := kept hK
  have HT := kept hT
  have hb : Below w.heap.size w (w.alloc (.cells #[.int .i64 (d : Int), .int .i64 (j : Int), .int .i64 (o : Int)] 55)) := (Below.refl _ _).alloc (Nat.le_refl _) _
  have c0w := (hb.cell (World.block_lt_of_cell? w _ c0)).trans c0
  have HB := kept hb
  clear hT hA hM hK hn hG hb c0
  go_enter Try.func31, Try.ntmps31
  go_wp2_with fail
  go_ret
  exact ⟨by rw [HK.out]; rfl, HB.out⟩
end Go.Proofs.Ytejecpmfhgplmaa

-- ---- Mc
/- merge's maker: what a node's best is, and the memory on the way. Conditions: those that each theorem names. -/
namespace Go.Proofs.Ytejecpmfhgplmaa
set_option linter.unusedSimpArgs false
set_option linter.unusedVariables false
open Go.RowKit Mix _root_.Go.Proofs.Ytejecpmfhgplmaa.Own Dp

namespace Dp
/-- The best so far, as merge tells it. -/
def accV (S : Int) : Option (Int × Nat) → Bst
  | none => (0, 0, false, true)
  | some (x, k) => (x + S, (k : Int), true, true)
theorem drop_ne {g : List Int} {j : Nat} (h : j < g.length) : g.drop j ≠ [] := by
  intro e; have := congrArg List.length e; rw [List.length_drop] at this; simp at this; omega
theorem mres_s (r : Nat) (g : List Int) (o : Nat) : mres (r + 1) g o = if g = [] ∧ o = 0 then (0, 0, true, false) else if o = 0 ∨ g.length < o then (0, 0, false, false) else match best (cand r g o) o with
        | some (x, k) => (x + g.sum, (k : Int), true, true)
        | none => (0, 0, false, true) := rfl
theorem mres_0 (g : List Int) (o : Nat) : mres 0 g o = if g = [] ∧ o = 0 then (0, 0, true, false) else if o = 0 ∨ g.length < o then (0, 0, false, false) else (0, 0, false, false) := rfl
theorem mres_nil (r : Nat) (g : List Int) (o : Nat) (h : g = [] ∧ o = 0) : mres r g o = (0, 0, true, false) := by
  cases r with
  | zero => rw [mres_0, if_pos h]
  | succ r => rw [mres_s, if_pos h]
theorem mres_out (r : Nat) (g : List Int) (o : Nat) (hn : ¬ (g = [] ∧ o = 0)) (h : o = 0 ∨ g.length < o ∨ r = 0) : mres r g o = (0, 0, false, false) := by
  cases r with
  | zero => rw [mres_0, if_neg hn]; split <;> rfl
  | succ r => rw [mres_s, if_neg hn, if_pos (by omega)]
theorem mres_in {r : Nat} {g : List Int} {o : Nat} (h1 : 1 ≤ o) (h2 : o ≤ g.length) : mres (r + 1) g o = accV g.sum (best (cand r g o) o) := by
  rw [mres_s, if_neg (fun h => by omega), if_neg (by omega)]
  cases best (cand r g o) o with
  | none => rfl
  | some q => rfl
theorem mres_dp (r : Nat) (g : List Int) (o : Nat) : (mres r g o = (0, 0, true, false) ∧ dp r g o = some 0 ∧ g = []) ∨ (mres r g o = (0, 0, false, false) ∧ dp r g o = none) ∨ (∃ s, r = s + 1 ∧ g ≠ [] ∧ 1 ≤ o ∧ o ≤ g.length ∧ mres r g o = accV g.sum (best (cand s g o) o) ∧ dp r g o = (best (cand s g o) o).map Prod.fst) := by
  by_cases hg : g = []
  · subst hg
    by_cases ho : o = 0
    · exact .inl ⟨mres_nil _ _ _ ⟨rfl, ho⟩, by rw [dp_nil, if_pos ho], rfl⟩
    · exact .inr (.inl ⟨mres_out _ _ _ (fun h => ho h.2) (by simp; omega), by rw [dp_nil, if_neg ho]⟩)
  · by_cases h2 : o = 0 ∨ g.length < o ∨ r = 0
    · exact .inr (.inl ⟨mres_out _ _ _ (fun h => hg h.1) h2, dp_out hg h2⟩)
    · obtain ⟨s, rfl⟩ : ∃ s, r = s + 1 := ⟨r - 1, by omega⟩
      exact .inr (.inr ⟨s, rfl, hg, by omega, by omega, mres_in (by omega) (by omega), dp_in hg (by omega) (by omega)⟩)
theorem mres_none {r : Nat} {g : List Int} {o : Nat} (h : dp r g o = none) : (mres r g o).2.2.1 = false ∧ (mres r g o).1 = 0 := by
  rcases mres_dp r g o with ⟨e1, e2, _⟩ | ⟨e1, e2⟩ | ⟨s, rfl, _, _, _, e1, e2⟩
  · rw [h] at e2; cases e2
  · rw [e1]; exact ⟨rfl, rfl⟩
  · rw [e1]
    cases hb : best (cand s g o) o with
    | none => exact ⟨rfl, rfl⟩
    | some q => rw [h, hb] at e2; cases e2
theorem mres_some {r : Nat} {g : List Int} {o : Nat} {x : Int} (h : dp r g o = some x) : (mres r g o).2.2.1 = true ∧ (mres r g o).1 = x + g.sum := by
  rcases mres_dp r g o with ⟨e1, e2, e3⟩ | ⟨e1, e2⟩ | ⟨s, rfl, _, _, _, e1, e2⟩
  · rw [h] at e2; simp at e2; subst e2 e3; rw [e1]; exact ⟨rfl, rfl⟩
  · rw [h] at e2; cases e2
  · rw [e1]
    cases hb : best (cand s g o) o with
    | none => rw [h, hb] at e2; cases e2
    | some q => obtain ⟨y, k⟩ := q; rw [h, hb] at e2; simp at e2; subst e2; exact ⟨rfl, rfl⟩
/-- How many are told at a node. -/
theorem mres_take {r : Nat} {g : List Int} {o : Nat} {x : Int} (h : dp (r + 1) g o = some x) (hg : g ≠ []) : (mres (r + 1) g o).2.1 = (take r g o : Int) := by
  obtain ⟨h1, h2, _⟩ := dp_some h hg
  rw [mres_in h1 h2]
  unfold take
  cases hb : best (cand r g o) o with
  | none => rfl
  | some q => rfl
theorem mres_le {g : List Int} (hg : Gs g) (r o : Nat) (ho : o ≤ 1000) (hr : r ≤ 15) : 0 ≤ (mres r g o).1 ∧ (mres r g o).1 ≤ 30000000000 ∧ 0 ≤ (mres r g o).2.1 ∧ (mres r g o).2.1 ≤ 1000 := by
  have hk : 0 ≤ (mres r g o).2.1 ∧ (mres r g o).2.1 ≤ 1000 := by
    rcases mres_dp r g o with ⟨e1, _, _⟩ | ⟨e1, _⟩ | ⟨s, rfl, _, _, _, e1, _⟩
    · rw [e1]; exact ⟨by decide, by decide⟩
    · rw [e1]; exact ⟨by decide, by decide⟩
    · rw [e1]
      have hs := best_spec (cand s g o) o
      cases hb : best (cand s g o) o with
      | none => exact ⟨Int.le_refl 0, by show (0 : Int) ≤ 1000; decide⟩
      | some q =>
        obtain ⟨x, k⟩ := q
        rw [hb] at hs
        have := hs.2.1
        show 0 ≤ (k : Int) ∧ (k : Int) ≤ 1000
        omega
  refine ⟨?_, ?_, hk.1, hk.2⟩ <;> cases hd : dp r g o with
    | none => rw [(mres_none hd).2]; decide
    | some x =>
      rw [(mres_some hd).2]
      have h1 := dp_le r g o x hg hd
      have h2 := hg.sum 0
      rw [List.drop_zero] at h2
      omega
/-- A candidate's cost out of the node behind it. -/
theorem cand_none {r : Nat} {g : List Int} {o k : Nat} (h : dp r (g.drop k) (2 * (o - k)) = none) : cand r g o k = none := by unfold cand; rw [h]; rfl
theorem cand_some {r : Nat} {g : List Int} {o k : Nat} {x : Int} (h : dp r (g.drop k) (2 * (o - k)) = some x) : cand r g o k = some (x + (g.drop k).sum) := by unfold cand; rw [h]; rfl

/-- The memory of the nodes. -/
theorem keyM_inj {n d j o d' j' o' : Nat} (h1 : j < n) (h2 : o < n) (h3 : j' < n) (h4 : o' < n) (h : keyM n d j o = keyM n d' j' o') : d = d' ∧ j = j' ∧ o = o' := by
  unfold keyM at h
  have e1 : o = o' := by
    have a1 := congrArg (· % n) h
    simp only [Nat.mul_add_mod_self_right, Nat.mod_eq_of_lt h2, Nat.mod_eq_of_lt h4] at a1
    exact a1
  subst e1
  have h5 : (d * n + j) * n = (d' * n + j') * n := by omega
  have h6 := Nat.eq_of_mul_eq_mul_right (by omega) h5
  have e2 : j = j' := by
    have a1 := congrArg (· % n) h6
    simp only [Nat.mul_add_mod_self_right, Nat.mod_eq_of_lt h1, Nat.mod_eq_of_lt h3] at a1
    exact a1
  subst e2
  exact ⟨Nat.eq_of_mul_eq_mul_right (by omega) (by omega : d * n = d' * n), rfl, rfl⟩
theorem keyM_lt {n d j o L : Nat} (hd : d < L) (hj : j < n) (ho : o < n) : keyM n d j o < L * n * n := by
  unfold keyM
  have h1 : d * n + j + 1 ≤ L * n := by
    have : (d + 1) * n ≤ L * n := Nat.mul_le_mul_right _ (by omega)
    rw [Nat.add_mul] at this; omega
  have h2 : (d * n + j + 1) * n ≤ L * n * n := Nat.mul_le_mul_right _ h1
  rw [Nat.add_mul] at h2; omega
structure HGood (lim : Nat) (g : List Int) (H : List Bst) : Prop where
  len : H.length = (lim + 2) * (g.length + 1) * (g.length + 1)
  at_ : ∀ d j o, 1 ≤ d → d ≤ lim → j < g.length + 1 → o < g.length + 1 → (H.getD (keyM (g.length + 1) d j o) (0, 0, false, false)).2.2.2 = false ∨ H.getD (keyM (g.length + 1) d j o) (0, 0, false, false) = mres (lim + 1 - d) (g.drop j) o
theorem HGood.set {lim : Nat} {g : List Int} {H : List Bst} (h : HGood lim g H) {d j o : Nat} (hdl : d ≤ lim) (hj : j < g.length + 1) (ho : o < g.length + 1) : HGood lim g (H.set (keyM (g.length + 1) d j o) (mres (lim + 1 - d) (g.drop j) o)) := by
  refine ⟨by rw [List.length_set]; exact h.len, fun d' j' o' h1 h2 h3 h4 => ?_⟩
  have hk : keyM (g.length + 1) d j o < H.length := by rw [h.len]; exact keyM_lt (by omega) hj ho
  by_cases e : keyM (g.length + 1) d j o = keyM (g.length + 1) d' j' o'
  · obtain ⟨rfl, rfl, rfl⟩ := keyM_inj hj ho h3 h4 e
    right
    simp [List.getD_eq_getElem?_getD, List.getElem?_set_self hk]
  · have := h.at_ d' j' o' h1 h2 h3 h4
    simp only [List.getD_eq_getElem?_getD, List.getElem?_set_ne e] at this ⊢
    exact this
theorem hgood_zero (lim : Nat) (g : List Int) : HGood lim g (List.replicate ((lim + 2) * (g.length + 1) * (g.length + 1)) (0, 0, false, false)) := by
  refine ⟨List.length_replicate, fun d j o h1 h2 h3 h4 => .inl ?_⟩
  simp only [List.getD_eq_getElem?_getD, List.getElem?_replicate]
  split <;> rfl
end Dp
open Dp

theorem TabM.setOther {w : World} {p : Nat} {vs vh : Value} {lim : Nat} {g : List Int} {H : List Bst} (h : TabM w p vs vh lim g H) {a : Addr} (h1 : p ≠ a.block) (h2 : vs.ownBlock ≠ some a.block) (h3 : vh.ownBlock ≠ some a.block) (v : Value) : TabM (w.setCell a v) p vs vh lim g H :=
  ⟨h.blk.setOther h1 v, h.rs.setOther h2 v, h.rh.setOther h3 v⟩
/-- Where it lies. -/
theorem TabM.slc {w : World} {p : Nat} {vs vh : Value} {lim : Nat} {g : List Int} {H : List Bst} (h : TabM w p vs vh lim g H) : ∃ gs cs, vs = .slice (some ⟨gs, 0, none⟩) (g.length + 1) cs ∧ gs < w.heap.size ∧ ∀ i, i ≤ g.length → w.cell? ⟨gs, i, none⟩ = some (.int .i64 (g.drop i).sum) := by
  obtain ⟨gs, cs, e, _, hl⟩ := rowI h.rs (by intro e; have := congrArg List.length e; rw [length_sums] at this; simp at this)
  subst e
  rw [length_sums]
  refine ⟨gs, cs, rfl, hl, fun i hi => ?_⟩
  have := h.rs.cell (j := i) (Own.ints_at .i64 (sums g) i (by rw [length_sums]; omega))
  rw [sums_at g i hi] at this
  exact this
theorem TabM.hadS {w : World} {p : Nat} {vs vh : Value} {lim : Nat} {g : List Int} {H : List Bst} (h : TabM w p vs vh lim g H) (hH : 0 < H.length) : ∃ gh ch, vh = .slice (some ⟨gh, 0, none⟩) H.length ch ∧ gh < w.heap.size := by
  obtain ⟨a, c, e, _, _, hp⟩ := h.rh.slice
  obtain ⟨gh, rfl⟩ := hp hH
  exact ⟨gh, c, e, h.rh.lt gh (by rw [e]; rfl)⟩
/-- A node's best is laid. -/
theorem TabM.store {w : World} {p gh n ch : Nat} {vs : Value} {lim : Nat} {g : List Int} {H : List Bst} (h : TabM w p vs (.slice (some ⟨gh, 0, none⟩) n ch) lim g H) (hn : n = H.length) (m : Nat) (hm : m < H.length) (b : Bst) :
    TabM ((((w.setCell ⟨gh, m * 4, none⟩ (.int .i64 b.1)).setCell ⟨gh, m * 4 + 1, none⟩ (.int .i64 b.2.1)).setCell ⟨gh, m * 4 + 2, none⟩ (.bool b.2.2.1)).setCell ⟨gh, m * 4 + 3, none⟩ (.bool b.2.2.2)) p vs (.slice (some ⟨gh, 0, none⟩) n ch) lim g (H.set m b) := by
  subst hn
  have hp : p ≠ gh := fun e => h.rh.ne h.blk (by decide) (by rw [e]; rfl)
  have hs : vs.ownBlock ≠ some gh := fun e => h.rh.neO h.rs (by decide) (g := gh) e rfl
  refine ⟨((((h.blk.setOther hp _).setOther hp _).setOther hp _).setOther hp _), ((((h.rs.setOther hs _).setOther hs _).setOther hs _).setOther hs _), ?_⟩
  rw [flB_set H m b hm, List.length_set]
  exact (((h.rh.store (m * 4) _).store (m * 4 + 1) _).store (m * 4 + 2) _).store (m * 4 + 3) _

/-- The walk of a node on the way: its box at B, the result behind it, the best so far at q. -/
structure StF (w wr : World) (d j o q : Nat) (acc : Bst) (p : Nat) (vs vh : Value) (lim : Nat) (g : List Int) (H : List Bst) : Prop where
  node : Blk wr w.heap.size #[.int .i64 (d : Int), .int .i64 (j : Int), .int .i64 (o : Int)] 55
  res : Blk wr (w.heap.size + 1) #[.int .i64 0, .int .i64 0, .bool false, .bool false] 57
  out : Blk wr q (bstV acc).toArray 57
  tab : TabM wr p vs vh lim g H
  good : HGood lim g H
  chg : Chg (fun b => some b = vh.ownBlock) w wr
  hp : p < w.heap.size
  hs : ∀ b, vs.ownBlock = some b → b < w.heap.size
  hh : ∀ b, vh.ownBlock = some b → b < w.heap.size
  hq : w.heap.size + 1 < q
section
variable {w wr : World} {d j o q : Nat} {acc : Bst} {p : Nat} {vs vh : Value} {lim : Nat} {g : List Int} {H : List Bst}
theorem StF.later {w' : World} (h : StF w wr d j o q acc p vs vh lim g H) (hb : Below wr.heap.size wr w') : StF w w' d j o q acc p vs vh lim g H :=
  ⟨(hb.block _ h.node.lt).trans h.node, (hb.block _ h.res.lt).trans h.res, (hb.block _ h.out.lt).trans h.out, h.tab.later hb, h.good, h.chg.trans (Chg.of_below (S := fun _ => False) hb) (fun _ _ h => h.elim), h.hp, h.hs, h.hh, h.hq⟩
/-- A node behind it has been told. -/
theorem StF.told {w' : World} {H' : List Bst} (h : StF w wr d j o q acc p vs vh lim g H) (hT : TabM w' p vs vh lim g H') (hG : HGood lim g H') (hc : Chg (fun b => some b = vh.ownBlock) wr w') : StF w w' d j o q acc p vs vh lim g H' := by
  have hne : ∀ b, w.heap.size ≤ b → ¬ some b = vh.ownBlock := fun b hb e => by have := h.hh b e.symm; omega
  exact ⟨hc.keep h.node (hne _ (Nat.le_refl _)), hc.keep h.res (hne _ (by omega)), hc.keep h.out (hne _ (by have := h.hq; omega)), hT, hG, h.chg.trans hc (fun _ _ h => h), h.hp, h.hs, h.hh, h.hq⟩
/-- The best so far is another one. -/
theorem StF.setOut (h : StF w wr d j o q acc p vs vh lim g H) (b : Bst) :
    StF w ((((wr.setCell ⟨q, 0, none⟩ (.int .i64 b.1)).setCell ⟨q, 1, none⟩ (.int .i64 b.2.1)).setCell ⟨q, 2, none⟩ (.bool b.2.2.1)).setCell ⟨q, 3, none⟩ (.bool b.2.2.2)) d j o q b p vs vh lim g H := by
  have hq := h.hq
  have n0 : w.heap.size ≠ q := by omega
  have n1 : w.heap.size + 1 ≠ q := by omega
  have np : p ≠ q := by have := h.hp; omega
  have ns : vs.ownBlock ≠ some q := fun e => by have := h.hs q e; omega
  have nh : vh.ownBlock ≠ some q := fun e => by have := h.hh q e; omega
  have hc : ∀ (x : World) (i : Nat) (v : Value), Chg (fun b => some b = vh.ownBlock) w x → Chg (fun b => some b = vh.ownBlock) w (x.setCell ⟨q, i, none⟩ v) := fun x i v hx => hx.trans (Chg.setCell x _ v) (fun k hk e => by have : k = q := e; omega)
  refine ⟨(((h.node.setOther n0 _).setOther n0 _).setOther n0 _).setOther n0 _, (((h.res.setOther n1 _).setOther n1 _).setOther n1 _).setOther n1 _, ?_,
    (((h.tab.setOther np ns nh _).setOther np ns nh _).setOther np ns nh _).setOther np ns nh _, h.good, hc _ _ _ (hc _ _ _ (hc _ _ _ (hc _ _ _ h.chg))), h.hp, h.hs, h.hh, h.hq⟩
  have := (((h.out.set 0 (.int .i64 b.1)).set 1 (.int .i64 b.2.1)).set 2 (.bool b.2.2.1)).set 3 (.bool b.2.2.2)
  exact this
end
/-- The answer of a node, and what it leaves. -/
def FromE (g : List Int) (lim p : Nat) (vs vh : Value) (r j o : Nat) (w : World) (e : Ending) (w' : World) : Prop :=
  e = .returned (.agg (bstV (mres r (g.drop j) o)).toArray) ∧ ∃ H', TabM w' p vs vh lim g H' ∧ HGood lim g H' ∧ Chg (fun b => some b = vh.ownBlock) w w'
end Go.Proofs.Ytejecpmfhgplmaa

-- ---- Mf
/- merge's maker: the best from a node on, where nothing is reckoned anew. Conditions: the memory that 'TabM' tells. -/
namespace Go.Proofs.Ytejecpmfhgplmaa
set_option linter.unusedSimpArgs false
set_option linter.unusedVariables false
open Go.RowKit Mix _root_.Go.Proofs.Ytejecpmfhgplmaa.Own Dp

/-- Behind the node's box and the result's. -/
structure St0 (w w2 : World) (d j o : Nat) (p : Nat) (vs vh : Value) (lim : Nat) (g : List Int) (H : List Bst) : Prop where
  node : Blk w2 w.heap.size #[.int .i64 (d : Int), .int .i64 (j : Int), .int .i64 (o : Int)] 55
  res : Blk w2 (w.heap.size + 1) #[.int .i64 0, .int .i64 0, .bool false, .bool false] 57
  tab : TabM w2 p vs vh lim g H
  low : Below w.heap.size w w2
theorem st0 {w : World} {d j o p : Nat} {vs vh : Value} {lim : Nat} {g : List Int} {H : List Bst} (hT : TabM w p vs vh lim g H) :
    St0 w ((w.alloc (.cells #[.int .i64 (d : Int), .int .i64 (j : Int), .int .i64 (o : Int)] 55)).alloc (.cells #[.int .i64 0, .int .i64 0, .bool false, .bool false] 57)) d j o p vs vh lim g H := by
  have hb : Below w.heap.size w ((w.alloc (.cells #[.int .i64 (d : Int), .int .i64 (j : Int), .int .i64 (o : Int)] 55)).alloc (.cells #[.int .i64 0, .int .i64 0, .bool false, .bool false] 57)) :=
    ((Below.refl _ _).alloc (Nat.le_refl _) _).alloc (by simp) _
  exact ⟨(Blk.fresh _ _ _).alloc _, Blk.fresh_at _ _ (by simp) _ _, hT.later hb, hb⟩
theorem St0.later {w w2 w3 : World} {d j o p : Nat} {vs vh : Value} {lim : Nat} {g : List Int} {H : List Bst} (h : St0 w w2 d j o p vs vh lim g H) (hb : Below w2.heap.size w2 w3) : St0 w w3 d j o p vs vh lim g H :=
  ⟨(hb.block _ h.node.lt).trans h.node, (hb.block _ h.res.lt).trans h.res, h.tab.later hb, h.low.trans (hb.mono (by have := h.node.lt; omega))⟩
/-- The result is laid. -/
theorem St0.ret {w w2 : World} {d j o p : Nat} {vs vh : Value} {lim : Nat} {g : List Int} {H : List Bst} (h : St0 w w2 d j o p vs vh lim g H) (hp : p < w.heap.size) (hs : ∀ b, vs.ownBlock = some b → b < w.heap.size) (hh : ∀ b, vh.ownBlock = some b → b < w.heap.size) (b : Bst) :
    Blk ((((w2.setCell ⟨w.heap.size + 1, 0, none⟩ (.int .i64 b.1)).setCell ⟨w.heap.size + 1, 1, none⟩ (.int .i64 b.2.1)).setCell ⟨w.heap.size + 1, 2, none⟩ (.bool b.2.2.1)).setCell ⟨w.heap.size + 1, 3, none⟩ (.bool b.2.2.2)) (w.heap.size + 1) (bstV b).toArray 57 ∧
    TabM ((((w2.setCell ⟨w.heap.size + 1, 0, none⟩ (.int .i64 b.1)).setCell ⟨w.heap.size + 1, 1, none⟩ (.int .i64 b.2.1)).setCell ⟨w.heap.size + 1, 2, none⟩ (.bool b.2.2.1)).setCell ⟨w.heap.size + 1, 3, none⟩ (.bool b.2.2.2)) p vs vh lim g H ∧
    Chg (fun b => some b = vh.ownBlock) w ((((w2.setCell ⟨w.heap.size + 1, 0, none⟩ (.int .i64 b.1)).setCell ⟨w.heap.size + 1, 1, none⟩ (.int .i64 b.2.1)).setCell ⟨w.heap.size + 1, 2, none⟩ (.bool b.2.2.1)).setCell ⟨w.heap.size + 1, 3, none⟩ (.bool b.2.2.2)) := by
  have np : p ≠ w.heap.size + 1 := by omega
  have ns : vs.ownBlock ≠ some (w.heap.size + 1) := fun e => by have := hs _ e; omega
  have nh : vh.ownBlock ≠ some (w.heap.size + 1) := fun e => by have := hh _ e; omega
  have hc : ∀ (x : World) (i : Nat) (v : Value), Chg (fun b => some b = vh.ownBlock) w x → Chg (fun b => some b = vh.ownBlock) w (x.setCell ⟨w.heap.size + 1, i, none⟩ v) := fun x i v hx => hx.trans (Chg.setCell x _ v) (fun k hk e => by have : k = w.heap.size + 1 := e; omega)
  exact ⟨(((h.res.set 0 (.int .i64 b.1)).set 1 (.int .i64 b.2.1)).set 2 (.bool b.2.2.1)).set 3 (.bool b.2.2.2), (((h.tab.setOther np ns nh _).setOther np ns nh _).setOther np ns nh _).setOther np ns nh _, hc _ _ _ (hc _ _ _ (hc _ _ _ (hc _ _ _ (Chg.of_below h.low))))⟩

set_option maxHeartbeats 2000000 in
theorem from_end (g : List Int) (lim p : Nat) (vs vh : Value) (H : List Bst) (r d j o : Nat) (w : World) (hT : TabM w p vs vh lim g H) (hG : HGood lim g H) (hg : Gs g) (hj : j = g.length) (ho : o = 0) (hd : d ≤ 100) :
    Calls Try.prog 22 #[.pointer (some ⟨p, 0, none⟩), .agg #[.int .i64 (d : Int), .int .i64 (j : Int), .int .i64 (o : Int)]] w (FromE g lim p vs vh r j o w) := by
  obtain ⟨gs, cs, rfl, hgs, _⟩ := hT.slc
  obtain ⟨n, hn⟩ : ∃ n, n = g.length + 1 := ⟨_, rfl⟩
  rw [← hn] at hT ⊢
  have hl := hg.len
  have hpl := hT.blk.lt
  have hhl := hT.rh.lt
  have e0 : (n : Int) - 1 - (j : Int) = 0 := by omega
  have hn66 : n ≤ 66 := by omega
  have HR := kept (show mres r (g.drop j) o = (0, 0, true, false) from mres_nil _ _ _ ⟨List.drop_eq_nil_of_le (by omega), ho⟩)
  have HS := kept (st0 (d := d) (j := j) (o := o) hT)
  have HF := kept (show p < w.heap.size ∧ gs < w.heap.size ∧ (∀ b, vh.ownBlock = some b → b < w.heap.size) from ⟨hpl, hgs, hhl⟩)
  have HG := kept hG
  subst ho
  clear hT hg hj hn hl hpl hhl hgs hG
  go_enter Try.func22, Try.ntmps22
  go_wp2_with fail
  generalize hw2 : World.alloc (World.alloc w _) _ = w2
  rw [show ((0 : Nat) : Int) = 0 from rfl] at HS
  have HS2 := kept (show St0 w w2 d j 0 p _ vh lim g H by rw [← hw2]; exact HS.out)
  clear hw2 HS
  have c0 := HS2.out.tab.blk.cell (i := 0) rfl
  have c1 := HS2.out.node.cell (i := 1) rfl
  have c2 := HS2.out.node.cell (i := 2) rfl
  have l0 := lat_cell c0
  have l1 := lat_cell c1
  refine wp_region_quietL (by kernel_rfl) (by kernel_rfl) ?_
  repeat (go_big_quiet_step (fail))
  refine wpQuiet_nil ?_
  intro nq
  have HS3 := kept (HS2.out.later nq.below)
  generalize nq.w = w3 at HS3 ⊢
  clear c0 c1 c2 l0 l1 HS2
  have c2 := HS3.out.node.cell (i := 2) rfl
  have r0 := HS3.out.res.cell (i := 0) rfl
  have r1 := HS3.out.res.cell (i := 1) rfl
  have r2 := HS3.out.res.cell (i := 2) rfl
  have r3 := HS3.out.res.cell (i := 3) rfl
  have f0 := HS3.out.res.free 0
  have f1 := HS3.out.res.free 1
  have f2 := HS3.out.res.free 2
  have f3 := HS3.out.res.free 3
  have HE := HS3.out.ret HF.out.1 (fun b hb => by have h2 : gs = b := by simpa [Value.ownBlock] using hb
                                                  rw [← h2]; exact HF.out.2.1) HF.out.2.2 (0, 0, true, false)
  have HE2 := kept HE
  clear HE
  go_wp2_with fail
  exact bodyPost_ret (results_cell_row rfl _ _ (w.heap.size + 1) 57 #[.int .i64 0, .int .i64 0, .bool true, .bool false] (0, 0) _ rfl HE2.out.1 Try.underlying57 rfl (by kernel_rfl)) rfl ⟨by rw [HR.out]; rfl, H, HE2.out.2.1, HG.out, HE2.out.2.2⟩

set_option maxHeartbeats 2000000 in
/-- The call refuses a node: no places, too many, or too deep. -/
theorem from_out (g : List Int) (lim p : Nat) (vs vh : Value) (H : List Bst) (r d j o : Nat) (w : World) (hT : TabM w p vs vh lim g H) (hG : HGood lim g H) (hg : Gs g) (hj : j ≤ g.length) (ho : o ≤ 1000) (hd : d ≤ 100) (hr : d + r = lim + 1)
    (hn0 : ¬ (j = g.length ∧ o = 0)) (hout : o = 0 ∨ g.length < j + o ∨ r = 0) :
    Calls Try.prog 22 #[.pointer (some ⟨p, 0, none⟩), .agg #[.int .i64 (d : Int), .int .i64 (j : Int), .int .i64 (o : Int)]] w (FromE g lim p vs vh r j o w) := by
  obtain ⟨gs, cs, rfl, hgs, _⟩ := hT.slc
  obtain ⟨n, hn⟩ : ∃ n, n = g.length + 1 := ⟨_, rfl⟩
  rw [← hn] at hT ⊢
  have hl := hg.len
  have hpl := hT.blk.lt
  have hhl := hT.rh.lt
  have hn66 : n ≤ 66 := by omega
  have HR := kept (show mres r (g.drop j) o = (0, 0, false, false) from mres_out _ _ _ (fun h => by
    have h1 := congrArg List.length h.1
    rw [List.length_drop] at h1
    have h2 := h.2
    simp at h1; omega) (by rw [List.length_drop]; omega))
  have HS := kept (st0 (d := d) (j := j) (o := o) hT)
  have HF := kept (show p < w.heap.size ∧ gs < w.heap.size ∧ (∀ b, vh.ownBlock = some b → b < w.heap.size) from ⟨hpl, hgs, hhl⟩)
  have HG := kept hG
  have hjn : (j : Int) ≤ (n : Int) - 1 := by omega
  by_cases h0 : o = 0
  · subst h0
    have t1 : (((n : Int) - 1 - (j : Int)) == 0) = false := by rw [beq_eq_false_iff_ne]; omega
    clear hT hg hj hn hl hpl hhl hgs hG hout hn0 hr
    rw [show ((0 : Nat) : Int) = 0 from rfl] at HS ⊢
    go_enter Try.func22, Try.ntmps22
    go_wp2_with fail
    generalize hw2 : World.alloc (World.alloc w _) _ = w2
    have HS2 := kept (show St0 w w2 d j 0 p _ vh lim g H by rw [← hw2]; exact HS.out)
    clear hw2 HS
    have c0 := HS2.out.tab.blk.cell (i := 0) rfl
    have c1 := HS2.out.node.cell (i := 1) rfl
    have c2 := HS2.out.node.cell (i := 2) rfl
    have l0 := lat_cell c0
    have l1 := lat_cell c1
    refine wp_region_quietL (by kernel_rfl) (by kernel_rfl) ?_
    repeat (go_big_quiet_step (fail))
    refine wpQuiet_nil ?_
    intro nq
    have HS3 := kept (HS2.out.later nq.below)
    generalize nq.w = w3 at HS3 ⊢
    clear c0 c1 c2 l0 l1 HS2
    have c2 := HS3.out.node.cell (i := 2) rfl
    go_wp2_with fail
    have c0 := HS3.out.node.cell (i := 0) rfl
    have c3 := HS3.out.tab.blk.cell (i := 1) rfl
    have l0 := lat_cell c0
    have l2 := lat_cell c2
    have l3 := lat_cell c3
    refine wp_region_quietL (by kernel_rfl) (by kernel_rfl) ?_
    repeat (go_big_quiet_step (fail))
    refine wpQuiet_nil ?_
    intro nq
    have HS4 := kept (HS3.out.later nq.below)
    generalize nq.w = w4 at HS4 ⊢
    clear c0 c2 c3 l0 l2 l3 HS3
    have r0 := HS4.out.res.cell (i := 0) rfl
    have r1 := HS4.out.res.cell (i := 1) rfl
    have r2 := HS4.out.res.cell (i := 2) rfl
    have r3 := HS4.out.res.cell (i := 3) rfl
    have f0 := HS4.out.res.free 0
    have f1 := HS4.out.res.free 1
    have f2 := HS4.out.res.free 2
    have f3 := HS4.out.res.free 3
    have HE := HS4.out.ret HF.out.1 (fun b hb => by have h2 : gs = b := by simpa [Value.ownBlock] using hb
                                                    rw [← h2]; exact HF.out.2.1) HF.out.2.2 (0, 0, false, false)
    have HE2 := kept HE
    clear HE
    go_wp2_with fail
    exact bodyPost_ret (results_cell_row rfl _ _ (w.heap.size + 1) 57 #[.int .i64 0, .int .i64 0, .bool false, .bool false] (0, 0) _ rfl HE2.out.1 Try.underlying57 rfl (by kernel_rfl)) rfl ⟨by rw [HR.out]; rfl, H, HE2.out.2.1, HG.out, HE2.out.2.2⟩
  · have t0 : ((o : Int) == 0) = false := by rw [beq_eq_false_iff_ne]; omega
    by_cases hj2 : j = g.length
    · have e0 : (n : Int) - 1 - (j : Int) = 0 := by omega
      have t1 : decide (0 < o) = true := by rw [decide_eq_true_eq]; omega
      have t1' : 0 < o := by omega
      clear hT hg hj hn hl hpl hhl hgs hG hout hn0 hr h0 hj2
      go_enter Try.func22, Try.ntmps22
      go_wp2_with fail
      generalize hw2 : World.alloc (World.alloc w _) _ = w2
      have HS2 := kept (show St0 w w2 d j o p _ vh lim g H by rw [← hw2]; exact HS.out)
      clear hw2 HS
      have c0 := HS2.out.tab.blk.cell (i := 0) rfl
      have c1 := HS2.out.node.cell (i := 1) rfl
      have c2 := HS2.out.node.cell (i := 2) rfl
      have l0 := lat_cell c0
      have l1 := lat_cell c1
      refine wp_region_quietL (by kernel_rfl) (by kernel_rfl) ?_
      repeat (go_big_quiet_step (fail))
      refine wpQuiet_nil ?_
      intro nq
      have HS3 := kept (HS2.out.later nq.below)
      generalize nq.w = w3 at HS3 ⊢
      clear c0 c1 c2 l0 l1 HS2
      have c2 := HS3.out.node.cell (i := 2) rfl
      go_wp2_with fail
      have c0 := HS3.out.node.cell (i := 0) rfl
      have c3 := HS3.out.tab.blk.cell (i := 1) rfl
      have l0 := lat_cell c0
      have l2 := lat_cell c2
      have l3 := lat_cell c3
      refine wp_region_quietL (by kernel_rfl) (by kernel_rfl) ?_
      repeat (go_big_quiet_step (fail))
      refine wpQuiet_nil ?_
      intro nq
      have HS4 := kept (HS3.out.later nq.below)
      generalize nq.w = w4 at HS4 ⊢
      clear c0 c2 c3 l0 l2 l3 HS3
      have r0 := HS4.out.res.cell (i := 0) rfl
      have r1 := HS4.out.res.cell (i := 1) rfl
      have r2 := HS4.out.res.cell (i := 2) rfl
      have r3 := HS4.out.res.cell (i := 3) rfl
      have f0 := HS4.out.res.free 0
      have f1 := HS4.out.res.free 1
      have f2 := HS4.out.res.free 2
      have f3 := HS4.out.res.free 3
      have HE := HS4.out.ret HF.out.1 (fun b hb => by have h2 : gs = b := by simpa [Value.ownBlock] using hb
                                                      rw [← h2]; exact HF.out.2.1) HF.out.2.2 (0, 0, false, false)
      have HE2 := kept HE
      clear HE
      go_wp2_with fail
      exact bodyPost_ret (results_cell_row rfl _ _ (w.heap.size + 1) 57 #[.int .i64 0, .int .i64 0, .bool false, .bool false] (0, 0) _ rfl HE2.out.1 Try.underlying57 rfl (by kernel_rfl)) rfl ⟨by rw [HR.out]; rfl, H, HE2.out.2.1, HG.out, HE2.out.2.2⟩
    · have t1 : (((n : Int) - 1 - (j : Int)) == 0) = false := by rw [beq_eq_false_iff_ne]; omega
      by_cases h1 : g.length < j + o
      · have t2 : decide ((n : Int) - 1 - (j : Int) < (o : Int)) = true := by rw [decide_eq_true_eq]; omega
        clear hT hg hj hn hl hpl hhl hgs hG hout hn0 hr h0 hj2 h1
        go_enter Try.func22, Try.ntmps22
        go_wp2_with fail
        generalize hw2 : World.alloc (World.alloc w _) _ = w2
        have HS2 := kept (show St0 w w2 d j o p _ vh lim g H by rw [← hw2]; exact HS.out)
        clear hw2 HS
        have c0 := HS2.out.tab.blk.cell (i := 0) rfl
        have c1 := HS2.out.node.cell (i := 1) rfl
        have c2 := HS2.out.node.cell (i := 2) rfl
        have l0 := lat_cell c0
        have l1 := lat_cell c1
        refine wp_region_quietL (by kernel_rfl) (by kernel_rfl) ?_
        repeat (go_big_quiet_step (fail))
        refine wpQuiet_nil ?_
        intro nq
        have HS3 := kept (HS2.out.later nq.below)
        generalize nq.w = w3 at HS3 ⊢
        clear c0 c1 c2 l0 l1 HS2
        have c2 := HS3.out.node.cell (i := 2) rfl
        go_wp2_with fail
        have c0 := HS3.out.node.cell (i := 0) rfl
        have c3 := HS3.out.tab.blk.cell (i := 1) rfl
        have l0 := lat_cell c0
        have l2 := lat_cell c2
        have l3 := lat_cell c3
        refine wp_region_quietL (by kernel_rfl) (by kernel_rfl) ?_
        repeat (go_big_quiet_step (fail))
        refine wpQuiet_nil ?_
        intro nq
        have HS4 := kept (HS3.out.later nq.below)
        generalize nq.w = w4 at HS4 ⊢
        clear c0 c2 c3 l0 l2 l3 HS3
        have r0 := HS4.out.res.cell (i := 0) rfl
        have r1 := HS4.out.res.cell (i := 1) rfl
        have r2 := HS4.out.res.cell (i := 2) rfl
        have r3 := HS4.out.res.cell (i := 3) rfl
        have f0 := HS4.out.res.free 0
        have f1 := HS4.out.res.free 1
        have f2 := HS4.out.res.free 2
        have f3 := HS4.out.res.free 3
        have HE := HS4.out.ret HF.out.1 (fun b hb => by have h2 : gs = b := by simpa [Value.ownBlock] using hb
                                                        rw [← h2]; exact HF.out.2.1) HF.out.2.2 (0, 0, false, false)
        have HE2 := kept HE
        clear HE
        go_wp2_with fail
        exact bodyPost_ret (results_cell_row rfl _ _ (w.heap.size + 1) 57 #[.int .i64 0, .int .i64 0, .bool false, .bool false] (0, 0) _ rfl HE2.out.1 Try.underlying57 rfl (by kernel_rfl)) rfl ⟨by rw [HR.out]; rfl, H, HE2.out.2.1, HG.out, HE2.out.2.2⟩
      · have t2 : decide ((n : Int) - 1 - (j : Int) < (o : Int)) = false := by rw [decide_eq_false_iff_not]; omega
        have t3 : decide (lim < d) = true := by rw [decide_eq_true_eq]; omega
        have t3' : lim < d := by omega
        clear hT hg hj hn hl hpl hhl hgs hG hout hn0 hr h0 hj2 h1
        go_enter Try.func22, Try.ntmps22
        go_wp2_with fail
        generalize hw2 : World.alloc (World.alloc w _) _ = w2
        have HS2 := kept (show St0 w w2 d j o p _ vh lim g H by rw [← hw2]; exact HS.out)
        clear hw2 HS
        have c0 := HS2.out.tab.blk.cell (i := 0) rfl
        have c1 := HS2.out.node.cell (i := 1) rfl
        have c2 := HS2.out.node.cell (i := 2) rfl
        have l0 := lat_cell c0
        have l1 := lat_cell c1
        refine wp_region_quietL (by kernel_rfl) (by kernel_rfl) ?_
        repeat (go_big_quiet_step (fail))
        refine wpQuiet_nil ?_
        intro nq
        have HS3 := kept (HS2.out.later nq.below)
        generalize nq.w = w3 at HS3 ⊢
        clear c0 c1 c2 l0 l1 HS2
        have c2 := HS3.out.node.cell (i := 2) rfl
        go_wp2_with fail
        have c0 := HS3.out.node.cell (i := 0) rfl
        have c3 := HS3.out.tab.blk.cell (i := 1) rfl
        have l0 := lat_cell c0
        have l2 := lat_cell c2
        have l3 := lat_cell c3
        refine wp_region_quietL (by kernel_rfl) (by kernel_rfl) ?_
        repeat (go_big_quiet_step (fail))
        refine wpQuiet_nil ?_
        intro nq
        have HS4 := kept (HS3.out.later nq.below)
        generalize nq.w = w4 at HS4 ⊢
        clear c0 c2 c3 l0 l2 l3 HS3
        have r0 := HS4.out.res.cell (i := 0) rfl
        have r1 := HS4.out.res.cell (i := 1) rfl
        have r2 := HS4.out.res.cell (i := 2) rfl
        have r3 := HS4.out.res.cell (i := 3) rfl
        have f0 := HS4.out.res.free 0
        have f1 := HS4.out.res.free 1
        have f2 := HS4.out.res.free 2
        have f3 := HS4.out.res.free 3
        have HE := HS4.out.ret HF.out.1 (fun b hb => by have h2 : gs = b := by simpa [Value.ownBlock] using hb
                                                        rw [← h2]; exact HF.out.2.1) HF.out.2.2 (0, 0, false, false)
        have HE2 := kept HE
        clear HE
        go_wp2_with fail
        exact bodyPost_ret (results_cell_row rfl _ _ (w.heap.size + 1) 57 #[.int .i64 0, .int .i64 0, .bool false, .bool false] (0, 0) _ rfl HE2.out.1 Try.underlying57 rfl (by kernel_rfl)) rfl ⟨by rw [HR.out]; rfl, H, HE2.out.2.1, HG.out, HE2.out.2.2⟩
end Go.Proofs.Ytejecpmfhgplmaa

-- ---- Mg
/- merge's maker: a node whose best is known. Conditions: the memory that 'TabM' tells. -/
namespace Go.Proofs.Ytejecpmfhgplmaa
set_option linter.unusedSimpArgs false
set_option linter.unusedVariables false
open Go.RowKit Mix _root_.Go.Proofs.Ytejecpmfhgplmaa.Own Dp

theorem bcell {W w1 : World} (hb : Below W.heap.size W w1) : (∀ b o, b < W.heap.size → w1.cell? ⟨b, o, none⟩ = W.cell? ⟨b, o, none⟩) ∧ (∀ b o, b < W.heap.size → w1.frozen? ⟨b, o, none⟩ = W.frozen? ⟨b, o, none⟩) :=
  ⟨fun b o h => hb.cell (p := ⟨b, o, none⟩) h, fun b o h => hb.frozen (p := ⟨b, o, none⟩) h⟩
theorem andOf {A C : World → Prop} (H : ∀ x, A x → C x) {x : World} (h : A x) : A x ∧ C x := ⟨h, H x h⟩
/-- What the memory's loads read, in any world behind w3. -/
theorem held {w w3 : World} {d j o p gh n ch : Nat} {vs : Value} {lim : Nat} {g : List Int} {H : List Bst} (h : St0 w w3 d j o p vs (.slice (some ⟨gh, 0, none⟩) n ch) lim g H) {m : Nat} (hm : m < H.length) (w' : World) (hb : Below w3.heap.size w3 w') :
    w'.cell? ⟨p, 2, none⟩ = some (.slice (some ⟨gh, 0, none⟩) n ch) ∧ w'.cell? ⟨w.heap.size, 0, none⟩ = some (.int .i64 (d : Int)) ∧ w'.cell? ⟨w.heap.size, 1, none⟩ = some (.int .i64 (j : Int)) ∧ w'.cell? ⟨w.heap.size, 2, none⟩ = some (.int .i64 (o : Int)) ∧
    w'.cell? ⟨gh, m * 4, none⟩ = some (.int .i64 (H.getD m (0, 0, false, false)).1) ∧ w'.cell? ⟨gh, m * 4 + 1, none⟩ = some (.int .i64 (H.getD m (0, 0, false, false)).2.1) ∧ w'.cell? ⟨gh, m * 4 + 2, none⟩ = some (.bool (H.getD m (0, 0, false, false)).2.2.1) ∧ w'.cell? ⟨gh, m * 4 + 3, none⟩ = some (.bool (H.getD m (0, 0, false, false)).2.2.2) := by
  have h2 := h.later hb
  obtain ⟨a0, a1, a2, a3⟩ := flB_at H (0, 0, false, false) m hm
  have hn : n = H.length := by
    obtain ⟨a, c, e, _⟩ := h2.tab.rh.slice
    simp at e; exact e.2.1
  subst hn
  have hr := h2.tab.rh
  exact ⟨h2.tab.blk.cell (i := 2) rfl, h2.node.cell (i := 0) rfl, h2.node.cell (i := 1) rfl, h2.node.cell (i := 2) rfl, hr.cell a0, hr.cell a1, hr.cell a2, hr.cell a3⟩

set_option maxHeartbeats 4000000 in
theorem from_known (g : List Int) (lim p : Nat) (vs vh : Value) (H : List Bst) (r d j o : Nat) (w : World) (hT : TabM w p vs vh lim g H) (hG : HGood lim g H) (hg : Gs g) (hj : j < g.length) (ho1 : 1 ≤ o) (ho : j + o ≤ g.length) (hd : 1 ≤ d) (hlim : lim ≤ 15) (hr : d + (r + 1) = lim + 1)
    (hk : H.getD (keyM (g.length + 1) d j o) (0, 0, false, false) = mres (r + 1) (g.drop j) o) :
    Calls Try.prog 22 #[.pointer (some ⟨p, 0, none⟩), .agg #[.int .i64 (d : Int), .int .i64 (j : Int), .int .i64 (o : Int)]] w (FromE g lim p vs vh (r + 1) j o w) := by
  have hHl := hG.len
  obtain ⟨m, hm⟩ : ∃ m, m = keyM (g.length + 1) d j o := ⟨_, rfl⟩
  have hmH : m < H.length := by rw [hm, hHl]; exact keyM_lt (by omega) (by omega) (by omega)
  obtain ⟨gh, ch, rfl, hgh⟩ := hT.hadS (by omega)
  obtain ⟨N, hN⟩ : ∃ N, N = H.length := ⟨_, rfl⟩
  rw [← hN] at hT hmH ⊢
  obtain ⟨gs, cs, rfl, hgs, _⟩ := hT.slc
  obtain ⟨n, hn⟩ : ∃ n, n = g.length + 1 := ⟨_, rfl⟩
  rw [← hn] at hT hm hk ⊢
  rw [← hm] at hk
  have hl := hg.len
  have hpl := hT.blk.lt
  have hn66 : n ≤ 66 := by omega
  have hkn : mres (r + 1) (g.drop j) o = accV (g.drop j).sum (best (cand r (g.drop j) o) o) := mres_in ho1 (by rw [List.length_drop]; omega)
  obtain ⟨X, hX⟩ : ∃ X, X = mres (r + 1) (g.drop j) o := ⟨_, rfl⟩
  obtain ⟨x1, x2, x3, x4⟩ := X
  have hb := hX.symm
  clear hX
  have hx4 : x4 = true := by
    rw [hkn] at hb
    cases hbb : best (cand r (g.drop j) o) o with
    | none => rw [hbb] at hb; simp only [accV, Prod.mk.injEq] at hb; exact hb.2.2.2.symm
    | some q => rw [hbb] at hb; simp only [accV, Prod.mk.injEq] at hb; exact hb.2.2.2.symm
  subst hx4
  rw [hb] at hk
  have HR := kept hb
  have HS := kept (st0 (d := d) (j := j) (o := o) hT)
  have HF := kept (show p < w.heap.size ∧ gs < w.heap.size ∧ gh < w.heap.size from ⟨hpl, hgs, hgh⟩)
  have HG := kept hG
  have HK := kept hk
  have HM := kept hm
  have HN := kept hn
  have HNH := kept hN
  have hjn : (j : Int) ≤ (n : Int) - 1 := by omega
  have t0 : ((o : Int) == 0) = false := by rw [beq_eq_false_iff_ne]; omega
  have t1 : (((n : Int) - 1 - (j : Int)) == 0) = false := by rw [beq_eq_false_iff_ne]; omega
  have t2 : decide ((n : Int) - 1 - (j : Int) < (o : Int)) = false := by rw [decide_eq_false_iff_not]; omega
  have t3 : decide (lim < d) = false := by rw [decide_eq_false_iff_not]; omega
  have t3' : ¬ lim < d := by omega
  have hm0 : (0 : Int) ≤ (m : Int) := by omega
  have hm1 : (m : Int) < (N : Int) := by omega
  have hd100 : d ≤ 100 := by omega
  have ho65 : o ≤ 65 := by omega
  have hj65 : j ≤ 65 := by omega
  clear hT hg hj hl hpl hgs hgh hG ho1 ho hr hkn hb hk hm hn hN hmH hHl
  go_enter Try.func22, Try.ntmps22
  go_wp2_with fail
  generalize hw2 : World.alloc (World.alloc w _) _ = w2
  have HS2 := kept (show St0 w w2 d j o p _ _ lim g H by rw [← hw2]; exact HS.out)
  clear hw2 HS
  have c0 := HS2.out.tab.blk.cell (i := 0) rfl
  have c1 := HS2.out.node.cell (i := 1) rfl
  have c2 := HS2.out.node.cell (i := 2) rfl
  have l0 := lat_cell c0
  have l1 := lat_cell c1
  refine wp_region_quietL (by kernel_rfl) (by kernel_rfl) ?_
  repeat (go_big_quiet_step (fail))
  refine wpQuiet_nil ?_
  intro nq
  have HS3 := kept (HS2.out.later nq.below)
  generalize nq.w = w3 at HS3 ⊢
  clear c0 c1 c2 l0 l1 HS2
  have c2 := HS3.out.node.cell (i := 2) rfl
  go_wp2_with fail
  have c0 := HS3.out.node.cell (i := 0) rfl
  have c3 := HS3.out.tab.blk.cell (i := 1) rfl
  have l0 := lat_cell c0
  have l2 := lat_cell c2
  have l3 := lat_cell c3
  refine wp_region_quietL (by kernel_rfl) (by kernel_rfl) ?_
  repeat (go_big_quiet_step (fail))
  refine wpQuiet_nil ?_
  intro nq
  have HS4 := kept (HS3.out.later nq.below)
  generalize nq.w = w4 at HS4 ⊢
  clear c0 c2 c3 l0 l2 l3 HS3
  have hat : ∀ x : World, Below w4.heap.size w4 x → Calls Try.prog 31 #[.pointer (some ⟨p, 0, none⟩), .agg #[.int .i64 (d : Int), .int .i64 (j : Int), .int .i64 (o : Int)]] x fun e x' => e = .returned (.int .i64 (m : Int)) ∧ Below x.heap.size x x' := fun x hx => by
    have := at_calls p _ _ lim g H d j o n x (HS4.out.later hx).tab HN.out (by omega) hd100 (by omega) (by omega)
    rw [← HM.out] at this; exact this
  have hheld := fun x (hx : Below w4.heap.size w4 x) => held HS4.out (m := m) (by rw [← HNH.out]; omega) x hx
  rw [HK.out] at hheld
  have HAt := kept hat
  have HHeld := kept hheld
  clear hat hheld t0 t1 t2 t3 t3'
  go_wp2_with fail
  go_region_held3 (fun w' => Below w4.heap.size w4 w' ∧ w'.cell? ⟨p, 2, none⟩ = some (.slice (some ⟨gh, 0, none⟩) N ch) ∧ w'.cell? ⟨w.heap.size, 0, none⟩ = some (.int .i64 (d : Int)) ∧ w'.cell? ⟨w.heap.size, 1, none⟩ = some (.int .i64 (j : Int)) ∧ w'.cell? ⟨w.heap.size, 2, none⟩ = some (.int .i64 (o : Int)) ∧
    w'.cell? ⟨gh, m * 4, none⟩ = some (.int .i64 x1) ∧ w'.cell? ⟨gh, m * 4 + 1, none⟩ = some (.int .i64 x2) ∧ w'.cell? ⟨gh, m * 4 + 2, none⟩ = some (.bool x3) ∧ w'.cell? ⟨gh, m * 4 + 3, none⟩ = some (.bool true))
    ((first | exact ⟨(Below.refl _ _).drew, HHeld.out _ (Below.refl _ _).drew⟩ | exact S7 | exact andOf HHeld.out ((Below.refl _ _).alloc (Nat.le_refl _) _).drew | exact andOf HHeld.out (Below.alloc (‹Below w4.heap.size w4 _ ∧ _›).1 (‹Below w4.heap.size w4 _ ∧ _›).1.size _) | exact andOf HHeld.out (Below.setCell (Below.setCell (Below.setCell (Below.setCell (‹Below w4.heap.size w4 _ ∧ _›).1 (by first | exact Nat.le_refl _ | omega | (simp; omega)) _) (by first | exact Nat.le_refl _ | omega | (simp; omega)) _) (by first | exact Nat.le_refl _ | omega | (simp; omega)) _) (by first | exact Nat.le_refl _ | omega | (simp; omega)) _)))
    ((go_at_call 31; have hB := (‹Below w4.heap.size w4 _ ∧ _›).1; refine (HAt.out _ hB).mono ?_; rintro e w7 ⟨rfl, hb7⟩; have S7 := andOf HHeld.out (Below.trans hB (hb7.mono hB.size)); obtain ⟨hc7, hf7⟩ := bcell hb7; have hz7 := S7.1.size))
  all_goals
    have hW := (‹Below w4.heap.size w4 _ ∧ _›).1
    have HS5 := kept (HS4.out.later hW)
    have r0 := HS5.out.res.cell (i := 0) rfl
    have r1 := HS5.out.res.cell (i := 1) rfl
    have r2 := HS5.out.res.cell (i := 2) rfl
    have r3 := HS5.out.res.cell (i := 3) rfl
    have f0 := HS5.out.res.free 0
    have f1 := HS5.out.res.free 1
    have f2 := HS5.out.res.free 2
    have f3 := HS5.out.res.free 3
    have HE2 := kept (HS5.out.ret HF.out.1 (fun b hb => by have h2 : gs = b := by simpa [Value.ownBlock] using hb
                                                           rw [← h2]; exact HF.out.2.1) (fun b hb => by have h2 : gh = b := by simpa [Value.ownBlock] using hb
                                                                                                        rw [← h2]; exact HF.out.2.2) (x1, x2, x3, true))
    clear hW
    go_wp2_with fail
    exact bodyPost_ret (results_cell_row rfl _ _ (w.heap.size + 1) 57 #[.int .i64 x1, .int .i64 x2, .bool x3, .bool true] (0, 0) _ rfl HE2.out.1 Try.underlying57 rfl (by kernel_rfl)) rfl ⟨by rw [HR.out]; rfl, H, HE2.out.2.1, HG.out, HE2.out.2.2⟩
end Go.Proofs.Ytejecpmfhgplmaa

-- ---- Mh
/- merge's maker: the best from a node on, whole. Conditions: the memory that 'TabM' tells. -/
namespace Go.Proofs.Ytejecpmfhgplmaa
set_option linter.unusedSimpArgs false
set_option linter.unusedVariables false
open Go.RowKit Mix _root_.Go.Proofs.Ytejecpmfhgplmaa.Own Dp

section
variable {w wr : World} {d j o q : Nat} {acc : Bst} {p : Nat} {vs vh : Value} {lim : Nat} {g : List Int} {H : List Bst}
theorem StF.start {w5 : World} (h : St0 w w5 d j o p vs vh lim g H) (hG : HGood lim g H) (hp : p < w.heap.size) (hs : ∀ b, vs.ownBlock = some b → b < w.heap.size) (hh : ∀ b, vh.ownBlock = some b → b < w.heap.size) (q : Nat) (hq : q = w5.heap.size) :
    StF w (w5.alloc (.cells #[.int .i64 0, .int .i64 0, .bool false, .bool true] 57)) d j o q (0, 0, false, true) p vs vh lim g H := by
  subst hq
  have hb : Below w5.heap.size w5 (w5.alloc (.cells #[.int .i64 0, .int .i64 0, .bool false, .bool true] 57)) := (Below.refl _ _).alloc (Nat.le_refl _) _
  have h2 := h.later hb
  exact ⟨h2.node, h2.res, Blk.fresh _ _ _, h2.tab, hG, Chg.of_below h2.low, hp, hs, hh, h.res.lt⟩
theorem TabM.sumAt {gs n cs : Nat} (h : TabM w p (.slice (some ⟨gs, 0, none⟩) n cs) vh lim g H) (hj : j ≤ g.length) : w.cell? ⟨gs, j, none⟩ = some (.int .i64 (g.drop j).sum) := by
  have := h.rs.cell (j := j) (Own.ints_at .i64 (sums g) j (by rw [length_sums]; omega))
  rw [sums_at g j hj] at this
  exact this
theorem StF.len {gh n ch : Nat} (h : StF w wr d j o q acc p vs (.slice (some ⟨gh, 0, none⟩) n ch) lim g H) : n = H.length := by
  obtain ⟨a, c, e, _⟩ := h.tab.rh.slice
  simp at e; exact e.2.1
theorem StF.st0 (h : StF w wr d j o q acc p vs vh lim g H) (hlow : Below w.heap.size w wr) : St0 w wr d j o p vs vh lim g H := ⟨h.node, h.res, h.tab, hlow⟩
/-- What the last loads read. -/
theorem StF.cells {gh n ch : Nat} (h : StF w wr d j o q acc p vs (.slice (some ⟨gh, 0, none⟩) n ch) lim g H) :
    wr.cell? ⟨p, 2, none⟩ = some (.slice (some ⟨gh, 0, none⟩) n ch) ∧ wr.cell? ⟨w.heap.size, 0, none⟩ = some (.int .i64 (d : Int)) ∧ wr.cell? ⟨w.heap.size, 1, none⟩ = some (.int .i64 (j : Int)) ∧ wr.cell? ⟨w.heap.size, 2, none⟩ = some (.int .i64 (o : Int)) ∧
    wr.cell? ⟨q, 0, none⟩ = some (.int .i64 acc.1) ∧ wr.cell? ⟨q, 1, none⟩ = some (.int .i64 acc.2.1) ∧ wr.cell? ⟨q, 2, none⟩ = some (.bool acc.2.2.1) ∧ wr.cell? ⟨q, 3, none⟩ = some (.bool acc.2.2.2) :=
  ⟨h.tab.blk.cell (i := 2) rfl, h.node.cell (i := 0) rfl, h.node.cell (i := 1) rfl, h.node.cell (i := 2) rfl, h.out.cell (i := 0) rfl, h.out.cell (i := 1) rfl, h.out.cell (i := 2) rfl, h.out.cell (i := 3) rfl⟩
theorem StF.hadAt {gh n ch : Nat} (h : StF w wr d j o q acc p vs (.slice (some ⟨gh, 0, none⟩) n ch) lim g H) {m : Nat} (hm : m < H.length) :
    (wr.cell? ⟨gh, m * 4, none⟩ = some (.int .i64 (H.getD m (0, 0, false, false)).1) ∧ wr.cell? ⟨gh, m * 4 + 1, none⟩ = some (.int .i64 (H.getD m (0, 0, false, false)).2.1) ∧ wr.cell? ⟨gh, m * 4 + 2, none⟩ = some (.bool (H.getD m (0, 0, false, false)).2.2.1) ∧ wr.cell? ⟨gh, m * 4 + 3, none⟩ = some (.bool (H.getD m (0, 0, false, false)).2.2.2)) ∧
    wr.frozen? ⟨gh, m * 4, none⟩ = false ∧ wr.frozen? ⟨gh, m * 4 + 1, none⟩ = false ∧ wr.frozen? ⟨gh, m * 4 + 2, none⟩ = false ∧ wr.frozen? ⟨gh, m * 4 + 3, none⟩ = false := by
  obtain ⟨a0, a1, a2, a3⟩ := flB_at H (0, 0, false, false) m hm
  have hn := h.len
  subst hn
  have hr := h.tab.rh
  exact ⟨⟨hr.cell a0, hr.cell a1, hr.cell a2, hr.cell a3⟩, hr.free _, hr.free _, hr.free _, hr.free _⟩
/-- The node's best is laid in the memory. -/
theorem StF.put {gh n ch : Nat} (h : StF w wr d j o q acc p vs (.slice (some ⟨gh, 0, none⟩) n ch) lim g H) (m : Nat) (hm : m < H.length) (hG : HGood lim g (H.set m acc)) :
    StF w ((((wr.setCell ⟨gh, m * 4, none⟩ (.int .i64 acc.1)).setCell ⟨gh, m * 4 + 1, none⟩ (.int .i64 acc.2.1)).setCell ⟨gh, m * 4 + 2, none⟩ (.bool acc.2.2.1)).setCell ⟨gh, m * 4 + 3, none⟩ (.bool acc.2.2.2)) d j o q acc p vs (.slice (some ⟨gh, 0, none⟩) n ch) lim g (H.set m acc) := by
  have hghl := h.hh gh rfl
  have hql := h.hq
  have n0 : w.heap.size ≠ gh := by omega
  have n1 : w.heap.size + 1 ≠ gh := by omega
  have nq : q ≠ gh := by omega
  have hc1 : ∀ (x : World) (i : Nat) (v : Value), Chg (fun b => some b = (Value.slice (some ⟨gh, 0, none⟩) n ch).ownBlock) w x → Chg (fun b => some b = (Value.slice (some ⟨gh, 0, none⟩) n ch).ownBlock) w (x.setCell ⟨gh, i, none⟩ v) := fun x i v hx => hx.trans (Chg.setCell x _ v) (fun k hk e => by have e2 : k = gh := e; rw [e2]; rfl)
  exact ⟨(((h.node.setOther n0 _).setOther n0 _).setOther n0 _).setOther n0 _, (((h.res.setOther n1 _).setOther n1 _).setOther n1 _).setOther n1 _, (((h.out.setOther nq _).setOther nq _).setOther nq _).setOther nq _,
    h.tab.store h.len m hm acc, hG, hc1 _ _ _ (hc1 _ _ _ (hc1 _ _ _ (hc1 _ _ _ h.chg))), h.hp, h.hs, h.hh, h.hq⟩
/-- The result is laid. -/
theorem StF.ret (h : StF w wr d j o q acc p vs vh lim g H) :
    Blk ((((wr.setCell ⟨w.heap.size + 1, 0, none⟩ (.int .i64 acc.1)).setCell ⟨w.heap.size + 1, 1, none⟩ (.int .i64 acc.2.1)).setCell ⟨w.heap.size + 1, 2, none⟩ (.bool acc.2.2.1)).setCell ⟨w.heap.size + 1, 3, none⟩ (.bool acc.2.2.2)) (w.heap.size + 1) (bstV acc).toArray 57 ∧
    TabM ((((wr.setCell ⟨w.heap.size + 1, 0, none⟩ (.int .i64 acc.1)).setCell ⟨w.heap.size + 1, 1, none⟩ (.int .i64 acc.2.1)).setCell ⟨w.heap.size + 1, 2, none⟩ (.bool acc.2.2.1)).setCell ⟨w.heap.size + 1, 3, none⟩ (.bool acc.2.2.2)) p vs vh lim g H ∧
    Chg (fun b => some b = vh.ownBlock) w ((((wr.setCell ⟨w.heap.size + 1, 0, none⟩ (.int .i64 acc.1)).setCell ⟨w.heap.size + 1, 1, none⟩ (.int .i64 acc.2.1)).setCell ⟨w.heap.size + 1, 2, none⟩ (.bool acc.2.2.1)).setCell ⟨w.heap.size + 1, 3, none⟩ (.bool acc.2.2.2)) := by
  have np : p ≠ w.heap.size + 1 := by have := h.hp; omega
  have ns : vs.ownBlock ≠ some (w.heap.size + 1) := fun e => by have := h.hs _ e; omega
  have nh : vh.ownBlock ≠ some (w.heap.size + 1) := fun e => by have := h.hh _ e; omega
  have hc2 : ∀ (x : World) (i : Nat) (v : Value), Chg (fun b => some b = vh.ownBlock) w x → Chg (fun b => some b = vh.ownBlock) w (x.setCell ⟨w.heap.size + 1, i, none⟩ v) := fun x i v hx => hx.trans (Chg.setCell x _ v) (fun k hk e => by have : k = w.heap.size + 1 := e; omega)
  exact ⟨(((h.res.set 0 (.int .i64 acc.1)).set 1 (.int .i64 acc.2.1)).set 2 (.bool acc.2.2.1)).set 3 (.bool acc.2.2.2),
    (((h.tab.setOther np ns nh _).setOther np ns nh _).setOther np ns nh _).setOther np ns nh _, hc2 _ _ _ (hc2 _ _ _ (hc2 _ _ _ (hc2 _ _ _ h.chg)))⟩
end

/-- A best so far is one of the candidates. -/
def AccOk (o : Nat) : Option (Int × Nat) → Prop
  | none => True
  | some (x, k) => 0 ≤ x ∧ x ≤ 30000000000 ∧ k ≤ o
end Go.Proofs.Ytejecpmfhgplmaa

-- ---- Mi
/- merge's maker: the best from a node on, whole. Conditions: the memory that 'TabM' tells. -/
namespace Go.Proofs.Ytejecpmfhgplmaa
set_option linter.unusedSimpArgs false
set_option linter.unusedVariables false
open Go.RowKit Mix _root_.Go.Proofs.Ytejecpmfhgplmaa.Own Dp

set_option maxRecDepth 100000 in
set_option maxHeartbeats 8000000 in
theorem from_calls (g : List Int) (lim p : Nat) (vs vh : Value) (hg : Gs g) (hlim : lim ≤ 15) : ∀ (r d j o : Nat) (H : List Bst) (w : World), TabM w p vs vh lim g H → HGood lim g H → j ≤ g.length → o ≤ 130 → 1 ≤ d → d + r = lim + 1 →
    Calls Try.prog 22 #[.pointer (some ⟨p, 0, none⟩), .agg #[.int .i64 (d : Int), .int .i64 (j : Int), .int .i64 (o : Int)]] w (FromE g lim p vs vh r j o w) := by
  intro r
  induction r with
  | zero =>
    intro d j o H w hT hG hj ho hd hr
    by_cases h : j = g.length ∧ o = 0
    · exact from_end g lim p vs vh H 0 d j o w hT hG hg h.1 h.2 (by omega)
    · exact from_out g lim p vs vh H 0 d j o w hT hG hg hj (by omega) (by omega) hr h (.inr (.inr rfl))
  | succ r ih =>
    intro d j o H w hT hG hj ho hd hr
    by_cases h : j = g.length ∧ o = 0
    · exact from_end g lim p vs vh H (r + 1) d j o w hT hG hg h.1 h.2 (by omega)
    by_cases h2 : o = 0 ∨ g.length < j + o
    · exact from_out g lim p vs vh H (r + 1) d j o w hT hG hg hj (by omega) (by omega) hr h (by omega)
    have hjl : j < g.length := by omega
    have ho1 : 1 ≤ o := by omega
    have hjo : j + o ≤ g.length := by omega
    clear h h2 ho hj
    have hl := hg.len
    have hHl := hG.len
    obtain ⟨m, hm⟩ : ∃ m, m = keyM (g.length + 1) d j o := ⟨_, rfl⟩
    have hmH : m < H.length := by rw [hm, hHl]; exact keyM_lt (by omega) (by omega) (by omega)
    have hHm : ∀ H' : List Bst, HGood lim g H' → m < H'.length := fun H' h => by rw [h.len, ← hHl]; exact hmH
    rcases Classical.em (H.getD (keyM (g.length + 1) d j o) (0, 0, false, false) = mres (r + 1) (g.drop j) o) with hk | hk
    · exact from_known g lim p vs vh H r d j o w hT hG hg hjl ho1 hjo hd hlim hr hk
    have hkf : (H.getD m (0, 0, false, false)).2.2.2 = false := by
      rcases hG.at_ d j o hd (by omega) (by omega) (by omega) with h1 | h1
      · rw [hm]; exact h1
      · exact absurd (by rw [show lim + 1 - d = r + 1 by omega] at h1; exact h1) hk
    clear hk
    obtain ⟨X, hX⟩ : ∃ X, X = H.getD m (0, 0, false, false) := ⟨_, rfl⟩
    rw [← hX] at hkf
    obtain ⟨x1, x2, x3, x4⟩ := X
    simp only at hkf
    subst hkf
    have HX := kept hX.symm
    clear hX
    obtain ⟨gh, ch, rfl, hgh⟩ := hT.hadS (by omega)
    obtain ⟨N, hN⟩ : ∃ N, N = H.length := ⟨_, rfl⟩
    rw [← hN] at hT hmH ih ⊢
    obtain ⟨gs, cs, rfl, hgs, _⟩ := hT.slc
    obtain ⟨n, hn⟩ : ∃ n, n = g.length + 1 := ⟨_, rfl⟩
    rw [← hn] at hT hm ih ⊢
    have hpl := hT.blk.lt
    have hn66 : n ≤ 66 := by omega
    obtain ⟨c, hc⟩ : ∃ c, c = cand r (g.drop j) o := ⟨_, rfl⟩
    obtain ⟨S, hS⟩ : ∃ S, S = (g.drop j).sum := ⟨_, rfl⟩
    have hSb := hg.sum j
    rw [← hS] at hSb
    obtain ⟨hS0, hS1⟩ := hSb
    have HR := kept (show mres (r + 1) (g.drop j) o = accV S (best c o) by rw [hS, hc]; exact mres_in ho1 (by rw [List.length_drop]; omega))
    have HS := kept (st0 (d := d) (j := j) (o := o) hT)
    have HF := kept (show p < w.heap.size ∧ gs < w.heap.size ∧ gh < w.heap.size from ⟨hpl, hgs, hgh⟩)
    have HG := kept hG
    have HM := kept hm
    have HN := kept hn
    have HNH := kept hN
    have HC := kept hc
    have HSS := kept hS
    have HGs := kept hg
    have IH := kept ih
    have HHm := kept hHm
    have hjn : (j : Int) ≤ (n : Int) - 1 := by omega
    have hjn2 : (j : Int) < (n : Int) := by omega
    have t0 : ((o : Int) == 0) = false := by rw [beq_eq_false_iff_ne]; omega
    have t1 : (((n : Int) - 1 - (j : Int)) == 0) = false := by rw [beq_eq_false_iff_ne]; omega
    have t2 : decide ((n : Int) - 1 - (j : Int) < (o : Int)) = false := by rw [decide_eq_false_iff_not]; omega
    have t3 : decide (lim < d) = false := by rw [decide_eq_false_iff_not]; omega
    have t3' : ¬ lim < d := by omega
    have hm0 : (0 : Int) ≤ (m : Int) := by omega
    have hm1 : (m : Int) < (N : Int) := by omega
    have hd100 : d ≤ 100 := by omega
    have ho65 : o ≤ 65 := by omega
    have hj65 : j ≤ 65 := by omega
    have HB := kept (show j < g.length ∧ j + o ≤ g.length ∧ 1 ≤ o ∧ d + (r + 1) = lim + 1 ∧ g.length ≤ 65 from ⟨hjl, hjo, ho1, hr, hl⟩)
    clear hT hg hjl hl hpl hgs hgh hG ho1 hjo hr hm hn hN hmH hHl hc hS ih hHm
    go_enter Try.func22, Try.ntmps22
    go_wp2_with fail
    generalize hw2 : World.alloc (World.alloc w _) _ = w2
    have HS2 := kept (show St0 w w2 d j o p _ _ lim g H by rw [← hw2]; exact HS.out)
    clear hw2 HS
    have c0 := HS2.out.tab.blk.cell (i := 0) rfl
    have c1 := HS2.out.node.cell (i := 1) rfl
    have c2 := HS2.out.node.cell (i := 2) rfl
    have l0 := lat_cell c0
    have l1 := lat_cell c1
    refine wp_region_quietL (by kernel_rfl) (by kernel_rfl) ?_
    repeat (go_big_quiet_step (fail))
    refine wpQuiet_nil ?_
    intro nq
    have HS3 := kept (HS2.out.later nq.below)
    generalize nq.w = w3 at HS3 ⊢
    clear c0 c1 c2 l0 l1 HS2
    have c2 := HS3.out.node.cell (i := 2) rfl
    go_wp2_with fail
    have c0 := HS3.out.node.cell (i := 0) rfl
    have c3 := HS3.out.tab.blk.cell (i := 1) rfl
    have l0 := lat_cell c0
    have l2 := lat_cell c2
    have l3 := lat_cell c3
    refine wp_region_quietL (by kernel_rfl) (by kernel_rfl) ?_
    repeat (go_big_quiet_step (fail))
    refine wpQuiet_nil ?_
    intro nq
    have HS4 := kept (HS3.out.later nq.below)
    generalize nq.w = w4 at HS4 ⊢
    clear c0 c2 c3 l0 l2 l3 HS3
    have hat : ∀ x : World, Below w4.heap.size w4 x → Calls Try.prog 31 #[.pointer (some ⟨p, 0, none⟩), .agg #[.int .i64 (d : Int), .int .i64 (j : Int), .int .i64 (o : Int)]] x fun e x' => e = .returned (.int .i64 (m : Int)) ∧ Below x.heap.size x x' := fun x hx => by
      have := at_calls p _ _ lim g H d j o n x (HS4.out.later hx).tab HN.out (by omega) hd100 (by omega) (by omega)
      rw [← HM.out] at this; exact this
    have hheld := fun x (hx : Below w4.heap.size w4 x) => held HS4.out (m := m) (by rw [← HNH.out]; omega) x hx
    rw [HX.out] at hheld
    have HAt := kept hat
    have HHeld := kept hheld
    clear hat hheld t0 t1 t2 t3 t3'
    go_wp2_with fail
    go_cut [6] from 49 to 57 (fun s6 wx => ∃ q6, s6 = .pointer (some ⟨q6, 0, none⟩) ∧ St0 w wx d j o p (.slice (some ⟨gs, 0, none⟩) n cs) (.slice (some ⟨gh, 0, none⟩) N ch) lim g H ∧ wx.cell? ⟨q6, 3, none⟩ = some (.bool false))
    case first =>
      go_region_held3 (fun w' => Below w4.heap.size w4 w' ∧ w'.cell? ⟨p, 2, none⟩ = some (.slice (some ⟨gh, 0, none⟩) N ch) ∧ w'.cell? ⟨w.heap.size, 0, none⟩ = some (.int .i64 (d : Int)) ∧ w'.cell? ⟨w.heap.size, 1, none⟩ = some (.int .i64 (j : Int)) ∧ w'.cell? ⟨w.heap.size, 2, none⟩ = some (.int .i64 (o : Int)) ∧
        w'.cell? ⟨gh, m * 4, none⟩ = some (.int .i64 x1) ∧ w'.cell? ⟨gh, m * 4 + 1, none⟩ = some (.int .i64 x2) ∧ w'.cell? ⟨gh, m * 4 + 2, none⟩ = some (.bool x3) ∧ w'.cell? ⟨gh, m * 4 + 3, none⟩ = some (.bool false))
        ((first | exact ⟨(Below.refl _ _).drew, HHeld.out _ (Below.refl _ _).drew⟩ | exact S7 | exact andOf HHeld.out ((Below.refl _ _).alloc (Nat.le_refl _) _).drew | exact andOf HHeld.out (Below.alloc (‹Below w4.heap.size w4 _ ∧ _›).1 (‹Below w4.heap.size w4 _ ∧ _›).1.size _) | exact andOf HHeld.out (Below.setCell (Below.setCell (Below.setCell (Below.setCell (‹Below w4.heap.size w4 _ ∧ _›).1 (by first | exact Nat.le_refl _ | omega | (simp; omega)) _) (by first | exact Nat.le_refl _ | omega | (simp; omega)) _) (by first | exact Nat.le_refl _ | omega | (simp; omega)) _) (by first | exact Nat.le_refl _ | omega | (simp; omega)) _)))
        ((go_at_call 31; have hB := (‹Below w4.heap.size w4 _ ∧ _›).1; refine (HAt.out _ hB).mono ?_; rintro e w7 ⟨rfl, hb7⟩; have S7 := andOf HHeld.out (Below.trans hB (hb7.mono hB.size)); obtain ⟨hc7, hf7⟩ := bcell hb7; have hz7 := S7.1.size))
      all_goals
        have hW := (‹Below w4.heap.size w4 _ ∧ _›).1
        have HS5 := kept (HS4.out.later hW)
        clear hW
        go_wp2_with fail
        go_meet
        case rel => exact ⟨_, rfl, HS5.out, by first | exact Blk.cell (Blk.fresh _ _ _) rfl | exact Blk.cell ((((Blk.set (show Blk w7 w4.heap.size #[.int .i64 0, .int .i64 0, .bool false, .bool false] 57 from (hb7.block _ (by simp)).trans (Blk.fresh _ _ _)) 0 _).set 1 _).set 2 _).set 3 _) (i := 3) rfl⟩
    case rest =>
      obtain ⟨q6, rfl, hst, hc6⟩ := hcut
      obtain ⟨w5, rfl⟩ : ∃ w5, w5 = wc := ⟨wc, rfl⟩
      have HS5 := kept hst
      clear hst
      have k2 := HS5.out.node.cell (i := 2) rfl
      have k2' := (HS5.out.later ((Below.refl _ _).alloc (Nat.le_refl _) (.cells #[.int .i64 0, .int .i64 0, .bool false, .bool true] 57))).node.cell (i := 2) rfl
      go_wp2_with fail
      obtain ⟨q, hq⟩ : ∃ q, q = w5.heap.size := ⟨_, rfl⟩
      rw [← hq]
      generalize hw6 : World.alloc w5 _ = w6
      have HSt : Kept (StF w w6 d j o q (accV S none) p (.slice (some ⟨gs, 0, none⟩) n cs) (.slice (some ⟨gh, 0, none⟩) N ch) lim g H) := kept (by
        rw [← hw6]
        exact StF.start HS5.out HG.out HF.out.1 (fun b hb => by have h2 : gs = b := by simpa [Value.ownBlock] using hb
                                                                rw [← h2]; exact HF.out.2.1) (fun b hb => by have h2 : gh = b := by simpa [Value.ownBlock] using hb
                                                                                                             rw [← h2]; exact HF.out.2.2) q hq)
      have HSum : Kept (∀ (wx : World) (Hx : List Bst), TabM wx p (.slice (some ⟨gs, 0, none⟩) n cs) (.slice (some ⟨gh, 0, none⟩) N ch) lim g Hx → wx.cell? ⟨gs, j, none⟩ = some (.int .i64 S)) := kept (fun wx Hx h => by
        rw [HSS.out]; exact h.sumAt (by have := HB.out.1; omega))
      clear hw6 HS5 k2 k2' hc6 hq HS4 HAt HHeld
      go_loopw [8] (fun s8 wr => ∃ (t : Nat) (a : Option (Int × Nat)) (H' : List Bst), t ≤ o + 1 ∧ s8 = .int .i64 ((t : Int) - 1) ∧ Dp.run c a t = best c o ∧ AccOk o a ∧ StF w wr d j o q (accV S a) p (.slice (some ⟨gs, 0, none⟩) n cs) (.slice (some ⟨gh, 0, none⟩) N ch) lim g H')
        (fun s8 _ => (intOf s8 + 1).toNat)
      case atStart => exact ⟨o + 1, none, H, Nat.le_refl _, by congr 1; omega, rfl, trivial, HSt.out⟩
      case round =>
        obtain ⟨t, a, H1, hto, rfl, hrun, hacc, hst⟩ := hrel
        obtain ⟨wq, rfl⟩ : ∃ wq, wq = wr := ⟨wr, rfl⟩
        by_cases ht0 : 0 < t
        · obtain ⟨k, rfl⟩ : ∃ k, t = k + 1 := ⟨t - 1, by omega⟩
          rw [show (((k + 1 : Nat) : Int) - 1) = (k : Int) by omega]
          have hko : k ≤ o := by omega
          have n0 := hst.node.cell (i := 0) rfl
          have n1 := hst.node.cell (i := 1) rfl
          have n2 := hst.node.cell (i := 2) rfl
          have hcall := IH.out (d + 1) (j + k) (2 * (o - k)) H1 wq hst.tab hst.good (by have := HB.out; omega) (by omega) (by omega) (by have := HB.out; omega)
          rw [show ((d + 1 : Nat) : Int) = (d : Int) + 1 by omega, show ((j + k : Nat) : Int) = (j : Int) + (k : Int) by omega, show ((2 * (o - k) : Nat) : Int) = 2 * ((o : Int) - (k : Int)) by omega] at hcall
          obtain ⟨Y, hY⟩ : ∃ Y, Y = mres r (g.drop (j + k)) (2 * (o - k)) := ⟨_, rfl⟩
          obtain ⟨y1, y2, y3, y4⟩ := Y
          have hYb := mres_le (HGs.out.drop (j + k)) r (2 * (o - k)) (by omega) (by have := HB.out; omega)
          unfold FromE at hcall
          rw [← hY] at hcall hYb
          simp only [bstV] at hcall hYb
          obtain ⟨hy0, hy1, _, _⟩ := hYb
          have hYc : (y3 = false ∧ c k = none) ∨ (y3 = true ∧ c k = some y1) := by
            rw [HC.out]
            cases hdp : dp r ((g.drop j).drop k) (2 * (o - k)) with
            | none =>
              have h1 := cand_none hdp
              rw [List.drop_drop] at hdp
              have h2 := mres_none hdp
              rw [← hY] at h2
              exact .inl ⟨h2.1, h1⟩
            | some z =>
              have h1 := cand_some hdp
              rw [List.drop_drop] at hdp h1
              have h2 := mres_some hdp
              rw [← hY] at h2
              simp only at h2
              exact .inr ⟨h2.1, by rw [h1, h2.2]⟩
          have HCall := kept hcall
          have HS1 := kept hst
          have HRun := kept hrun
          clear hcall hst hrun hY ht0
          rcases hYc with ⟨rfl, hck⟩ | ⟨rfl, hck⟩
          · have HCk := kept hck
            have HAcc := kept hacc
            clear hck hacc
            go_wp2_with (first | (go_at_call 22; refine HCall.out.mono ?_; rintro e w2 ⟨rfl, H2, hT2, hG2, hC2⟩; have HS2 := kept (HS1.out.told hT2 hG2 hC2); clear hT2 hG2 hC2))
            obtain ⟨q9, hq9⟩ : ∃ q9, q9 = w2.heap.size := ⟨_, rfl⟩
            rw [← hq9]
            generalize hw3 : World.alloc w2 _ = w3
            have HS3 : Kept (StF w w3 d j o q (accV S a) p (.slice (some ⟨gs, 0, none⟩) n cs) (.slice (some ⟨gh, 0, none⟩) N ch) lim g H2 ∧ Blk w3 q9 #[.int .i64 y1, .int .i64 y2, .bool false, .bool y4] 57) := kept (by rw [← hw3]; exact ⟨HS2.out.later ((Below.refl _ _).alloc (Nat.le_refl _) _), Blk.fresh_at _ _ hq9 _ _⟩)
            clear hw3 hq9 HS2
            have l0 := lat_cell (HS3.out.2.cell (i := 0) rfl)
            have l1 := lat_cell (HS3.out.1.tab.blk.cell (i := 0) rfl)
            have l2 := lat_cell (HS3.out.1.node.cell (i := 1) rfl)
            have l3 := lat_cell (HSum.out _ _ HS3.out.1.tab)
            refine wp_region_quietL (by kernel_rfl) (by kernel_rfl) ?_
            repeat (go_big_quiet_step (fail))
            refine wpQuiet_nil ?_
            intro nq
            have HS4' := kept (And.intro (HS3.out.1.later nq.below) (lat_block HS3.out.2 nq))
            generalize nq.w = w4' at HS4' ⊢
            clear l0 l1 l2 l3 HS3
            have c9 := Blk.cell HS4'.out.2 (i := 2) rfl
            go_wp2_with fail
            go_roundw
            case rel => exact ⟨k, a, H2, by omega, by go_num, by have := HRun.out; rw [show Dp.run c a (k + 1) = Dp.run c (upd a (c k) k) k from rfl, HCk.out] at this; exact this, HAcc.out, HS4'.out.1⟩
            case measure => simp [intOf]
          · have HCk := kept hck
            clear hck
            cases a with
            | none =>
              go_wp2_with (first | (go_at_call 22; refine HCall.out.mono ?_; rintro e w2 ⟨rfl, H2, hT2, hG2, hC2⟩; have HS2 := kept (HS1.out.told hT2 hG2 hC2); clear hT2 hG2 hC2))
              obtain ⟨q9, hq9⟩ : ∃ q9, q9 = w2.heap.size := ⟨_, rfl⟩
              rw [← hq9]
              generalize hw3 : World.alloc w2 _ = w3
              have HS3 : Kept (StF w w3 d j o q (accV S none) p (.slice (some ⟨gs, 0, none⟩) n cs) (.slice (some ⟨gh, 0, none⟩) N ch) lim g H2 ∧ Blk w3 q9 #[.int .i64 y1, .int .i64 y2, .bool true, .bool y4] 57) := kept (by rw [← hw3]; exact ⟨HS2.out.later ((Below.refl _ _).alloc (Nat.le_refl _) _), Blk.fresh_at _ _ hq9 _ _⟩)
              clear hw3 hq9 HS2
              have l0 := lat_cell (HS3.out.2.cell (i := 0) rfl)
              have l1 := lat_cell (HS3.out.1.tab.blk.cell (i := 0) rfl)
              have l2 := lat_cell (HS3.out.1.node.cell (i := 1) rfl)
              have l3 := lat_cell (HSum.out _ _ HS3.out.1.tab)
              refine wp_region_quietL (by kernel_rfl) (by kernel_rfl) ?_
              repeat (go_big_quiet_step (fail))
              refine wpQuiet_nil ?_
              intro nq
              have HS4' := kept (And.intro (HS3.out.1.later nq.below) (lat_block HS3.out.2 nq))
              generalize nq.w = w4' at HS4' ⊢
              clear l0 l1 l2 l3 HS3
              have c9 := Blk.cell HS4'.out.2 (i := 2) rfl
              have r0 : w4'.cell? ⟨q, 0, none⟩ = some (.int .i64 0) := Blk.cell HS4'.out.1.out (i := 0) rfl
              have r1 : w4'.cell? ⟨q, 1, none⟩ = some (.int .i64 0) := Blk.cell HS4'.out.1.out (i := 1) rfl
              have r2 : w4'.cell? ⟨q, 2, none⟩ = some (.bool false) := Blk.cell HS4'.out.1.out (i := 2) rfl
              have r3 : w4'.cell? ⟨q, 3, none⟩ = some (.bool true) := Blk.cell HS4'.out.1.out (i := 3) rfl
              have f0 := HS4'.out.1.out.free 0
              have f1 := HS4'.out.1.out.free 1
              have f2 := HS4'.out.1.out.free 2
              have f3 := HS4'.out.1.out.free 3
              go_wp2_with fail
              go_roundw
              case rel => exact ⟨k, some (y1, k), H2, by omega, by go_num, by have := HRun.out; rw [show Dp.run c none (k + 1) = Dp.run c (upd none (c k) k) k from rfl, HCk.out] at this; exact this, ⟨hy0, hy1, hko⟩, HS4'.out.1.setOut (y1 + S, (k : Int), true, true)⟩
              case measure => simp [intOf]
            | some am =>
              obtain ⟨y, mm⟩ := am
              obtain ⟨ha0, ha1, ha2⟩ := hacc
              have HAcc := kept (show AccOk o (some (y, mm)) from ⟨ha0, ha1, ha2⟩)
              by_cases hlt : y1 < y
              · have t5 : decide (y1 < y) = true := decide_eq_true hlt
                have t6 : decide (y1 + S < y + S) = true := decide_eq_true (by omega)
                have HLt := kept hlt
                go_wp2_with (first | (go_at_call 22; refine HCall.out.mono ?_; rintro e w2 ⟨rfl, H2, hT2, hG2, hC2⟩; have HS2 := kept (HS1.out.told hT2 hG2 hC2); clear hT2 hG2 hC2))
                obtain ⟨q9, hq9⟩ : ∃ q9, q9 = w2.heap.size := ⟨_, rfl⟩
                rw [← hq9]
                generalize hw3 : World.alloc w2 _ = w3
                have HS3 : Kept (StF w w3 d j o q (accV S (some (y, mm))) p (.slice (some ⟨gs, 0, none⟩) n cs) (.slice (some ⟨gh, 0, none⟩) N ch) lim g H2 ∧ Blk w3 q9 #[.int .i64 y1, .int .i64 y2, .bool true, .bool y4] 57) := kept (by rw [← hw3]; exact ⟨HS2.out.later ((Below.refl _ _).alloc (Nat.le_refl _) _), Blk.fresh_at _ _ hq9 _ _⟩)
                clear hw3 hq9 HS2
                have l0 := lat_cell (HS3.out.2.cell (i := 0) rfl)
                have l1 := lat_cell (HS3.out.1.tab.blk.cell (i := 0) rfl)
                have l2 := lat_cell (HS3.out.1.node.cell (i := 1) rfl)
                have l3 := lat_cell (HSum.out _ _ HS3.out.1.tab)
                refine wp_region_quietL (by kernel_rfl) (by kernel_rfl) ?_
                repeat (go_big_quiet_step (fail))
                refine wpQuiet_nil ?_
                intro nq
                have HS4' := kept (And.intro (HS3.out.1.later nq.below) (lat_block HS3.out.2 nq))
                generalize nq.w = w4' at HS4' ⊢
                clear l0 l1 l2 l3 HS3
                have c9 := Blk.cell HS4'.out.2 (i := 2) rfl
                have r0 : w4'.cell? ⟨q, 0, none⟩ = some (.int .i64 (y + S)) := Blk.cell HS4'.out.1.out (i := 0) rfl
                have r1 : w4'.cell? ⟨q, 1, none⟩ = some (.int .i64 (mm : Int)) := Blk.cell HS4'.out.1.out (i := 1) rfl
                have r2 : w4'.cell? ⟨q, 2, none⟩ = some (.bool true) := Blk.cell HS4'.out.1.out (i := 2) rfl
                have r3 : w4'.cell? ⟨q, 3, none⟩ = some (.bool true) := Blk.cell HS4'.out.1.out (i := 3) rfl
                have f0 := HS4'.out.1.out.free 0
                have f1 := HS4'.out.1.out.free 1
                have f2 := HS4'.out.1.out.free 2
                have f3 := HS4'.out.1.out.free 3
                go_wp2_with fail
                go_roundw
                case rel => exact ⟨k, some (y1, k), H2, by omega, by go_num, by have := HRun.out; rw [show Dp.run c (some (y, mm)) (k + 1) = Dp.run c (upd (some (y, mm)) (c k) k) k from rfl, HCk.out] at this; simp only [upd] at this; rw [if_pos HLt.out] at this; exact this, ⟨hy0, hy1, hko⟩, HS4'.out.1.setOut (y1 + S, (k : Int), true, true)⟩
                case measure => simp [intOf]
              · have t5 : decide (y1 < y) = false := decide_eq_false hlt
                have t6 : decide (y1 + S < y + S) = false := decide_eq_false (by omega)
                have HLt := kept hlt
                go_wp2_with (first | (go_at_call 22; refine HCall.out.mono ?_; rintro e w2 ⟨rfl, H2, hT2, hG2, hC2⟩; have HS2 := kept (HS1.out.told hT2 hG2 hC2); clear hT2 hG2 hC2))
                obtain ⟨q9, hq9⟩ : ∃ q9, q9 = w2.heap.size := ⟨_, rfl⟩
                rw [← hq9]
                generalize hw3 : World.alloc w2 _ = w3
                have HS3 : Kept (StF w w3 d j o q (accV S (some (y, mm))) p (.slice (some ⟨gs, 0, none⟩) n cs) (.slice (some ⟨gh, 0, none⟩) N ch) lim g H2 ∧ Blk w3 q9 #[.int .i64 y1, .int .i64 y2, .bool true, .bool y4] 57) := kept (by rw [← hw3]; exact ⟨HS2.out.later ((Below.refl _ _).alloc (Nat.le_refl _) _), Blk.fresh_at _ _ hq9 _ _⟩)
                clear hw3 hq9 HS2
                have l0 := lat_cell (HS3.out.2.cell (i := 0) rfl)
                have l1 := lat_cell (HS3.out.1.tab.blk.cell (i := 0) rfl)
                have l2 := lat_cell (HS3.out.1.node.cell (i := 1) rfl)
                have l3 := lat_cell (HSum.out _ _ HS3.out.1.tab)
                refine wp_region_quietL (by kernel_rfl) (by kernel_rfl) ?_
                repeat (go_big_quiet_step (fail))
                refine wpQuiet_nil ?_
                intro nq
                have HS4' := kept (And.intro (HS3.out.1.later nq.below) (lat_block HS3.out.2 nq))
                generalize nq.w = w4' at HS4' ⊢
                clear l0 l1 l2 l3 HS3
                have c9 := Blk.cell HS4'.out.2 (i := 2) rfl
                have r0 : w4'.cell? ⟨q, 0, none⟩ = some (.int .i64 (y + S)) := Blk.cell HS4'.out.1.out (i := 0) rfl
                have r1 : w4'.cell? ⟨q, 1, none⟩ = some (.int .i64 (mm : Int)) := Blk.cell HS4'.out.1.out (i := 1) rfl
                have r2 : w4'.cell? ⟨q, 2, none⟩ = some (.bool true) := Blk.cell HS4'.out.1.out (i := 2) rfl
                have r3 : w4'.cell? ⟨q, 3, none⟩ = some (.bool true) := Blk.cell HS4'.out.1.out (i := 3) rfl
                go_wp2_with fail
                go_roundw
                case rel => exact ⟨k, some (y, mm), H2, by omega, by go_num, by have := HRun.out; rw [show Dp.run c (some (y, mm)) (k + 1) = Dp.run c (upd (some (y, mm)) (c k) k) k from rfl, HCk.out] at this; simp only [upd] at this; rw [if_neg (by have := HLt.out; omega)] at this; exact this, HAcc.out, HS4'.out.1⟩
                case measure => simp [intOf]
        · have ht : t = 0 := by omega
          subst ht
          rw [show (((0 : Nat) : Int) - 1) = -1 from rfl]
          have hae : a = best c o := hrun
          obtain ⟨Z, hZ⟩ : ∃ Z, Z = accV S a := ⟨_, rfl⟩
          obtain ⟨z1, z2, z3, z4⟩ := Z
          rw [← hZ] at hst
          have HRZ : Kept (mres (r + 1) (g.drop j) o = (z1, z2, z3, z4)) := kept (by rw [HR.out, hZ, hae])
          have hmH := HHm.out H1 hst.good
          have hset := hst.good.set (d := d) (j := j) (o := o) (by have := HB.out; omega) (by have := HB.out; omega) (by have := HB.out; omega)
          rw [show g.length + 1 = n from HN.out.symm, ← HM.out, show lim + 1 - d = r + 1 by have := HB.out; omega, HRZ.out] at hset
          have hheld := fun x (hx : Below wq.heap.size wq x) => (hst.later hx).cells
          have hhad := fun x (hx : Below wq.heap.size wq x) => (hst.later hx).hadAt hmH
          have hput := fun x (hx : Below wq.heap.size wq x) => ((hst.later hx).put m hmH hset)
          have hat : ∀ x : World, Below wq.heap.size wq x → Calls Try.prog 31 #[.pointer (some ⟨p, 0, none⟩), .agg #[.int .i64 (d : Int), .int .i64 (j : Int), .int .i64 (o : Int)]] x fun e x' => e = .returned (.int .i64 (m : Int)) ∧ Below x.heap.size x x' := fun x hx => by
            have := at_calls p _ _ lim g H1 d j o n x (hst.later hx).tab HN.out (by omega) hd100 (by omega) (by omega)
            rw [← HM.out] at this; exact this
          obtain ⟨U, hU⟩ : ∃ U, U = H1.getD m (0, 0, false, false) := ⟨_, rfl⟩
          rw [← hU] at hhad
          obtain ⟨u1, u2, u3, u4⟩ := U
          have HAt := kept hat
          have HHeld := kept hheld
          have HHad := kept hhad
          have HPut := kept hput
          clear hst hmH hat hheld hhad hput hU hZ hae hrun hacc ht0 hset
          go_wp2_with fail
          go_region_held3 (fun w' => w'.cell? ⟨p, 2, none⟩ = some (.slice (some ⟨gh, 0, none⟩) N ch) ∧ w'.cell? ⟨w.heap.size, 0, none⟩ = some (.int .i64 (d : Int)) ∧ w'.cell? ⟨w.heap.size, 1, none⟩ = some (.int .i64 (j : Int)) ∧ w'.cell? ⟨w.heap.size, 2, none⟩ = some (.int .i64 (o : Int)) ∧
            w'.cell? ⟨q, 0, none⟩ = some (.int .i64 z1) ∧ w'.cell? ⟨q, 1, none⟩ = some (.int .i64 z2) ∧ w'.cell? ⟨q, 2, none⟩ = some (.bool z3) ∧ w'.cell? ⟨q, 3, none⟩ = some (.bool z4))
            ((first | exact HHeld.out _ (Below.refl _ _).drew | exact S7 | exact S9))
            ((go_at_call 31; refine (HAt.out _ (Below.refl _ _).drew).mono ?_; rintro e w7 ⟨rfl, hb7⟩; have HB7 := kept ((Below.refl wq.heap.size wq).drew.trans hb7); have S7 := HHeld.out _ HB7.out; have S9 := (HPut.out _ HB7.out).cells; obtain ⟨⟨k0, k1, k2, k3⟩, f0, f1, f2, f3⟩ := HHad.out _ HB7.out))
          have HP := HPut.out _ HB7.out
          have r0 := HP.res.cell (i := 0) rfl
          have r1 := HP.res.cell (i := 1) rfl
          have r2 := HP.res.cell (i := 2) rfl
          have r3 := HP.res.cell (i := 3) rfl
          have g0 := HP.res.free 0
          have g1 := HP.res.free 1
          have g2 := HP.res.free 2
          have g3 := HP.res.free 3
          have HE2 := kept HP.ret
          have HGd := kept HP.good
          clear HP
          go_wp2_with fail
          exact bodyPost_ret (results_cell_row rfl _ _ (w.heap.size + 1) 57 #[.int .i64 z1, .int .i64 z2, .bool z3, .bool z4] (0, 0) _ rfl HE2.out.1 Try.underlying57 rfl (by kernel_rfl)) rfl ⟨by rw [HRZ.out]; rfl, _, HE2.out.2.1, HGd.out, HE2.out.2.2⟩
end Go.Proofs.Ytejecpmfhgplmaa

-- ---- Mj
/- merge.may: whether frequencies and a limit may be. Conditions: the list reads as the argument does. -/
namespace Go.Proofs.Ytejecpmfhgplmaa
set_option linter.unusedSimpArgs false
set_option linter.unusedVariables false
open Go.RowKit Mix _root_.Go.Proofs.Ytejecpmfhgplmaa.Own Dp Ol

/-- No frequency. -/
def badF (x : Int) : Bool := decide (x < 0) || decide (16777216 < x)
theorem may1_calls (x : Int) (w : World) : Calls Try.prog 26 #[.int .i64 x] w fun e w' => e = .returned (.bool (badF x)) ∧ w = w' := by
  by_cases h1 : x < 0
  · have t1 : decide (x < 0) = true := decide_eq_true h1
    have HB := kept (show badF x = true by unfold badF; rw [t1]; rfl)
    go_enter Try.func26, Try.ntmps26
    go_wp2_with fail
    go_ret
    exact ⟨by rw [HB.out]; rfl, rfl⟩
  · have t1 : decide (x < 0) = false := decide_eq_false h1
    by_cases h2 : 16777216 < x
    · have t2 : decide (16777216 < x) = true := decide_eq_true h2
      have HB := kept (show badF x = true by unfold badF; rw [t1, t2]; rfl)
      go_enter Try.func26, Try.ntmps26
      go_wp2_with fail
      go_ret
      exact ⟨by rw [HB.out]; rfl, rfl⟩
    · have t2 : decide (16777216 < x) = false := decide_eq_false h2
      have HB := kept (show badF x = false by unfold badF; rw [t1, t2]; rfl)
      go_enter Try.func26, Try.ntmps26
      go_wp2_with fail
      go_ret
      exact ⟨by rw [HB.out]; rfl, rfl⟩

/-- Whether one of them is bad, as an index. -/
def IdxE (l : List Int) (w : World) (e : Ending) (w' : World) : Prop := (∃ r : Int, e = .returned (.int .i64 r) ∧ decide (0 ≤ r) = l.any badF) ∧ w = w'
set_option maxHeartbeats 2000000 in
theorem idxf_calls (A0 : Option Addr) (n0 c0 : Nat) (l0 : List Int) (w : World) (hR : Rd w (.slice A0 n0 n0) (ints .i64 l0)) (hn : n0 < 200000000000000) :
    Calls Try.prog 33 #[.slice A0 n0 c0, .func (.func 26) #[] #[]] w (IdxE l0 w) := by
  have hl : l0.length = n0 := by have := hR.length; rw [length_ints] at this; exact this.symm
  have HR := kept hR
  have HL := kept hl
  clear hR hl
  go_enter Try.func33, Try.ntmps33
  go_wp2_with fail
  go_loop [8] (fun s8 => ∃ i : Nat, i ≤ n0 ∧ s8 = .int .i64 (i : Int) ∧ ∀ j, j < i → badF (l0.getD j 0) = false) (fun s8 => n0 - (intOf s8).toNat)
  case atStart => exact ⟨0, Nat.zero_le _, rfl, fun j h => by omega⟩
  case round =>
    obtain ⟨i, hi, rfl, hall⟩ := hrel
    have HAll := kept hall
    clear hall
    by_cases hlt : i < n0
    · obtain ⟨x, rfl, hc⟩ := HR.out.at (Own.ints_at .i64 l0 i (by rw [HL.out]; exact hlt))
      obtain ⟨y, hy⟩ : ∃ y, y = l0.getD i 0 := ⟨_, rfl⟩
      rw [← hy] at hc
      cases hb : badF y with
      | true =>
        have HY := kept hy
        have HB := kept hb
        clear hy hb
        go_wp2_with (first | (go_at_call 26; refine (may1_calls y _).mono ?_; rw [HB.out]; rintro e w1 ⟨rfl, rfl⟩))
        go_ret
        refine ⟨⟨_, rfl, ?_⟩, rfl⟩
        have h1 : l0.any badF = true := List.any_eq_true.2 ⟨y, by rw [HY.out]; have : i < l0.length := by rw [HL.out]; exact hlt
                                                                  simp [List.getD_eq_getElem?_getD, this], HB.out⟩
        rw [h1]; exact decide_eq_true (by omega)
      | false =>
        have HY := kept hy
        have HB := kept hb
        clear hy hb
        go_wp2_with (first | (go_at_call 26; refine (may1_calls y _).mono ?_; rw [HB.out]; rintro e w1 ⟨rfl, rfl⟩))
        go_round
        case rel => exact ⟨i + 1, by omega, by go_num, fun j hj => by
          by_cases e : j = i
          · rw [e, ← HY.out]; exact HB.out
          · exact HAll.out j (by omega)⟩
        case measure => simp [intOf]; omega
    · have hie : i = n0 := by omega
      subst hie
      go_wp2_with fail
      go_ret
      refine ⟨⟨_, rfl, ?_⟩, rfl⟩
      have h1 : l0.any badF = false := by
        rw [Bool.eq_false_iff]
        intro h
        obtain ⟨y, hy, hb⟩ := List.any_eq_true.1 h
        obtain ⟨j, hj, e⟩ := List.getElem_of_mem hy
        have := HAll.out j (by rw [← HL.out]; exact hj)
        rw [show l0.getD j 0 = y by simp [List.getD_eq_getElem?_getD, hj, e]] at this
        rw [this] at hb; cases hb
      rw [h1]; rfl

theorem contf_calls (A0 : Option Addr) (n0 c0 : Nat) (l0 : List Int) (w : World) (hR : Rd w (.slice A0 n0 n0) (ints .i64 l0)) (hn : n0 < 200000000000000) :
    Calls Try.prog 25 #[.slice A0 n0 c0, .func (.func 26) #[] #[]] w fun e w' => e = .returned (.bool (l0.any badF)) ∧ w = w' := by
  have HC := kept (idxf_calls A0 n0 c0 l0 w hR hn)
  clear hR
  go_enter Try.func25, Try.ntmps25
  go_wp2_with (first | (go_at_call 33; refine HC.out.mono ?_; rintro e w1 ⟨⟨r, rfl, hr⟩, rfl⟩; have HRr := kept hr; clear hr))
  go_ret
  exact ⟨by rw [HRr.out]; rfl, rfl⟩

set_option maxHeartbeats 2000000 in
theorem mmay_calls (A0 : Option Addr) (n0 c0 : Nat) (l0 : List Int) (a1 : Int) (w : World) (hR : Rd w (.slice A0 n0 n0) (ints .i64 l0)) (hn : n0 < 200000000000000) :
    Calls Try.prog 19 #[.slice A0 n0 c0, .int .i64 a1] w fun e w' => e = .returned (.bool (fqB l0 a1)) ∧ w = w' := by
  have hl : l0.length = n0 := by have := hR.length; rw [length_ints] at this; exact this.symm
  have hbad : l0.any badF = false ↔ ∀ x ∈ l0, 0 ≤ x ∧ x ≤ 16777216 := by
    rw [Bool.eq_false_iff, Ne, List.any_eq_true]
    constructor
    · intro h x hx
      have h2 : badF x ≠ true := fun e => h ⟨x, hx, e⟩
      unfold badF at h2
      simp at h2
      omega
    · rintro h ⟨x, hx, hb⟩
      have := h x hx
      unfold badF at hb
      simp at hb
      omega
  have hq : fqB l0 a1 = (decide (n0 = 65) && !(l0.any badF) && decide (7 ≤ a1) && decide (a1 ≤ 15)) := by
    unfold fqB
    rw [Bool.eq_iff_iff]
    simp only [decide_eq_true_eq, Bool.and_eq_true, Bool.not_eq_true', hbad, hl]
    constructor
    · rintro ⟨h1, h2, h3, h4⟩; exact ⟨⟨⟨h1, h4⟩, h2⟩, h3⟩
    · rintro ⟨⟨⟨h1, h4⟩, h2⟩, h3⟩; exact ⟨h1, h2, h3, h4⟩
  have HC := kept (contf_calls A0 n0 c0 l0 w hR hn)
  have HQ := kept hq
  clear hR hl hbad hq
  obtain ⟨b, hb⟩ : ∃ b, b = l0.any badF := ⟨_, rfl⟩
  rw [← hb] at HC HQ
  clear hb
  by_cases h65 : n0 = 65
  · subst h65
    cases b with
    | true =>
      have HE := kept (show fqB l0 a1 = false by rw [HQ.out]; rfl)
      go_enter Try.func19, Try.ntmps19
      go_wp2_with (first | (go_at_call 25; refine HC.out.mono ?_; rintro e w1 ⟨rfl, rfl⟩))
      go_ret
      exact ⟨by rw [HE.out]; rfl, rfl⟩
    | false =>
      by_cases h7 : 7 ≤ a1
      · have t7 : decide (7 ≤ a1) = true := decide_eq_true h7
        by_cases h15 : a1 ≤ 15
        · have t15 : decide (a1 ≤ 15) = true := decide_eq_true h15
          have HE := kept (show fqB l0 a1 = true by rw [HQ.out, t7, t15]; rfl)
          go_enter Try.func19, Try.ntmps19
          go_wp2_with (first | (go_at_call 25; refine HC.out.mono ?_; rintro e w1 ⟨rfl, rfl⟩))
          go_ret
          exact ⟨by rw [HE.out]; rfl, rfl⟩
        · have t15 : decide (a1 ≤ 15) = false := decide_eq_false h15
          have HE := kept (show fqB l0 a1 = false by rw [HQ.out, t7, t15]; rfl)
          go_enter Try.func19, Try.ntmps19
          go_wp2_with (first | (go_at_call 25; refine HC.out.mono ?_; rintro e w1 ⟨rfl, rfl⟩))
          go_ret
          exact ⟨by rw [HE.out]; rfl, rfl⟩
      · have t7 : decide (7 ≤ a1) = false := decide_eq_false h7
        have HE := kept (show fqB l0 a1 = false by rw [HQ.out, t7]; rfl)
        go_enter Try.func19, Try.ntmps19
        go_wp2_with (first | (go_at_call 25; refine HC.out.mono ?_; rintro e w1 ⟨rfl, rfl⟩))
        go_ret
        exact ⟨by rw [HE.out]; rfl, rfl⟩
  · have t65 : ((n0 : Int) == 65) = false := by rw [beq_eq_false_iff_ne]; omega
    have HE := kept (show fqB l0 a1 = false by rw [HQ.out, decide_eq_false h65]; rfl)
    clear h65
    go_enter Try.func19, Try.ntmps19
    go_wp2_with (first | (go_at_call 25; refine HC.out.mono ?_; rintro e w1 ⟨rfl, rfl⟩))
    go_ret
    exact ⟨by rw [HE.out]; rfl, rfl⟩
end Go.Proofs.Ytejecpmfhgplmaa

-- ---- Rf
/- wringerref7.Lengths: the memory on the way. Conditions: those that each theorem names. -/
namespace Go.Proofs.Ytejecpmfhgplmaa
set_option linter.unusedSimpArgs false
set_option linter.unusedVariables false
open Go.RowKit Mix _root_.Go.Proofs.Ytejecpmfhgplmaa.Own Dp Ol

/-- On the way: the result's block, the lengths at g, the order at g7, the maker at p with its rows. -/
structure StB (B : Nat) (w wr : World) (g g7 c7 : Nat) (l : List Int) (m p : Nat) (vf vk vs : Value) (xs F K S : List Int) : Prop where
  res : Blk wr B #[.slice none 0 0, .int .i64 0] 28
  low : Below B w wr
  pB : B ≤ p
  blk : Blk wr p #[vf, .int .i64 (m : Int), vk, vs] 61
  many : Many B wr 3 [(.slice (some ⟨g, 0, none⟩) 65 65, ints .i64 xs), (.slice (some ⟨g7, 0, none⟩) (ordL l).length c7, idx (ordL l)), (vk, ints .i64 K), (vs, ints .i64 S), (vf, ints .i64 F)]

section
variable {B : Nat} {w wr : World} {g g7 c7 : Nat} {l : List Int} {m p : Nat} {vf vk vs : Value} {xs F K S : List Int}
theorem StB.sz (h : StB B w wr g g7 c7 l m p vf vk vs xs F K S) : B ≤ wr.heap.size := Nat.le_of_lt h.res.lt
theorem StB.later {w' : World} (h : StB B w wr g g7 c7 l m p vf vk vs xs F K S) (hb : Below wr.heap.size wr w') : StB B w w' g g7 c7 l m p vf vk vs xs F K S :=
  ⟨(hb.block B h.res.lt).trans h.res, h.low.trans (hb.mono h.sz), h.pB, (hb.block p h.blk.lt).trans h.blk, h.many.later hb⟩
theorem StB.out (h : StB B w wr g g7 c7 l m p vf vk vs xs F K S) : Owns wr 3 (.slice (some ⟨g, 0, none⟩) 65 65) (ints .i64 xs) := h.many.own 0 _ _ rfl
theorem StB.ord (h : StB B w wr g g7 c7 l m p vf vk vs xs F K S) : Owns wr 3 (.slice (some ⟨g7, 0, none⟩) (ordL l).length c7) (idx (ordL l)) := h.many.own 1 _ _ rfl
theorem StB.ordAt (h : StB B w wr g g7 c7 l m p vf vk vs xs F K S) (i : Nat) (hi : i < (ordL l).length) : wr.cell? ⟨g7, i, none⟩ = some (.int .i64 (((ordL l).getD i 0 : Nat) : Int)) := h.ord.cell (idx_at _ i hi)
theorem StB.storeOut (h : StB B w wr g g7 c7 l m p vf vk vs xs F K S) (j : Nat) (v : Int) : StB B w (wr.setCell ⟨g, j, none⟩ (.int .i64 v)) g g7 c7 l m p vf vk vs (xs.set j v) F K S := by
  have hc : Chg (fun k => some k = (Value.slice (some ⟨g, 0, none⟩) 65 65).ownBlock) wr (wr.setCell ⟨g, j, none⟩ (.int .i64 v)) := (Chg.setCell wr ⟨g, j, none⟩ (.int .i64 v)).mono fun k _ hk => by rw [hk]; rfl
  refine ⟨h.many.other 0 rfl hc h.res (by decide), h.low.trans (h.many.below 0 rfl hc h.sz), h.pB, h.many.other 0 rfl hc h.blk (by decide), ?_⟩
  have := h.many.store 0 rfl j (.int .i64 v) h.sz
  rw [← ints_set] at this; exact this
theorem StB.tab (h : StB B w wr g g7 c7 l m p vf vk vs xs F K (sums F)) (hK : KGood m F K) : Tab wr p vf vk vs m F K :=
  ⟨h.blk, h.many.own 4 _ _ rfl, h.many.own 2 _ _ rfl, h.many.own 3 _ _ rfl, fun b hb => h.many.sep 2 4 _ _ _ _ (by decide) rfl rfl b hb, fun b hb => h.many.sep 2 3 _ _ _ _ (by decide) rfl rfl b hb, hK⟩
theorem StB.costed {w' : World} {K' : List Int} (h : StB B w wr g g7 c7 l m p vf vk vs xs F K (sums F)) (hT : Tab w' p vf vk vs m F K') (hc : Chg (fun b => some b = vk.ownBlock) wr w') : StB B w w' g g7 c7 l m p vf vk vs xs F K' (sums F) :=
  ⟨h.many.other 2 rfl hc h.res (by decide), h.low.trans (h.many.below 2 rfl hc h.sz), h.pB, hT.blk, h.many.set 2 rfl hc hT.rk (fun b hb => .inl hb.symm) h.sz⟩
/-- A number behind the frequencies, and the field laid anew. -/
theorem StB.push {w' : World} {v2 : Value} {x : Int} (h : StB B w wr g g7 c7 l m p vf vk vs xs F K S) (ho : Owns w' 3 v2 (ints .i64 (F ++ [x]))) (hc : Chg (fun b => some b = vf.ownBlock) wr w') (hn : ∀ b, v2.ownBlock = some b → some b = vf.ownBlock ∨ wr.heap.size ≤ b) :
    StB B w (w'.setCell ⟨p, 0, none⟩ v2) g g7 c7 l m p v2 vk vs xs (F ++ [x]) K S ∧ w'.frozen? ⟨p, 0, none⟩ = false ∧ w'.cell? ⟨p, 0, none⟩ = some vf := by
  have h1 := h.many.set 4 rfl hc ho hn h.sz
  have hb : Blk w' p #[vf, .int .i64 (m : Int), vk, vs] 61 := h.many.other 4 rfl hc h.blk (by decide)
  have hr : Blk w' B #[.slice none 0 0, .int .i64 0] 28 := h.many.other 4 rfl hc h.res (by decide)
  have hl := h.low.trans (h.many.below 4 rfl hc h.sz)
  exact ⟨⟨hr.setOther (hr.ne hb (by decide)) _, hl.setCell h.pB _, h.pB, hb.set 0 _, h1.setBlk hb (by decide) 0 v2⟩, hb.free 0, hb.cell rfl⟩
theorem StB.storeSum {gs cs n : Nat} (h : StB B w wr g g7 c7 l m p vf vk (.slice (some ⟨gs, 0, none⟩) n cs) xs F K S) (j : Nat) (v : Int) : StB B w (wr.setCell ⟨gs, j, none⟩ (.int .i64 v)) g g7 c7 l m p vf vk (.slice (some ⟨gs, 0, none⟩) n cs) xs F K (S.set j v) := by
  have hc : Chg (fun k => some k = (Value.slice (some ⟨gs, 0, none⟩) n cs).ownBlock) wr (wr.setCell ⟨gs, j, none⟩ (.int .i64 v)) := (Chg.setCell wr ⟨gs, j, none⟩ (.int .i64 v)).mono fun k _ hk => by rw [hk]; rfl
  refine ⟨h.many.other 3 rfl hc h.res (by decide), h.low.trans (h.many.below 3 rfl hc h.sz), h.pB, h.many.other 3 rfl hc h.blk (by decide), ?_⟩
  have := h.many.store 3 rfl j (.int .i64 v) h.sz
  rw [← ints_set] at this; exact this
end

theorem Own.Many.sub {B : Nat} {w : World} {e : TypeId} {R R' : List (Value × List Value)} (h : Many B w e R) (f : Nat → Nat) (h1 : ∀ i, i < R'.length → R[f i]? = R'[i]?) (h2 : ∀ i j, i < R'.length → j < R'.length → f i = f j → i = j) : Many B w e R' := by
  have lt : ∀ (i : Nat) r, R'[i]? = some r → i < R'.length := fun i r hi => (List.getElem?_eq_some_iff.1 hi).1
  exact ⟨fun i v xs hi => h.own (f i) v xs (by rw [h1 i (lt i _ hi)]; exact hi), fun i v xs hi => h.new (f i) v xs (by rw [h1 i (lt i _ hi)]; exact hi),
    fun i j a xs b ys hij hi hj => h.sep (f i) (f j) a xs b ys (fun e => hij (h2 i j (lt i _ hi) (lt j _ hj) e)) (by rw [h1 i (lt i _ hi)]; exact hi) (by rw [h1 j (lt j _ hj)]; exact hj)⟩
theorem Own.Many.swap {B : Nat} {w : World} {e : TypeId} {a b c d : Value × List Value} (h : Many B w e [a, b, c, d]) : Many B w e [a, b, d, c] := by
  refine h.sub (fun i => if i = 2 then 3 else if i = 3 then 2 else i) (fun i hi => ?_) (fun i j hi hj he => ?_)
  · have : i = 0 ∨ i = 1 ∨ i = 2 ∨ i = 3 := by simp at hi; omega
    rcases this with rfl | rfl | rfl | rfl <;> rfl
  · simp at hi hj he
    split at he <;> split at he <;> (try split at he) <;> (try split at he) <;> omega
/-- The maker is laid. -/
theorem StB.make {B : Nat} {w x : World} {g g7 c7 : Nat} {l : List Int} {m : Nat} {vk vs : Value} {xs K S : List Int} (h1 : Blk x B #[.slice none 0 0, .int .i64 0] 28) (h2 : Below B w x)
    (h3 : Many B x 3 [(.slice (some ⟨g, 0, none⟩) 65 65, ints .i64 xs), (.slice (some ⟨g7, 0, none⟩) (ordL l).length c7, idx (ordL l)), (vk, ints .i64 K), (vs, ints .i64 S)]) :
    StB B w (x.alloc (.cells #[.slice none 0 0, .int .i64 (m : Int), vk, vs] 61)) g g7 c7 l m x.heap.size (.slice none 0 0) vk vs xs [] K S := by
  have hb : Below x.heap.size x (x.alloc (.cells #[.slice none 0 0, .int .i64 (m : Int), vk, vs] 61)) := (Below.refl _ _).alloc (Nat.le_refl _) _
  refine ⟨(hb.block B h1.lt).trans h1, h2.trans (hb.mono (Nat.le_of_lt h1.lt)), Nat.le_of_lt h1.lt, Blk.fresh _ _ _, ?_⟩
  exact h3.add hb (Owns.nil _ _) (fun b hb => by simp [Value.ownBlock] at hb) (Nat.le_of_lt h1.lt)

/-- The sums from j on, noughts ahead of them. -/
def sumsN (F : List Int) (j : Nat) : List Int := (List.range (F.length + 1)).map fun i => if j ≤ i then (F.drop i).sum else 0
theorem length_sumsN (F : List Int) (j : Nat) : (sumsN F j).length = F.length + 1 := by simp [sumsN]
theorem sumsN_all (F : List Int) : sumsN F 0 = sums F := by unfold sumsN sums; exact List.map_congr_left fun i _ => by rw [if_pos (Nat.zero_le _)]
theorem sumsN_none (F : List Int) : sumsN F F.length = List.replicate (F.length + 1) 0 := by
  apply List.ext_getElem
  · simp [sumsN]
  · intro i h1 h2
    rw [length_sumsN] at h1
    simp only [sumsN, List.getElem_map, List.getElem_range, List.getElem_replicate]
    split
    · rw [List.drop_eq_nil_of_le (by omega)]; rfl
    · rfl
theorem sumsN_at (F : List Int) (j : Nat) (h : j ≤ F.length) : (sumsN F j).getD j 0 = (F.drop j).sum := by
  unfold sumsN; simp [List.getD_eq_getElem?_getD, show j < F.length + 1 by omega]
theorem sumsN_set (F : List Int) (j : Nat) (h : j + 1 ≤ F.length) : (sumsN F (j + 1)).set j ((F.drop (j + 1)).sum + F.getD j 0) = sumsN F j := by
  apply List.ext_getElem
  · simp [sumsN]
  · intro i h1 h2
    rw [length_sumsN] at h2
    rw [List.getElem_set]
    by_cases e : j = i
    · subst e
      rw [if_pos rfl]
      simp only [sumsN, List.getElem_map, List.getElem_range]
      rw [if_pos (Nat.le_refl _)]
      have e2 : F.drop j = F.getD j 0 :: F.drop (j + 1) := by rw [List.drop_eq_getElem_cons (by omega)]; simp [List.getD_eq_getElem?_getD, show j < F.length by omega]
      rw [e2, List.sum_cons]; omega
    · rw [if_neg e]
      simp only [sumsN, List.getElem_map, List.getElem_range]
      by_cases h3 : j ≤ i
      · rw [if_pos (by omega), if_pos h3]
      · rw [if_neg (by omega), if_neg h3]
theorem kgood_zero (m : Nat) (F : List Int) (hm : m ≤ 15) : KGood m F (List.replicate 166600 0) := by
  refine ⟨List.length_replicate, fun d j o h1 h2 h3 h4 => .inl ?_⟩
  rw [getD_rep]
/-- Which of the candidates is taken: the greatest that costs what is wanted. -/
theorem take_is {r o t : Nat} {g : List Int} {x : Int} (h : dp (r + 1) g o = some x) (hg : g ≠ []) (ht : t ≤ o) (h1 : ∀ k, t < k → k ≤ o → cand r g o k ≠ some x) (h2 : t = 0 ∨ cand r g o t = some x) : take r g o = t := by
  obtain ⟨ho1, ho2, _⟩ := dp_some h hg
  have hs := best_spec (cand r g o) o
  rw [dp_in hg ho1 ho2] at h
  unfold take
  cases hb : best (cand r g o) o with
  | none => rw [hb] at h; cases h
  | some q =>
    obtain ⟨y, k⟩ := q
    rw [hb] at h hs
    simp only [Option.map_some, Option.some.injEq] at h
    subst h
    obtain ⟨_, h3, h4, h5⟩ := hs
    show k = t
    rcases Nat.lt_trichotomy k t with h6 | h6 | h6
    · rcases h2 with h7 | h7
      · omega
      · have := (h5 t y (by omega) ht h7).2 h6; omega
    · exact h6
    · exact absurd h4 (h1 k h6 h3)
theorem scat_take (out : List Int) (cs ns : List Nat) (i : Nat) (h1 : i < cs.length) (h2 : i < ns.length) : scat out (cs.take (i + 1)) (ns.take (i + 1)) = (scat out (cs.take i) (ns.take i)).set (cs.getD i 0) ((ns.getD i 0 : Nat) : Int) := by
  have e1 : cs.take (i + 1) = cs.take i ++ [cs.getD i 0] := by rw [List.take_succ_eq_append_getElem h1]; simp [List.getD_eq_getElem?_getD, h1]
  have e2 : ns.take (i + 1) = ns.take i ++ [ns.getD i 0] := by rw [List.take_succ_eq_append_getElem h2]; simp [List.getD_eq_getElem?_getD, h2]
  rw [e1, e2]
  exact scat_snoc _ _ _ _ _ (by simp; omega)
end Go.Proofs.Ytejecpmfhgplmaa

-- ---- Rg
/- wringerref7.Lengths: what the call answers for what may be asked. Conditions: the list reads as the argument does. -/
namespace Go.Proofs.Ytejecpmfhgplmaa
set_option linter.unusedSimpArgs false
set_option linter.unusedVariables false
open Go.RowKit Mix _root_.Go.Proofs.Ytejecpmfhgplmaa.Own Dp Ol
attribute [local go_sem] Own.max_int Own.min_int

theorem sliceX {w : World} {v : Value} {l : List Nat} (h : Owns w 3 v (idx l)) : ∃ a c, v = .slice a l.length c ∧ (l ≠ [] → ∃ g, a = some ⟨g, 0, none⟩) := by
  obtain ⟨a, c, e, hr⟩ := h.slice
  refine ⟨a, c, by rw [e, length_idx], fun hl => hr fun e => hl ?_⟩
  have := congrArg List.length e
  rw [length_idx] at this
  exact List.length_eq_zero_iff.1 this
theorem Own.Many.rest {B : Nat} {w : World} {e : TypeId} {r : Value × List Value} {R : List (Value × List Value)} (h : Many B w e (r :: R)) : Many B w e [r] :=
  ⟨fun i v xs hi => by
    match i, hi with
    | 0, hi => exact h.own 0 v xs hi
    | i + 1, hi => simp at hi, fun i v xs hi => by
    match i, hi with
    | 0, hi => exact h.new 0 v xs hi
    | i + 1, hi => simp at hi, fun i j a xs b ys hij hi hj => by
    have h1 : i = 0 := by have := (List.getElem?_eq_some_iff.1 hi).1; simpa using this
    have h2 : j = 0 := by have := (List.getElem?_eq_some_iff.1 hj).1; simpa using this
    omega⟩
/-- The end: the block of the result told. -/
theorem rlen_end {B : Nat} {w wr : World} {g : Nat} {xs : List Int} (h1 : Blk wr B #[.slice none 0 0, .int .i64 0] 28) (h2 : Below B w wr) (h3 : Many B wr 3 [(.slice (some ⟨g, 0, none⟩) 65 65, ints .i64 xs)]) :
    Blk ((wr.setCell ⟨B, 0, none⟩ (.slice (some ⟨g, 0, none⟩) 65 65)).setCell ⟨B, 1, none⟩ (.int .i64 0)) B #[.slice (some ⟨g, 0, none⟩) 65 65, .int .i64 0] 28 ∧
    Owns ((wr.setCell ⟨B, 0, none⟩ (.slice (some ⟨g, 0, none⟩) 65 65)).setCell ⟨B, 1, none⟩ (.int .i64 0)) 3 (.slice (some ⟨g, 0, none⟩) 65 65) (ints .i64 xs) ∧
    (∀ b, (Value.slice (some ⟨g, 0, none⟩) 65 65).ownBlock = some b → B ≤ b) ∧ Below B w ((wr.setCell ⟨B, 0, none⟩ (.slice (some ⟨g, 0, none⟩) 65 65)).setCell ⟨B, 1, none⟩ (.int .i64 0)) := by
  have hb1 := h1.set 0 (.slice (some ⟨g, 0, none⟩) 65 65)
  have m1 := h3.setBlk h1 (by decide) 0 (.slice (some ⟨g, 0, none⟩) 65 65)
  have m2 := m1.setBlk hb1 (by decide) 1 (.int .i64 0)
  exact ⟨hb1.set 1 _, m2.own 0 _ _ rfl, h3.new 0 _ _ rfl, (h2.setCell (p := ⟨B, 0, none⟩) (Nat.le_refl _) _).setCell (p := ⟨B, 1, none⟩) (Nat.le_refl _) _⟩

set_option maxRecDepth 100000 in
set_option maxHeartbeats 4000000 in
theorem rlen_ok (A0 : Option Addr) (c0 : Nat) (l0 : List Int) (m : Nat) (w : World) (hR : Rd w (.slice A0 65 65) (ints .i64 l0)) (hf : Fq l0 m) :
    Calls Try.prog 12 #[.slice A0 65 c0, .int .i64 (m : Int)] w fun e w' => ∃ v, e = .returned (.agg #[v, .int .i64 0]) ∧ Owns w' 3 v (ints .i64 (lenL l0 m)) ∧ (∀ g, v.ownBlock = some g → w.heap.size ≤ g) ∧ Below w.heap.size w w' := by
  obtain ⟨i0, hi, hz0, hz1, hz2⟩ := info_partsI infoI64
  have h65 := hf.len
  obtain ⟨B, hB⟩ : ∃ B, B = w.heap.size := ⟨_, rfl⟩
  have hro := fun w1 (h : Below w.heap.size w w1) => rorder_calls A0 65 c0 l0 w1 (hR.later h) (by omega)
  rw [← hB]
  have t7 : decide ((m : Int) < 7) = false := decide_eq_false (by have := hf.lo; omega)
  have t15 : decide (15 < (m : Int)) = false := decide_eq_false (by have := hf.hi; omega)
  have HB := kept hB
  have HF := kept hf
  have HR := kept hR
  have HL := kept h65
  have HRo := kept hro
  clear hB hf hR h65 hro
  go_enter Try.func12, Try.ntmps12
  go_wp2_with fail
  rw [show w.heap.size = B from HB.out.symm]
  generalize hw1 : World.alloc w _ = w1
  have HS1 : Kept (Blk w1 B #[.slice none 0 0, .int .i64 0] 28 ∧ Below B w w1) := kept (by rw [← hw1, HB.out]; exact ⟨Blk.fresh _ _ _, (Below.refl _ _).alloc (Nat.le_refl _) _⟩)
  have HR1 := kept (HR.out.later (show Below w.heap.size w w1 by rw [← HB.out]; exact HS1.out.2))
  clear hw1
  go_loopw [5] (fun s5 wr => ∃ i : Nat, i ≤ 65 ∧ s5 = .int .i64 (i : Int) ∧ wr = w1) (fun s5 _ => 65 - (intOf s5).toNat)
  case atStart => exact ⟨0, by omega, rfl, rfl⟩
  case round =>
    obtain ⟨i, hi65, rfl, rfl⟩ := hrel
    by_cases hlt : i < 65
    · have hil : i < l0.length := by rw [HL.out]; exact hlt
      obtain ⟨x, rfl, hc⟩ := HR1.out.at (Own.ints_at .i64 l0 i hil)
      have hy := HF.out.each (l0.getD i 0) (by simp [List.getD_eq_getElem?_getD, hil])
      obtain ⟨y, hye⟩ : ∃ y, y = l0.getD i 0 := ⟨_, rfl⟩
      rw [← hye] at hc hy
      obtain ⟨hy0, hy1⟩ := hy
      have ty : decide (y < 0) = false := decide_eq_false (by omega)
      have tz : decide (16777216 < y) = false := decide_eq_false (by omega)
      clear hye hil
      go_wp2_with fail
      go_roundw
      case rel => exact ⟨i + 1, by omega, by go_num, trivial⟩
      case measure => simp [intOf]; omega
    · have hie : i = 65 := by omega
      subst hie
      go_wp2_with (first | (refine wpList_mk1 rfl _ _ 22 rfl 3 i0 (.int .i64 0) 8 Try.underlying22 hi hz0 hz1 hz2 rfl .i64 .i64 _ _ 65 rfl rfl rfl rfl (by decide) (by decide) ?_))
      intro w2 hO hb hlt2
      obtain ⟨g, hg⟩ : ∃ g, g = wr.heap.size := ⟨_, rfl⟩
      have hM2 : Many B w2 3 [(.slice (some ⟨g, 0, none⟩) 65 65, ints .i64 (List.replicate 65 0))] := by
        have := (Many.nil B wr 3).add (v := .slice (some ⟨wr.heap.size, 0, none⟩) 65 65) hb hO (fun b hb => by simp [Value.ownBlock] at hb; omega) (Nat.le_of_lt HS1.out.1.lt)
        rw [hg]; simpa [ints] using this
      have HS2 : Kept (Blk w2 B #[.slice none 0 0, .int .i64 0] 28 ∧ Below B w w2) := kept ⟨(hb.block B HS1.out.1.lt).trans HS1.out.1, HS1.out.2.trans (hb.mono (Nat.le_of_lt HS1.out.1.lt))⟩
      have HM2 := kept hM2
      rw [← hg]
      have HC := kept (HRo.out w2 (by rw [← HB.out]; exact HS2.out.2))
      clear hO hb hlt2 hg hM2 hlt HS1 HR1
      go_wp2_with fail
      refine HC.out.mono ?_
      rintro e w3 ⟨v7, rfl, ho⟩
      have hM3 := HM2.out.add ho.low ho.own ho.new (Nat.le_of_lt HS2.out.1.lt)
      have HS3 : Kept (Blk w3 B #[.slice none 0 0, .int .i64 0] 28 ∧ Below B w w3) := kept ⟨(ho.low.block B HS2.out.1.lt).trans HS2.out.1, HS2.out.2.trans (ho.low.mono (Nat.le_of_lt HS2.out.1.lt))⟩
      obtain ⟨a7, c7, rfl, ha7⟩ := sliceX ho.own
      have HM3 := kept hM3
      have hnl := length_ordL l0
      rw [HL.out] at hnl
      obtain ⟨n, hn⟩ : ∃ n, n = (ordL l0).length := ⟨_, rfl⟩
      rw [← hn] at HM3 hnl ⊢
      have HN := kept hn
      have HA7 := kept ha7
      clear ho hM3 hn ha7 HC HM2 HS2
      have d0 := HS3.out.1.cell (i := 0) rfl
      have d1 := HS3.out.1.cell (i := 1) rfl
      have f0 := HS3.out.1.free 0
      have f1 := HS3.out.1.free 1
      by_cases hn1 : n = 1
      · subst hn1
        have hlen1 : (ordL l0).length = 1 := HN.out.symm
        obtain ⟨k, hk⟩ : ∃ k, ordL l0 = [k] := List.length_eq_one_iff.1 hlen1
        obtain ⟨g7, rfl⟩ := HA7.out (by rw [hk]; simp)
        have hk65 : k < 65 := by have h := (mem_ordL (f := l0) (i := k)).1 (by rw [hk]; simp); rw [← HL.out]; exact h.1
        have hcell7 : w3.cell? ⟨g7, 0, none⟩ = some (.int .i64 (k : Int)) := by
          have := (HM3.out.own 1 _ _ rfl).cell (j := 0) (idx_at _ 0 (by rw [hlen1]; decide))
          rw [hk] at this; exact this
        have co := (HM3.out.own 0 _ _ rfl).cell (j := k) (Own.ints_at .i64 (List.replicate 65 0) k (by simpa using hk65))
        have fo := (HM3.out.own 0 _ _ rfl).free k
        have HLen : Kept (lenL l0 m = (List.replicate 65 0).set k 1) := kept (by
          have e : lensOf l0 m = [1] := by unfold lensOf; rw [if_pos hlen1]
          unfold lenL; rw [e, hk]; rfl)
        have hM4 := (HM3.out.store 0 rfl k (.int .i64 1) (Nat.le_of_lt HS3.out.1.lt)).rest
        rw [← ints_set] at hM4
        have HM4 : Kept (Many B (w3.setCell ⟨g, k, none⟩ (.int .i64 1)) 3 [(.slice (some ⟨g, 0, none⟩) 65 65, ints .i64 (lenL l0 m))]) := kept (by rw [HLen.out]; exact hM4)
        have hc4 : Chg (fun b => some b = (Value.slice (some ⟨g, 0, none⟩) 65 65).ownBlock) w3 (w3.setCell ⟨g, k, none⟩ (.int .i64 1)) := (Chg.setCell w3 ⟨g, k, none⟩ (.int .i64 1)).mono fun b _ hb => by rw [hb]; rfl
        have HS4 : Kept (Blk (w3.setCell ⟨g, k, none⟩ (.int .i64 1)) B #[.slice none 0 0, .int .i64 0] 28 ∧ Below B w (w3.setCell ⟨g, k, none⟩ (.int .i64 1))) := kept ⟨HM3.out.other 0 rfl hc4 HS3.out.1 (by decide), HS3.out.2.trans (HM3.out.below 0 rfl hc4 (Nat.le_of_lt HS3.out.1.lt))⟩
        have HE := kept (rlen_end HS4.out.1 HS4.out.2 HM4.out)
        have e0 := HS4.out.1.cell (i := 0) rfl
        have e1 := HS4.out.1.cell (i := 1) rfl
        have g0 := HS4.out.1.free 0
        have g1 := HS4.out.1.free 1
        clear hk hlen1 hM4 hc4 d0 d1 f0 f1
        go_wp2_with fail
        exact bodyPost_ret (results_cell_row rfl _ _ B 28 #[.slice (some ⟨g, 0, none⟩) 65 65, .int .i64 0] (0, 0) _ rfl HE.out.1 Try.underlying28 rfl (by kernel_rfl)) rfl ⟨_, rfl, HE.out.2⟩
      · by_cases hn0 : n = 0
        · subst hn0
          have HE := kept (rlen_end HS3.out.1 HS3.out.2 HM3.out.rest)
          have HLen : Kept (lenL l0 m = List.replicate 65 0) := kept (by
            have e : ordL l0 = [] := List.length_eq_zero_iff.1 HN.out.symm
            unfold lenL; rw [e, scat_nil])
          clear hn1
          go_wp2_with fail
          exact bodyPost_ret (results_cell_row rfl _ _ B 28 #[.slice (some ⟨g, 0, none⟩) 65 65, .int .i64 0] (0, 0) _ rfl HE.out.1 Try.underlying28 rfl (by kernel_rfl)) rfl ⟨_, rfl, by rw [HLen.out]; exact HE.out.2⟩
        · obtain ⟨g7, rfl⟩ := HA7.out (by intro e; apply hn0; rw [HN.out, e]; rfl)
          have tn1 : ((n : Int) == 1) = false := by rw [beq_eq_false_iff_ne]; omega
          have hn2 : 2 ≤ n := by omega
          clear hn0 hn1 d0 d1 f0 f1
          go_upto_region 14 with (fail)
          go_cut [8] from 65 to 72 (fun s8 wx => ∃ p vk vs, s8 = .pointer (some ⟨p, 0, none⟩) ∧ StB B w wx g g7 c7 l0 m p (.slice none 0 0) vk vs (List.replicate 65 0) [] (List.replicate 166600 0) (List.replicate (n + 1) 0))
          case first =>
            refine wp_region_treeL [0,2,3,4] [] (.two 1 (.seq [5,6,7,8]) 5 (.seq [1,6,7,8])) (by kernel_rfl) (by kernel_rfl) ?_
            intro K hK
            simp only [pick, List.filterMap_cons, List.filterMap_nil, List.getElem?_cons_zero, List.getElem?_cons_succ]
            repeat (show wpQuiet _ _ _ _ (_ :: _) _; go_big_quiet_step (fail))
            refine wpQuiet_nil (wpQuiet_nil ?_)
            generalize hwd : World.drew w3 = x0
            have HS4 : Kept (Blk x0 B #[.slice none 0 0, .int .i64 0] 28 ∧ Below B w x0) := kept (by rw [← hwd]; exact ⟨HS3.out.1, HS3.out.2.drew⟩)
            have HM4 : Kept (Many B x0 3 ([(.slice (some ⟨g, 0, none⟩) 65 65, ints .i64 (List.replicate 65 0))] ++ [(.slice (some ⟨g7, 0, none⟩) n c7, idx (ordL l0))])) := kept (by rw [← hwd]; exact HM3.out.later (Below.refl _ _).drew)
            clear hwd
            refine (show _ ∧ _ from ⟨?_, ?_⟩)
            · show wpList _ _ _ [_] _ _
              refine wpList_mk1 rfl _ _ 22 rfl 3 i0 (.int .i64 0) 8 Try.underlying22 hi hz0 hz1 hz2 rfl .i64 .i64 166600 166600 166600 rfl rfl rfl rfl (by decide) (by decide) ?_
              intro x1 hO hb hlt2
              obtain ⟨g1, hg1⟩ : ∃ g1, g1 = x0.heap.size := ⟨_, rfl⟩
              have hm1 := HM4.out.add hb hO (fun b hb => by simp [Value.ownBlock] at hb; omega) (Nat.le_of_lt HS4.out.1.lt)
              rw [← hg1] at hm1 ⊢
              have HS5 : Kept (Blk x1 B #[.slice none 0 0, .int .i64 0] 28 ∧ Below B w x1) := kept ⟨(hb.block B HS4.out.1.lt).trans HS4.out.1, HS4.out.2.trans (hb.mono (Nat.le_of_lt HS4.out.1.lt))⟩
              have HM5 := kept hm1
              clear hO hb hlt2 hg1 hm1
              change wpTr _ _ _ _ _ _
              unfold wpTr
              show wpList _ _ _ [_, _, _, _] _ _
              refine wpList_mk1 rfl _ _ 22 rfl 3 i0 (.int .i64 0) 8 Try.underlying22 hi hz0 hz1 hz2 rfl .i64 .i64 _ _ (n + 1) rfl rfl (by omega) (by omega) (by omega) (by simp [maxLen]; omega) ?_
              intro x2 hO hb hlt2
              obtain ⟨g2, hg2⟩ : ∃ g2, g2 = x1.heap.size := ⟨_, rfl⟩
              have hm2 := HM5.out.add hb hO (fun b hb => by simp [Value.ownBlock] at hb; omega) (Nat.le_of_lt HS5.out.1.lt)
              rw [← hg2] at hm2 ⊢
              have HS6 : Kept (Blk x2 B #[.slice none 0 0, .int .i64 0] 28 ∧ Below B w x2) := kept ⟨(hb.block B HS5.out.1.lt).trans HS5.out.1, HS5.out.2.trans (hb.mono (Nat.le_of_lt HS5.out.1.lt))⟩
              rw [HN.out] at hm2
              have hm3 := StB.make (g := g) (g7 := g7) (c7 := c7) (l := l0) (m := m) (xs := List.replicate 65 0) (K := List.replicate 166600 0) (S := List.replicate (n + 1) 0) HS6.out.1 HS6.out.2 (by
                have h := hm2
                have e1 : List.replicate 166600 (Value.int .i64 0) = ints .i64 (List.replicate 166600 0) := by unfold ints; rw [List.map_replicate]
                have e2 : List.replicate (n + 1) (Value.int .i64 0) = ints .i64 (List.replicate (n + 1) 0) := by unfold ints; rw [List.map_replicate]
                rw [← HN.out, e1, e2] at h
                rw [← HN.out]
                exact h)
              have HB3 := kept hm3
              clear hO hb hlt2 hg2 hm2 hm3
              go_wp2_with fail
              refine hK _ _ ?_
              go_wp2_with fail
              go_meet
              case rel => exact ⟨_, _, _, rfl, HB3.out⟩
            · show wpList _ _ _ [_] _ _
              refine wpList_mk1 rfl _ _ 22 rfl 3 i0 (.int .i64 0) 8 Try.underlying22 hi hz0 hz1 hz2 rfl .i64 .i64 _ _ (n + 1) rfl rfl (by omega) (by omega) (by omega) (by simp [maxLen]; omega) ?_
              intro x1 hO hb hlt2
              obtain ⟨g1, hg1⟩ : ∃ g1, g1 = x0.heap.size := ⟨_, rfl⟩
              have hm1 := HM4.out.add hb hO (fun b hb => by simp [Value.ownBlock] at hb; omega) (Nat.le_of_lt HS4.out.1.lt)
              rw [← hg1] at hm1 ⊢
              have HS5 : Kept (Blk x1 B #[.slice none 0 0, .int .i64 0] 28 ∧ Below B w x1) := kept ⟨(hb.block B HS4.out.1.lt).trans HS4.out.1, HS4.out.2.trans (hb.mono (Nat.le_of_lt HS4.out.1.lt))⟩
              have HM5 := kept hm1
              clear hO hb hlt2 hg1 hm1
              change wpTr _ _ _ _ _ _
              unfold wpTr
              show wpList _ _ _ [_, _, _, _] _ _
              refine wpList_mk1 rfl _ _ 22 rfl 3 i0 (.int .i64 0) 8 Try.underlying22 hi hz0 hz1 hz2 rfl .i64 .i64 _ _ 166600 rfl rfl rfl rfl (by decide) (by decide) ?_
              intro x2 hO hb hlt2
              obtain ⟨g2, hg2⟩ : ∃ g2, g2 = x1.heap.size := ⟨_, rfl⟩
              have hm2 := HM5.out.add hb hO (fun b hb => by simp [Value.ownBlock] at hb; omega) (Nat.le_of_lt HS5.out.1.lt)
              rw [← hg2] at hm2 ⊢
              have HS6 : Kept (Blk x2 B #[.slice none 0 0, .int .i64 0] 28 ∧ Below B w x2) := kept ⟨(hb.block B HS5.out.1.lt).trans HS5.out.1, HS5.out.2.trans (hb.mono (Nat.le_of_lt HS5.out.1.lt))⟩
              rw [HN.out] at hm2
              have hm3 := StB.make (g := g) (g7 := g7) (c7 := c7) (l := l0) (m := m) (xs := List.replicate 65 0) (K := List.replicate 166600 0) (S := List.replicate (n + 1) 0) HS6.out.1 HS6.out.2 (by
                have h := hm2.swap
                have e1 : List.replicate 166600 (Value.int .i64 0) = ints .i64 (List.replicate 166600 0) := by unfold ints; rw [List.map_replicate]
                have e2 : List.replicate (n + 1) (Value.int .i64 0) = ints .i64 (List.replicate (n + 1) 0) := by unfold ints; rw [List.map_replicate]
                rw [← HN.out, e1, e2] at h
                rw [← HN.out]
                exact h)
              have HB3 := kept hm3
              clear hO hb hlt2 hg2 hm2 hm3
              go_wp2_with fail
              refine hK _ _ ?_
              go_wp2_with fail
              go_meet
              case rel => exact ⟨_, _, _, rfl, HB3.out⟩
          case rest =>
            obtain ⟨p, vk, vs, rfl, hst⟩ := hcut
            obtain ⟨w4, rfl⟩ : ∃ w4, w4 = wc := ⟨wc, rfl⟩
            obtain ⟨G, hG⟩ : ∃ G, G = ofs l0 := ⟨_, rfl⟩
            have hGl : G.length = n := by rw [hG, length_ofs]; exact HN.out.symm
            have HG := kept hG
            have HGl := kept hGl
            have HS4 := kept hst
            clear hG hGl hst HS3 HM3 HA7
            go_wp2_with fail
            go_loopw [9] (fun s9 wr => ∃ i : Nat, i ≤ n ∧ s9 = .int .i64 (i : Int) ∧ ∃ vf, StB B w wr g g7 c7 l0 m p vf vk vs (List.replicate 65 0) (G.take i) (List.replicate 166600 0) (List.replicate (n + 1) 0)) (fun s9 _ => n - (intOf s9).toNat)
            case atStart => exact ⟨0, by omega, rfl, _, HS4.out⟩
            case round =>
              obtain ⟨i, hin, rfl, vf, hst⟩ := hrel
              obtain ⟨wq, rfl⟩ : ∃ wq, wq = wr := ⟨wr, rfl⟩
              by_cases hlt : i < n
              · have hio : i < (ordL l0).length := by rw [← HN.out]; exact hlt
                obtain ⟨q, hq⟩ : ∃ q, q = (ordL l0).getD i 0 := ⟨_, rfl⟩
                have hqm : q ∈ ordL l0 := by rw [hq]; simp [List.getD_eq_getElem?_getD, hio]
                have hq65 : q < 65 := by have h := (mem_ordL.1 hqm).1; rw [HL.out] at h; exact h
                have c7i := hst.ordAt i hio
                rw [← hq] at c7i
                have cp := hst.blk.cell (i := 0) rfl
                have hrd := HR.out.later (show Below w.heap.size w wq by rw [← HB.out]; exact hst.low)
                obtain ⟨x, rfl, hcq⟩ := hrd.at (Own.ints_at .i64 l0 q (by rw [HL.out]; exact hq65))
                obtain ⟨y, hy⟩ : ∃ y, y = l0.getD q 0 := ⟨_, rfl⟩
                rw [← hy] at hcq
                have hGi : G.take (i + 1) = G.take i ++ [y] := by
                  have hiG : i < G.length := by rw [HGl.out]; exact hlt
                  have h := ofs_at l0 i hio
                  rw [← HG.out, ← hq, ← hy] at h
                  rw [List.take_succ_eq_append_getElem hiG, ← h]; simp [List.getD_eq_getElem?_getD, hiG]
                have HGi := kept hGi
                have HS := kept hst
                have l1 := lat_cell c7i
                have l2 := lat_cell cp
                have l3 := lat_cell hcq
                clear hGi hst hrd hy hq hqm hio c7i cp hcq
                go_wp2_with fail
                refine wp_region_mixL [0] [1,2,3,4,5,6,7,8,9,10,11] [12,13,14,15,16] (by kernel_rfl) (by kernel_rfl) ?_
                intro K hK
                simp only [pick, List.filterMap_cons, List.filterMap_nil, List.getElem?_cons_zero, List.getElem?_cons_succ]
                repeat (show wpQuiet _ _ _ _ (_ :: _) _; go_big_quiet_step (fail))
                show wpList _ _ _ [_, _, _, _, _] _ _
                generalize hwd : World.drew wq = wd
                have HSd := kept (show StB B w wd g g7 c7 l0 m p vf vk vs (List.replicate 65 0) (G.take i) (List.replicate 166600 0) (List.replicate (n + 1) 0) by rw [← hwd]; exact HS.out.later (Below.refl _ _).drew)
                clear hwd l1 l2 l3
                have hgl : (G.take i).length ≤ 65 := by rw [List.length_take]; omega
                have hov := HSd.out.many.own 4 _ _ rfl
                go_wp2_with (first | (at_builtin; go_loud (refine wpList_app1 rfl _ _ 22 rfl 3 i0 (.int .i64 0) 8 Try.underlying22 hi hz0 hz1 hz2 rfl vf _ (.int .i64 y) rfl hov rfl rfl ?_ ?_ ?_)))
                · simp [maxLen]; omega
                · simp; omega
                intro v5 w5 O5 C5 F5
                have e5 : ints .i64 (G.take i) ++ [.int .i64 y] = ints .i64 (G.take i ++ [y]) := by simp [ints]
                rw [e5] at O5
                obtain ⟨a5, c5, hv5⟩ := sliceI O5
                rw [← HGi.out, show (G.take (i + 1)).length = i + 1 by rw [List.length_take, HGl.out]; omega] at hv5
                subst hv5
                obtain ⟨hp1, hp2, hp3⟩ := HSd.out.push O5 C5 F5
                rw [← HGi.out] at hp1
                have HS5 := kept hp1
                clear O5 C5 F5 e5 hp1 hov
                go_wp2_with fail
                refine hK _ _ ?_
                go_wp2_with fail
                go_roundw
                case rel => exact ⟨i + 1, by omega, by go_num, _, HS5.out⟩
                case measure => simp [intOf]; omega
              · have hie : i = n := by omega
                subst hie
                have hGt : G.take i = G := List.take_of_length_le (by rw [HGl.out]; exact Nat.le_refl _)
                rw [hGt] at hst
                obtain ⟨gf, cf, hvf, _, _⟩ := rowI (hst.many.own 4 _ _ rfl) (by intro e; have := HGl.out; rw [e] at this; simp at this; omega)
                obtain ⟨gs, cs, hvs, _, _⟩ := rowI (hst.many.own 3 _ _ rfl) (by intro e; have := congrArg List.length e; simp at this)
                rw [HGl.out] at hvf
                rw [List.length_replicate] at hvs
                subst hvf hvs
                have HGs : Kept (Gs G) := kept ⟨by rw [HGl.out]; omega, fun x hx => by
                  rw [HG.out] at hx
                  obtain ⟨j, hj, rfl⟩ := List.mem_map.1 hx
                  have h2 := HF.out.each (l0.getD j 0) (by have h := (mem_ordL.1 hj).1; simp [List.getD_eq_getElem?_getD, h])
                  exact h2⟩
                have HS5 : Kept (StB B w wq g g7 c7 l0 m p (.slice (some ⟨gf, 0, none⟩) i cf) vk (.slice (some ⟨gs, 0, none⟩) (i + 1) cs) (List.replicate 65 0) G (List.replicate 166600 0) (sumsN G i)) := kept (by
                  have h := sumsN_none G
                  rw [HGl.out] at h
                  rw [h]; exact hst)
                clear hst hGt hlt HS4
                go_wp2_with fail
                go_loopw [10] (fun s10 wr => ∃ j : Nat, j ≤ i ∧ s10 = .int .i64 ((j : Int) - 1) ∧ StB B w wr g g7 c7 l0 m p (.slice (some ⟨gf, 0, none⟩) i cf) vk (.slice (some ⟨gs, 0, none⟩) (i + 1) cs) (List.replicate 65 0) G (List.replicate 166600 0) (sumsN G j)) (fun s10 _ => (intOf s10 + 1).toNat)
                case atStart => exact ⟨i, Nat.le_refl _, rfl, HS5.out⟩
                case round =>
                  obtain ⟨j, hjn, rfl, hst⟩ := hrel
                  obtain ⟨wl, rfl⟩ : ∃ wl, wl = wr := ⟨wr, rfl⟩
                  by_cases hj0 : 0 < j
                  · obtain ⟨k, rfl⟩ : ∃ k, j = k + 1 := ⟨j - 1, by omega⟩
                    rw [show (((k + 1 : Nat) : Int) - 1) = (k : Int) by omega]
                    have cp0 := hst.blk.cell (i := 0) rfl
                    have cp3 := hst.blk.cell (i := 3) rfl
                    have hsl : (sumsN G (k + 1)).length = i + 1 := by rw [length_sumsN, HGl.out]
                    have cs1 := (hst.many.own 3 _ _ rfl).cell (j := k + 1) (Own.ints_at .i64 (sumsN G (k + 1)) (k + 1) (by rw [hsl]; omega))
                    rw [sumsN_at G (k + 1) (by rw [HGl.out]; omega)] at cs1
                    have cs0 := (hst.many.own 3 _ _ rfl).cell (j := k) (Own.ints_at .i64 (sumsN G (k + 1)) k (by rw [hsl]; omega))
                    have fs0 := (hst.many.own 3 _ _ rfl).free k
                    have cf0 := (hst.many.own 4 _ _ rfl).cell (j := k) (Own.ints_at .i64 G k (by rw [HGl.out]; omega))
                    have hset := sumsN_set G k (by rw [HGl.out]; omega)
                    have hb1 := HGs.out.sum (k + 1)
                    have hb2 := HGs.out.each (G.getD k 0) (by have : k < G.length := by rw [HGl.out]; omega
                                                              simp [List.getD_eq_getElem?_getD, this])
                    obtain ⟨S1, hS1⟩ : ∃ S1, S1 = (G.drop (k + 1)).sum := ⟨_, rfl⟩
                    obtain ⟨y, hy⟩ : ∃ y, y = G.getD k 0 := ⟨_, rfl⟩
                    rw [← hS1] at cs1 hset hb1
                    rw [← hy] at cf0 hset hb2
                    obtain ⟨hb1a, hb1b⟩ := hb1
                    obtain ⟨hb2a, hb2b⟩ := hb2
                    obtain ⟨z0, hz0e⟩ : ∃ z0, z0 = (sumsN G (k + 1)).getD k 0 := ⟨_, rfl⟩
                    rw [← hz0e] at cs0
                    have HSet := kept hset
                    have HSo := kept hst
                    have l0' := lat_cell cp0
                    have l1' := lat_cell cp3
                    have l2' := lat_cell cs1
                    have l3' := lat_cell cf0
                    clear hset hst hsl hS1 hy hz0e cp0 cp3 cs1 cf0 hj0
                    go_wp2_with fail
                    refine wp_region_mixL [] [0,1,2,3,4,5,6,7,8,9,10,11,12,13,14,15,16,17,18,19,20,21] [22] (by kernel_rfl) (by kernel_rfl) ?_
                    intro K hK
                    simp only [pick, List.filterMap_cons, List.filterMap_nil, List.getElem?_cons_zero, List.getElem?_cons_succ]
                    refine wpQuiet_nil ?_
                    repeat (show wpQuiet _ _ _ _ (_ :: _) _; go_big_quiet_step (fail))
                    refine wpQuiet_nil ?_
                    show wpList _ _ _ [_] _ _
                    generalize hwd : World.drew wl = wd
                    have hcd : wd.cell? ⟨gs, k, none⟩ = some (.int .i64 z0) := by rw [← hwd]; exact cs0
                    have hfd : wd.frozen? ⟨gs, k, none⟩ = false := by rw [← hwd]; exact fs0
                    have HNd : Kept (StB B w (wd.setCell ⟨gs, k, none⟩ (.int .i64 (S1 + y))) g g7 c7 l0 m p (.slice (some ⟨gf, 0, none⟩) i cf) vk (.slice (some ⟨gs, 0, none⟩) (i + 1) cs) (List.replicate 65 0) G (List.replicate 166600 0) (sumsN G k)) := kept (by
                      have h := (HSo.out.later (Below.refl _ _).drew).storeSum k (S1 + y)
                      rw [HSet.out] at h
                      rw [← hwd]; exact h)
                    clear hwd l0' l1' l2' l3' cs0 fs0
                    go_wp2_with fail
                    refine hK _ _ ?_
                    go_wp2_with fail
                    go_roundw
                    case rel => exact ⟨k, by omega, by go_num, HNd.out⟩
                    case measure => simp [intOf]
                  · have hj : j = 0 := by omega
                    subst hj
                    rw [show (((0 : Nat) : Int) - 1) = -1 from rfl]
                    rw [sumsN_all] at hst
                    have HS6 := kept hst
                    clear hst HS5 hj0 hjn
                    obtain ⟨L, hL⟩ : ∃ L, L = lensOf l0 m := ⟨_, rfl⟩
                    obtain ⟨x0, hx0⟩ := HF.out.can (by rw [← HN.out]; exact hn2)
                    rw [← HG.out] at hx0
                    have hLe : L = lens m 1 G 2 := by rw [hL, HG.out]; unfold lensOf; rw [if_neg (by rw [← HN.out]; omega)]
                    have hLl : L.length = i := by rw [hL, HF.out.spec.1]; exact HN.out.symm
                    have HLe := kept hLe
                    have HLl := kept hLl
                    have HLL := kept hL
                    have HX0 := kept hx0
                    have hm15 := HF.out.hi
                    clear hLe hLl hL hx0
                    go_wp2_with fail
                    go_loopw [11, 12, 13] (fun s11 s12 s13 wr => ∃ (d j o r : Nat) (x : Int) (K : List Int), s11 = .int .i64 (j : Int) ∧ s12 = .int .i64 (o : Int) ∧ s13 = .int .i64 (d : Int) ∧ d + r = m + 1 ∧ 1 ≤ d ∧ j ≤ i ∧ o ≤ 130 ∧ dp r (G.drop j) o = some x ∧ L.drop j = lens r d (G.drop j) o ∧ KGood m G K ∧
                        StB B w wr g g7 c7 l0 m p (.slice (some ⟨gf, 0, none⟩) i cf) vk (.slice (some ⟨gs, 0, none⟩) (i + 1) cs) (scat (List.replicate 65 0) ((ordL l0).take j) (L.take j)) G K (sums G)) (fun _ _ s13 _ => m + 1 - (intOf s13).toNat)
                    case atStart =>
                      refine ⟨1, 0, 2, m, x0, _, rfl, rfl, rfl, by omega, Nat.le_refl _, Nat.zero_le _, by decide, HX0.out, by rw [List.drop_zero, List.drop_zero]; exact HLe.out, kgood_zero m G hm15, ?_⟩
                      rw [List.take_zero, scat_nil]; exact HS6.out
                    case round =>
                      obtain ⟨d, j, o, r, x, K, rfl, rfl, rfl, hdr, hd1, hji, ho130, hdp, hLd, hK, hst⟩ := hrel
                      obtain ⟨wl, rfl⟩ : ∃ wl, wl = wr := ⟨wr, rfl⟩
                      by_cases hlt : j < i
                      · have hne : G.drop j ≠ [] := by intro e; have := congrArg List.length e; rw [List.length_drop, HGl.out] at this; simp at this; omega
                        obtain ⟨r, rfl⟩ : ∃ r', r = r' + 1 := by
                          cases r with
                          | zero => rw [dp_out hne (by omega)] at hdp; cases hdp
                          | succ r => exact ⟨r, rfl⟩
                        obtain ⟨ho1, hol, y, hy, hxy⟩ := dp_some hdp hne
                        rw [List.length_drop, HGl.out] at hol
                        obtain ⟨k, hk⟩ : ∃ k, k = Dp.take r (G.drop j) o := ⟨_, rfl⟩
                        have hko : k ≤ o := by rw [hk]; exact take_le _ _ _
                        rw [lens_cons hne, ← hk] at hLd
                        rw [← hk] at hy hxy
                        have hxb := dp_le _ _ _ _ (HGs.out.drop j) hdp
                        obtain ⟨hx1, hx2⟩ := hxb
                        have hx3 : x ≤ 20000000000 := by omega
                        have hcall := cost_calls G m p _ _ _ HGs.out hm15 (r + 1) d j o K wl (hst.tab hK) (by rw [HGl.out]; omega) ho130 hd1 hdr
                        unfold CostE at hcall
                        rw [hdp] at hcall
                        simp only [enc] at hcall
                        have HC1 := kept hcall
                        have HSt := kept hst
                        have HK := kept hk
                        have HLd := kept hLd
                        have HY := kept hy
                        have HDp := kept hdp
                        have HNe := kept hne
                        clear hcall hst hk hLd hy hdp hne hxy hx2 hK HS6
                        go_upto_block 8 with (first | (go_at_call 24; refine HC1.out.mono ?_; rintro e w5 ⟨rfl, K2, hT2, hC2⟩; have HK2 := kept hT2.good; have HS2 := kept (HSt.out.costed hT2 hC2); clear hT2 hC2))
                        go_cut [15] from 136 to 167 (fun s15 wx => s15 = .int .i64 (k : Int) ∧ ∃ K', KGood m G K' ∧ StB B w wx g g7 c7 l0 m p (.slice (some ⟨gf, 0, none⟩) i cf) vk (.slice (some ⟨gs, 0, none⟩) (i + 1) cs) (scat (List.replicate 65 0) ((ordL l0).take j) (L.take j)) G K' (sums G))
                        case first =>
                          go_wp2_with fail
                          go_loopw [15] (fun s15 wr => ∃ (t : Nat) (K' : List Int), t ≤ o ∧ s15 = .int .i64 (t : Int) ∧ (∀ t', t < t' → t' ≤ o → cand r (G.drop j) o t' ≠ some x) ∧ KGood m G K' ∧
                            StB B w wr g g7 c7 l0 m p (.slice (some ⟨gf, 0, none⟩) i cf) vk (.slice (some ⟨gs, 0, none⟩) (i + 1) cs) (scat (List.replicate 65 0) ((ordL l0).take j) (L.take j)) G K' (sums G)) (fun s15 _ => (intOf s15).toNat)
                          case atStart => exact ⟨o, _, Nat.le_refl _, rfl, fun t' h1 h2 => by omega, HK2.out, HS2.out⟩
                          case round =>
                            obtain ⟨t, K3, hto, rfl, hbig, hK3, hst3⟩ := hrel
                            obtain ⟨wk, rfl⟩ : ∃ wk, wk = wr := ⟨wr, rfl⟩
                            by_cases ht0 : 0 < t
                            · have hcall := cost_calls G m p _ _ _ HGs.out hm15 r (d + 1) (j + t) (2 * (o - t)) K3 wk (hst3.tab hK3) (by rw [HGl.out]; omega) (by omega) (by omega) (by omega)
                              rw [show ((d + 1 : Nat) : Int) = (d : Int) + 1 by omega, show ((j + t : Nat) : Int) = (j : Int) + (t : Int) by omega, show ((2 * (o - t) : Nat) : Int) = 2 * ((o : Int) - (t : Int)) by omega] at hcall
                              unfold CostE at hcall
                              have hcand : cand r (G.drop j) o t = (dp r (G.drop (j + t)) (2 * (o - t))).map (· + (G.drop (j + t)).sum) := by unfold cand; rw [List.drop_drop]
                              have hSb := HGs.out.sum (j + t)
                              have hsAt := sums_at G (j + t) (by rw [HGl.out]; omega)
                              have hsl := length_sums G
                              obtain ⟨S, hS⟩ : ∃ S, S = (G.drop (j + t)).sum := ⟨_, rfl⟩
                              rw [← hS] at hcand hSb hsAt
                              obtain ⟨hSb1, hSb2⟩ := hSb
                              have HSt3 := kept hst3
                              have HBig := kept hbig
                              have HSAt := kept hsAt
                              have HSl := kept hsl
                              clear hst3 hbig hS hsAt hsl
                              cases hdt : dp r (G.drop (j + t)) (2 * (o - t)) with
                              | none =>
                                rw [hdt] at hcall hcand
                                simp only [enc] at hcall
                                have HC3 := kept hcall
                                have HCa := kept hcand
                                clear hcall hcand hdt
                                go_wp2_with (first | (go_at_call 24; refine HC3.out.mono ?_; rintro e w6 ⟨rfl, K4, hT4, hC4⟩; have HK4 := kept hT4.good; have HS4 := kept (HSt3.out.costed hT4 hC4); clear hT4 hC4))
                                go_roundw
                                case rel =>
                                  refine ⟨t - 1, K4, by omega, by go_num, fun t' h1 h2 => ?_, HK4.out, HS4.out⟩
                                  by_cases e : t' = t
                                  · rw [e, HCa.out]; simp
                                  · exact HBig.out t' (by omega) h2
                                case measure => simp [intOf]; omega
                              | some z =>
                                rw [hdt] at hcall hcand
                                simp only [enc, Option.map_some] at hcall hcand
                                have hzb := dp_le _ _ _ _ (HGs.out.drop (j + t)) hdt
                                obtain ⟨hz1', hz2'⟩ := hzb
                                have hz3' : z ≤ 20000000000 := by omega
                                have tz : decide (0 ≤ z) = true := decide_eq_true hz1'
                                have HC3 := kept hcall
                                have HCa := kept hcand
                                clear hcall hcand hdt hz2'
                                by_cases heq : z + S = x
                                · have teq : (z + S == x) = true := by rw [beq_iff_eq]; exact heq
                                  have HTk : Kept (k = t) := kept (by rw [HK.out]; exact take_is HDp.out HNe.out hto HBig.out (.inr (by rw [HCa.out, heq])))
                                  have HEq := kept heq
                                  clear heq
                                  go_wp2_with (first | (go_at_call 24; refine HC3.out.mono ?_; rintro e w6 ⟨rfl, K4, hT4, hC4⟩; have HK4 := kept hT4.good; have HS4 := kept (HSt3.out.costed hT4 hC4); have d3 := hT4.blk.cell (i := 3) rfl; have dsum := (by have := (hT4.rs.cell (j := j + t) (Own.ints_at .i64 (sums G) (j + t) (by rw [HSl.out, HGl.out]; omega))); rw [HSAt.out] at this; exact this : w6.cell? ⟨gs, j + t, none⟩ = some (.int .i64 S)); clear hT4 hC4))
                                  go_meet
                                  case rel => exact ⟨by rw [HTk.out], K4, HK4.out, HS4.out⟩
                                · have teq : (z + S == x) = false := by rw [beq_eq_false_iff_ne]; exact heq
                                  have HEq := kept heq
                                  clear heq
                                  go_wp2_with (first | (go_at_call 24; refine HC3.out.mono ?_; rintro e w6 ⟨rfl, K4, hT4, hC4⟩; have HK4 := kept hT4.good; have HS4 := kept (HSt3.out.costed hT4 hC4); have d3 := hT4.blk.cell (i := 3) rfl; have dsum := (by have := (hT4.rs.cell (j := j + t) (Own.ints_at .i64 (sums G) (j + t) (by rw [HSl.out, HGl.out]; omega))); rw [HSAt.out] at this; exact this : w6.cell? ⟨gs, j + t, none⟩ = some (.int .i64 S)); clear hT4 hC4))
                                  go_roundw
                                  case rel =>
                                    refine ⟨t - 1, K4, by omega, by go_num, fun t' h1 h2 => ?_, HK4.out, HS4.out⟩
                                    by_cases e : t' = t
                                    · rw [e, HCa.out]; intro h; exact HEq.out (Option.some.inj h)
                                    · exact HBig.out t' (by omega) h2
                                  case measure => simp [intOf]; omega
                            · have ht : t = 0 := by omega
                              subst ht
                              have HTk : Kept (k = 0) := kept (by rw [HK.out]; exact take_is HDp.out HNe.out (Nat.zero_le _) hbig (.inl rfl))
                              have HS7 := kept hst3
                              have HK7 := kept hK3
                              clear hst3 hK3 hbig ht0
                              go_wp2_with fail
                              go_meet
                              case rel => exact ⟨by rw [HTk.out], K3, HK7.out, HS7.out⟩
                        case rest =>
                          obtain ⟨rfl, K5, hK5, hst5⟩ := hcut
                          obtain ⟨w8, rfl⟩ : ∃ w8, w8 = wc := ⟨wc, rfl⟩
                          have HK5 := kept hK5
                          have HS5' := kept hst5
                          have hkj : j + k ≤ i := by omega
                          have HLat : Kept (∀ q, q < k → L.getD (j + q) 0 = d) := kept (fun q hq => by
                            have e : L.getD (j + q) 0 = (L.drop j).getD q 0 := by simp [List.getD_eq_getElem?_getD]
                            rw [e, HLd.out]
                            have hq2 : q < (List.replicate k d).length := by rw [List.length_replicate]; exact hq
                            rw [List.getD_eq_getElem?_getD, List.getElem?_append_left hq2]
                            simp [hq])
                          have HLdr : Kept (L.drop (j + k) = lens r (d + 1) (G.drop (j + k)) (2 * (o - k))) := kept (by
                            have e : L.drop (j + k) = (L.drop j).drop k := by rw [List.drop_drop]
                            rw [e, HLd.out, List.drop_drop, List.drop_left' (by rw [List.length_replicate])])
                          have HY2 : Kept (dp r (G.drop (j + k)) (2 * (o - k)) = some y) := kept (by rw [← HY.out, List.drop_drop])
                          clear hK5 hst5 HSt HK2 HS2 HC1
                          go_wp2_with fail
                          go_loopw [17] (fun s17 wr => ∃ q : Nat, q ≤ k ∧ s17 = .int .i64 (q : Int) ∧ StB B w wr g g7 c7 l0 m p (.slice (some ⟨gf, 0, none⟩) i cf) vk (.slice (some ⟨gs, 0, none⟩) (i + 1) cs) (scat (List.replicate 65 0) ((ordL l0).take (j + q)) (L.take (j + q))) G K5 (sums G)) (fun s17 _ => k - (intOf s17).toNat)
                          case atStart => exact ⟨0, Nat.zero_le _, rfl, HS5'.out⟩
                          case round =>
                            obtain ⟨q, hqk, rfl, hst6⟩ := hrel
                            obtain ⟨wm, rfl⟩ : ∃ wm, wm = wr := ⟨wr, rfl⟩
                            by_cases hq : q < k
                            · have hjq : j + q < (ordL l0).length := by rw [← HN.out]; omega
                              obtain ⟨c, hc⟩ : ∃ c, c = (ordL l0).getD (j + q) 0 := ⟨_, rfl⟩
                              have hcm : c ∈ ordL l0 := by rw [hc]; simp [List.getD_eq_getElem?_getD, hjq]
                              have hc65 : c < 65 := by have h := (mem_ordL.1 hcm).1; rw [HL.out] at h; exact h
                              have c7i := hst6.ordAt (j + q) hjq
                              rw [← hc] at c7i
                              have hsc := scat_take (List.replicate 65 0) (ordL l0) L (j + q) hjq (by rw [HLl.out]; omega)
                              rw [← hc, HLat.out q hq] at hsc
                              obtain ⟨xs, hxs⟩ : ∃ xs, xs = scat (List.replicate 65 0) ((ordL l0).take (j + q)) (L.take (j + q)) := ⟨_, rfl⟩
                              have hxl : xs.length = 65 := by rw [hxs, length_scat]; simp
                              rw [← hxs] at hsc hst6
                              have co := hst6.out.cell (j := c) (Own.ints_at .i64 xs c (by rw [hxl]; exact hc65))
                              have fo := hst6.out.free c
                              have hst7 := hst6.storeOut c (d : Int)
                              rw [← hsc] at hst7
                              obtain ⟨z0, hz0e⟩ : ∃ z0, z0 = xs.getD c 0 := ⟨_, rfl⟩
                              rw [← hz0e] at co
                              have HS7 := kept hst7
                              clear hst6 hst7 hsc hxs hxl hz0e hc hcm hjq
                              go_wp2_with fail
                              go_roundw
                              case rel => exact ⟨q + 1, by omega, by go_num, HS7.out⟩
                              case measure => simp [intOf]; omega
                            · have hqe : q = k := by omega
                              subst hqe
                              have HS7 := kept hst6
                              clear hst6 hq
                              go_wp2_with fail
                              go_roundw
                              case rel =>
                                exact ⟨d + 1, j + q, 2 * (o - q), r, y, K5, by go_num, by go_num, by go_num, by omega, by omega, hkj, by omega, HY2.out, HLdr.out, HK5.out, HS7.out⟩
                              case measure => simp [intOf]; omega
                      · have hje : j = i := by omega
                        subst hje
                        rw [List.take_of_length_le (by rw [← HN.out]; exact Nat.le_refl _), List.take_of_length_le (by rw [HLl.out]; exact Nat.le_refl _), HLL.out] at hst
                        have HLn : Kept (scat (List.replicate 65 0) (ordL l0) (lensOf l0 m) = lenL l0 m) := kept rfl
                        rw [HLn.out] at hst
                        have HE := kept (rlen_end hst.res hst.low hst.many.rest)
                        have d0 := hst.res.cell (i := 0) rfl
                        have d1 := hst.res.cell (i := 1) rfl
                        have f0 := hst.res.free 0
                        have f1 := hst.res.free 1
                        clear hst hdp hLd hK HS6
                        go_wp2_with fail
                        exact bodyPost_ret (results_cell_row rfl _ _ B 28 #[.slice (some ⟨g, 0, none⟩) 65 65, .int .i64 0] (0, 0) _ rfl HE.out.1 Try.underlying28 rfl (by kernel_rfl)) rfl ⟨_, rfl, HE.out.2⟩
end Go.Proofs.Ytejecpmfhgplmaa

-- ---- Mk
/- merge.Lengths: what it refuses, and one class or none. Conditions: the list reads as the argument does. -/
namespace Go.Proofs.Ytejecpmfhgplmaa
set_option linter.unusedSimpArgs false
set_option linter.unusedVariables false
open Go.RowKit Mix _root_.Go.Proofs.Ytejecpmfhgplmaa.Own Dp Ol
attribute [local go_sem] Own.max_int Own.min_int

set_option maxRecDepth 100000 in
set_option maxHeartbeats 2000000 in
theorem mlen_bad (A0 : Option Addr) (n0 c0 : Nat) (l0 : List Int) (a1 : Int) (w : World) (hR : Rd w (.slice A0 n0 n0) (ints .i64 l0)) (hn : n0 < 200000000000000) (hb : ¬ fqB l0 a1 = true) :
    Calls Try.prog 11 #[.slice A0 n0 c0, .int .i64 a1] w fun e w' => e = .returned (.tuple #[.slice none 0 0, .int .i64 1]) ∧ Below w.heap.size w w' := by
  have hbw : Below w.heap.size w (w.alloc (.cells #[.slice A0 n0 c0] 22)) := (Below.refl _ _).alloc (Nat.le_refl _) _
  have hmay := mmay_calls A0 n0 c0 l0 a1 _ (hR.later hbw) hn
  rw [Bool.not_eq_true] at hb
  rw [hb] at hmay
  have HM := kept hmay
  have HB := kept hbw
  clear hmay hR hb hbw
  go_enter Try.func11, Try.ntmps11
  go_wp2_with (first | (go_at_call 19; refine HM.out.mono ?_; rintro e w1 ⟨rfl, rfl⟩))
  go_ret2
  exact ⟨rfl, HB.out⟩

set_option maxRecDepth 100000 in
set_option maxHeartbeats 4000000 in
theorem mlen_small (A0 : Option Addr) (c0 : Nat) (l0 : List Int) (m : Nat) (w : World) (hR : Rd w (.slice A0 65 65) (ints .i64 l0)) (hf : Fq l0 m) (hs : (ordL l0).length < 2) :
    Calls Try.prog 11 #[.slice A0 65 c0, .int .i64 (m : Int)] w fun e w' => ∃ v, e = .returned (.tuple #[v, .int .i64 0]) ∧ Owns w' 3 v (ints .i64 (lenL l0 m)) ∧ (∀ g, v.ownBlock = some g → w.heap.size ≤ g) ∧ Below w.heap.size w w' := by
  obtain ⟨i0, hi, hz0, hz1, hz2⟩ := info_partsI infoI64
  have h65 := hf.len
  obtain ⟨B, hB⟩ : ∃ B, B = w.heap.size := ⟨_, rfl⟩
  have hbw : Below w.heap.size w (w.alloc (.cells #[.slice A0 65 c0] 22)) := (Below.refl _ _).alloc (Nat.le_refl _) _
  have hmay := mmay_calls A0 65 c0 l0 m _ (hR.later hbw) (by decide)
  rw [(fqB_iff l0 m).2 ⟨m, rfl, hf⟩] at hmay
  have hro := fun w1 (h : Below w.heap.size w w1) => HistH.horder_calls A0 65 c0 l0 w1 (hR.later h) (by decide)
  rw [← hB]
  have HM := kept hmay
  have HBW := kept hbw
  have HB := kept hB
  have HF := kept hf
  have HL := kept h65
  have HRo := kept hro
  have HSm := kept hs
  clear hB hf hR h65 hro hmay hbw hs
  go_enter Try.func11, Try.ntmps11
  go_upto_region 3 with (first | (go_at_call 19; refine HM.out.mono ?_; rintro e w1 ⟨rfl, rfl⟩))
  rw [show w.heap.size = B from HB.out.symm]
  generalize hw1 : World.alloc w _ = w1
  have HS1 : Kept (Blk w1 B #[.slice A0 65 c0] 22 ∧ Below B w w1) := kept (by rw [← hw1, HB.out]; exact ⟨Blk.fresh _ _ _, (Below.refl _ _).alloc (Nat.le_refl _) _⟩)
  clear hw1
  go_wp2_with (first | (refine wpList_mk1 rfl _ _ 22 rfl 3 i0 (.int .i64 0) 8 Try.underlying22 hi hz0 hz1 hz2 rfl .i64 .i64 _ _ 65 rfl rfl rfl rfl (by decide) (by decide) ?_))
  intro w2 hO hb hlt2
  obtain ⟨g, hg⟩ : ∃ g, g = w1.heap.size := ⟨_, rfl⟩
  have hM2 : Many B w2 3 [(.slice (some ⟨g, 0, none⟩) 65 65, ints .i64 (List.replicate 65 0))] := by
    have := (Many.nil B w1 3).add (v := .slice (some ⟨w1.heap.size, 0, none⟩) 65 65) hb hO (fun b hb => by simp [Value.ownBlock] at hb; omega) (Nat.le_of_lt HS1.out.1.lt)
    rw [hg]; simpa [ints] using this
  have HS2 : Kept (Blk w2 B #[.slice A0 65 c0] 22 ∧ Below B w w2) := kept ⟨(hb.block B HS1.out.1.lt).trans HS1.out.1, HS1.out.2.trans (hb.mono (Nat.le_of_lt HS1.out.1.lt))⟩
  have HM2 := kept hM2
  rw [← hg]
  have HC := kept (HRo.out w2 (by rw [← HB.out]; exact HS2.out.2))
  have hb0 := HS2.out.1.cell (i := 0) rfl
  clear hO hb hlt2 hg hM2 HS1
  go_wp2_with (first | (go_at_call 20; refine HC.out.mono ?_))
  rintro e w3 ⟨v7, rfl, ho⟩
  have hM3 := HM2.out.add ho.low ho.own ho.new (Nat.le_of_lt HS2.out.1.lt)
  have HS3 : Kept (Blk w3 B #[.slice A0 65 c0] 22 ∧ Below B w w3) := kept ⟨(ho.low.block B HS2.out.1.lt).trans HS2.out.1, HS2.out.2.trans (ho.low.mono (Nat.le_of_lt HS2.out.1.lt))⟩
  obtain ⟨a7, c7, rfl, ha7⟩ := sliceX ho.own
  have HM3 := kept hM3
  obtain ⟨n, hn⟩ : ∃ n, n = (ordL l0).length := ⟨_, rfl⟩
  rw [← hn] at HM3 HSm ⊢
  have HN := kept hn
  have HA7 := kept ha7
  clear ho hM3 hn ha7 HC HM2 HS2 hb0
  by_cases hn1 : n = 1
  · subst hn1
    have hlen1 : (ordL l0).length = 1 := HN.out.symm
    obtain ⟨k, hk⟩ : ∃ k, ordL l0 = [k] := List.length_eq_one_iff.1 hlen1
    obtain ⟨g7, rfl⟩ := HA7.out (by rw [hk]; simp)
    have hk65 : k < 65 := by have h := (mem_ordL (f := l0) (i := k)).1 (by rw [hk]; simp); rw [← HL.out]; exact h.1
    have hcell7 : w3.cell? ⟨g7, 0, none⟩ = some (.int .i64 (k : Int)) := by
      have := (HM3.out.own 1 _ _ rfl).cell (j := 0) (idx_at _ 0 (by rw [hlen1]; decide))
      rw [hk] at this; exact this
    have co := (HM3.out.own 0 _ _ rfl).cell (j := k) (Own.ints_at .i64 (List.replicate 65 0) k (by simpa using hk65))
    have fo := (HM3.out.own 0 _ _ rfl).free k
    have HLen : Kept (lenL l0 m = (List.replicate 65 0).set k 1) := kept (by
      have e : lensOf l0 m = [1] := by unfold lensOf; rw [if_pos hlen1]
      unfold lenL; rw [e, hk]; rfl)
    have hM4 := (HM3.out.store 0 rfl k (.int .i64 1) (Nat.le_of_lt HS3.out.1.lt)).rest
    rw [← ints_set] at hM4
    have HM4 : Kept (Many B (w3.setCell ⟨g, k, none⟩ (.int .i64 1)) 3 [(.slice (some ⟨g, 0, none⟩) 65 65, ints .i64 (lenL l0 m))]) := kept (by rw [HLen.out]; exact hM4)
    have hc4 : Chg (fun b => some b = (Value.slice (some ⟨g, 0, none⟩) 65 65).ownBlock) w3 (w3.setCell ⟨g, k, none⟩ (.int .i64 1)) := (Chg.setCell w3 ⟨g, k, none⟩ (.int .i64 1)).mono fun b _ hb => by rw [hb]; rfl
    have HS4 : Kept (Below B w (w3.setCell ⟨g, k, none⟩ (.int .i64 1))) := kept (HS3.out.2.trans (HM3.out.below 0 rfl hc4 (Nat.le_of_lt HS3.out.1.lt)))
    clear hk hlen1 hM4 hc4
    go_wp2_with fail
    go_ret2
    exact ⟨_, rfl, HM4.out.own 0 _ _ rfl, HM4.out.new 0 _ _ rfl, HS4.out⟩
  · have hn0 : n = 0 := by have := HSm.out; omega
    subst hn0
    have HLen : Kept (lenL l0 m = List.replicate 65 0) := kept (by
      have e : ordL l0 = [] := List.length_eq_zero_iff.1 HN.out.symm
      unfold lenL; rw [e, scat_nil])
    clear hn1
    go_wp2_with fail
    go_ret2
    exact ⟨_, rfl, by rw [HLen.out]; exact HM3.out.own 0 _ _ rfl, HM3.out.new 0 _ _ rfl, HS3.out.2⟩
end Go.Proofs.Ytejecpmfhgplmaa

-- ---- Ml
/- merge.Lengths: the memory on the way. Conditions: those that each theorem names. -/
namespace Go.Proofs.Ytejecpmfhgplmaa
set_option linter.unusedSimpArgs false
set_option linter.unusedVariables false
open Go.RowKit Mix _root_.Go.Proofs.Ytejecpmfhgplmaa.Own Dp Ol

theorem infoB : (Try.prog.info? 57).map (fun i => (i.zero, i.size, i.bytes)) = some (some (.agg #[.int .i64 0, .int .i64 0, .bool false, .bool false]), 4, 24) := by kernel_rfl
theorem madeB (N : Nat) : (madeCells #[Value.int .i64 0, .int .i64 0, .bool false, .bool false] (N * 4)).toList = flB (List.replicate N (0, 0, false, false)) := by
  unfold madeCells
  rw [Array.toList_map, Array.toList_range]
  induction N with
  | zero => rfl
  | succ N ih =>
    have e : flB (List.replicate (N + 1) (0, 0, false, false)) = flB (List.replicate N (0, 0, false, false)) ++ bstV (0, 0, false, false) := by
      unfold flB; rw [List.replicate_succ', List.flatMap_append]; simp
    rw [e, ← ih, show (N + 1) * 4 = N * 4 + 1 + 1 + 1 + 1 by omega]
    simp only [List.range_succ, List.map_append, List.map_cons, List.map_nil, List.append_assoc, List.cons_append, List.nil_append]
    rw [show N * 4 % (#[Value.int .i64 0, Value.int .i64 0, Value.bool false, Value.bool false] : Array Value).size = 0 by simp, show (N * 4 + 1) % (#[Value.int .i64 0, Value.int .i64 0, Value.bool false, Value.bool false] : Array Value).size = 1 by simp <;> omega,
      show (N * 4 + 1 + 1) % (#[Value.int .i64 0, Value.int .i64 0, Value.bool false, Value.bool false] : Array Value).size = 2 by simp <;> omega, show (N * 4 + 1 + 1 + 1) % (#[Value.int .i64 0, Value.int .i64 0, Value.bool false, Value.bool false] : Array Value).size = 3 by simp <;> omega]
    rfl

/-- Before the maker: the box of the frequencies, the lengths, the order; what has been made so far. -/
structure C10 (B : Nat) (w x : World) (fq : Value) (R : List (Value × List Value)) (hv : Option Value) (N : Nat) (qv : Option Nat) (pv : Option (Nat × Value × Int × Value)) : Prop where
  box : Blk x B #[fq] 22
  low : Below B w x
  many : Many B x 3 R
  had : ∀ v, hv = some v → OwnK x 57 4 v N (flB (List.replicate N (0, 0, false, false))) ∧ ∀ b, v.ownBlock = some b → B ≤ b
  ptr : ∀ q, qv = some q → Blk x q #[.pointer none] 47 ∧ B ≤ q
  mkr : ∀ t, pv = some t → Blk x t.1 #[t.2.1, .int .i64 t.2.2.1, t.2.2.2] 50 ∧ B ≤ t.1
section
variable {B : Nat} {w x y : World} {fq : Value} {R : List (Value × List Value)} {hv : Option Value} {N : Nat} {qv : Option Nat} {pv : Option (Nat × Value × Int × Value)}
theorem C10.sz (h : C10 B w x fq R hv N qv pv) : B ≤ x.heap.size := Nat.le_of_lt h.box.lt
theorem C10.later (h : C10 B w x fq R hv N qv pv) (hb : Below x.heap.size x y) : C10 B w y fq R hv N qv pv :=
  ⟨(hb.block B h.box.lt).trans h.box, h.low.trans (hb.mono h.sz), h.many.later hb, fun v hv => ⟨(h.had v hv).1.later hb, (h.had v hv).2⟩,
    fun q hq => ⟨(hb.block q (h.ptr q hq).1.lt).trans (h.ptr q hq).1, (h.ptr q hq).2⟩, fun t ht => ⟨(hb.block t.1 (h.mkr t ht).1.lt).trans (h.mkr t ht).1, (h.mkr t ht).2⟩⟩
theorem C10.mkInts (h : C10 B w x fq R hv N qv pv) {k : Nat} (hO : Owns y 3 (.slice (some ⟨x.heap.size, 0, none⟩) k k) (List.replicate k (.int .i64 0))) (hb : Below x.heap.size x y) (g : Nat) (hg : g = x.heap.size) :
    C10 B w y fq (R ++ [(.slice (some ⟨g, 0, none⟩) k k, ints .i64 (List.replicate k 0))]) hv N qv pv := by
  subst hg
  have h2 := h.later hb
  have e : List.replicate k (Value.int .i64 0) = ints .i64 (List.replicate k 0) := by unfold ints; rw [List.map_replicate]
  rw [e] at hO
  exact ⟨h2.box, h2.low, h.many.add hb hO (fun b hb => by simp [Value.ownBlock] at hb; omega) h.sz, h2.had, h2.ptr, h2.mkr⟩
theorem C10.mkBest (h : C10 B w x fq R hv N qv pv) {n : Nat} (hn : n = N) (hO : y.ownsRow 0 57 4 (.slice (some ⟨x.heap.size, 0, none⟩) n n) n (madeCells (Value.agg #[.int .i64 0, .int .i64 0, .bool false, .bool false]).cells (n * 4)).toList) (hg : x.grownBy y none) (g : Nat) (hgx : g = x.heap.size) :
    C10 B w y fq R (some (.slice (some ⟨g, 0, none⟩) N N)) N qv pv := by
  subst hgx hn
  have hb : Below x.heap.size x y := ⟨hg.os, hg.tape, hg.output, hg.size, fun k hk => hg.block k hk (by simp)⟩
  have h2 := h.later hb
  have e : (Value.agg #[.int .i64 0, .int .i64 0, .bool false, .bool false]).cells = #[Value.int .i64 0, .int .i64 0, .bool false, .bool false] := rfl
  rw [e, madeB] at hO
  refine ⟨h2.box, h2.low, h2.many, fun v hv => ?_, h2.ptr, h2.mkr⟩
  cases hv
  exact ⟨hO, fun b hb => by simp [Value.ownBlock] at hb; have := h.sz; omega⟩
theorem C10.alloc (h : C10 B w x fq R hv N qv pv) (q : Nat) (hq : q = x.heap.size) : C10 B w (x.alloc (.cells #[.pointer none] 47)) fq R hv N (some q) pv := by
  subst hq
  have hb : Below x.heap.size x (x.alloc (.cells #[.pointer none] 47)) := (Below.refl _ _).alloc (Nat.le_refl _) _
  have h2 := h.later hb
  exact ⟨h2.box, h2.low, h2.many, h2.had, fun q hq => by cases hq; exact ⟨Blk.fresh _ _ _, h.sz⟩, h2.mkr⟩
theorem C10.boxed (h : C10 B w x fq R hv N qv pv) (vs : Value) (lim : Int) (vh : Value) (p : Nat) (hp : p = x.heap.size) : C10 B w (x.alloc (.cells #[vs, .int .i64 lim, vh] 50)) fq R hv N qv (some (p, vs, lim, vh)) := by
  subst hp
  have hb : Below x.heap.size x (x.alloc (.cells #[vs, .int .i64 lim, vh] 50)) := (Below.refl _ _).alloc (Nat.le_refl _) _
  have h2 := h.later hb
  exact ⟨h2.box, h2.low, h2.many, h2.had, h2.ptr, fun t ht => by cases ht; exact ⟨Blk.fresh _ _ _, h.sz⟩⟩
end

/-- With the maker. -/
structure StM (B : Nat) (w W : World) (fq : Value) (g g7 c7 : Nat) (l : List Int) (m q9 p : Nat) (vs vh : Value) (xs S : List Int) (H : List Bst) : Prop where
  box : Blk W B #[fq] 22
  low : Below B w W
  ptr : Blk W q9 #[.pointer (some ⟨p, 0, none⟩)] 47
  blk : Blk W p #[vs, .int .i64 (m : Int), vh] 50
  many : Many B W 3 [(.slice (some ⟨g, 0, none⟩) 65 65, ints .i64 xs), (.slice (some ⟨g7, 0, none⟩) (ordL l).length c7, idx (ordL l)), (vs, ints .i64 S)]
  had : OwnK W 57 4 vh H.length (flB H)
  hnew : ∀ b, vh.ownBlock = some b → B ≤ b
  qB : B ≤ q9
  pB : B ≤ p
section
variable {B : Nat} {w W W' : World} {fq : Value} {g g7 c7 : Nat} {l : List Int} {m q9 p : Nat} {vs vh : Value} {xs S : List Int} {H : List Bst}
theorem C10.done {x : World} {N : Nat} (h : C10 B w x fq [(.slice (some ⟨g, 0, none⟩) 65 65, ints .i64 xs), (.slice (some ⟨g7, 0, none⟩) (ordL l).length c7, idx (ordL l)), (vs, ints .i64 S)] (some vh) N (some q9) (some (p, vs, (m : Int), vh))) :
    StM B w (x.setCell ⟨q9, 0, none⟩ (.pointer (some ⟨p, 0, none⟩))) fq g g7 c7 l m q9 p vs vh xs S (List.replicate N (0, 0, false, false)) ∧ x.cell? ⟨q9, 0, none⟩ = some (.pointer none) ∧ x.frozen? ⟨q9, 0, none⟩ = false := by
  obtain ⟨h1, h2⟩ := h.had vh rfl
  obtain ⟨h3, h4⟩ := h.ptr q9 rfl
  obtain ⟨h5, h6⟩ := h.mkr _ rfl
  refine ⟨⟨h.box.setOther (h.box.ne h3 (by decide)) _, h.low.setCell h4 _, h3.set 0 _, h5.setOther (h5.ne h3 (by decide)) _, h.many.setBlk h3 (by decide) 0 _, ?_, h2, h4, h6⟩, h3.cell rfl, h3.free 0⟩
  rw [List.length_replicate]
  exact h1.setOther (h1.ne h3 (by decide)) _
theorem C10.done2 {x : World} {N : Nat} (h : C10 B w x fq [(.slice (some ⟨g, 0, none⟩) 65 65, ints .i64 xs), (.slice (some ⟨g7, 0, none⟩) (ordL l).length c7, idx (ordL l)), (vs, ints .i64 S)] (some vh) N none (some (p, vs, (m : Int), vh))) (q9 : Nat) (hq : q9 = x.heap.size) :
    StM B w (x.alloc (.cells #[.pointer (some ⟨p, 0, none⟩)] 47)) fq g g7 c7 l m q9 p vs vh xs S (List.replicate N (0, 0, false, false)) := by
  subst hq
  have hb : Below x.heap.size x (x.alloc (.cells #[.pointer (some ⟨p, 0, none⟩)] 47)) := (Below.refl _ _).alloc (Nat.le_refl _) _
  have h' := h.later hb
  obtain ⟨h1, h2⟩ := h'.had vh rfl
  obtain ⟨h5, h6⟩ := h'.mkr _ rfl
  refine ⟨h'.box, h'.low, Blk.fresh _ _ _, h5, h'.many, ?_, h2, h.sz, h6⟩
  rw [List.length_replicate]
  exact h1
theorem StM.sz (h : StM B w W fq g g7 c7 l m q9 p vs vh xs S H) : B ≤ W.heap.size := Nat.le_of_lt h.box.lt
theorem StM.later (h : StM B w W fq g g7 c7 l m q9 p vs vh xs S H) (hb : Below W.heap.size W W') : StM B w W' fq g g7 c7 l m q9 p vs vh xs S H :=
  ⟨(hb.block B h.box.lt).trans h.box, h.low.trans (hb.mono h.sz), (hb.block q9 h.ptr.lt).trans h.ptr, (hb.block p h.blk.lt).trans h.blk, h.many.later hb, h.had.later hb, h.hnew, h.qB, h.pB⟩
theorem StM.out (h : StM B w W fq g g7 c7 l m q9 p vs vh xs S H) : Owns W 3 (.slice (some ⟨g, 0, none⟩) 65 65) (ints .i64 xs) := h.many.own 0 _ _ rfl
theorem StM.ordAt (h : StM B w W fq g g7 c7 l m q9 p vs vh xs S H) (i : Nat) (hi : i < (ordL l).length) : W.cell? ⟨g7, i, none⟩ = some (.int .i64 (((ordL l).getD i 0 : Nat) : Int)) := (h.many.own 1 _ _ rfl).cell (idx_at _ i hi)
/-- One number of the lengths is laid. -/
theorem StM.storeOut (h : StM B w W fq g g7 c7 l m q9 p vs vh xs S H) (j : Nat) (v : Int) : StM B w (W.setCell ⟨g, j, none⟩ (.int .i64 v)) fq g g7 c7 l m q9 p vs vh (xs.set j v) S H := by
  have hc : Chg (fun k => some k = (Value.slice (some ⟨g, 0, none⟩) 65 65).ownBlock) W (W.setCell ⟨g, j, none⟩ (.int .i64 v)) := (Chg.setCell W ⟨g, j, none⟩ (.int .i64 v)).mono fun k _ hk => by rw [hk]; rfl
  refine ⟨h.many.other 0 rfl hc h.box (by decide), h.low.trans (h.many.below 0 rfl hc h.sz), h.many.other 0 rfl hc h.ptr (by decide), h.many.other 0 rfl hc h.blk (by decide), ?_, h.had.setOther (h.had.neO h.out (by decide) (g := g) rfl) _, h.hnew, h.qB, h.pB⟩
  have := h.many.store 0 rfl j (.int .i64 v) h.sz
  rw [← ints_set] at this; exact this
/-- One sum is laid. -/
theorem StM.storeSum {gs cs n : Nat} (h : StM B w W fq g g7 c7 l m q9 p (.slice (some ⟨gs, 0, none⟩) n cs) vh xs S H) (j : Nat) (v : Int) : StM B w (W.setCell ⟨gs, j, none⟩ (.int .i64 v)) fq g g7 c7 l m q9 p (.slice (some ⟨gs, 0, none⟩) n cs) vh xs (S.set j v) H := by
  have hc : Chg (fun k => some k = (Value.slice (some ⟨gs, 0, none⟩) n cs).ownBlock) W (W.setCell ⟨gs, j, none⟩ (.int .i64 v)) := (Chg.setCell W ⟨gs, j, none⟩ (.int .i64 v)).mono fun k _ hk => by rw [hk]; rfl
  refine ⟨h.many.other 2 rfl hc h.box (by decide), h.low.trans (h.many.below 2 rfl hc h.sz), h.many.other 2 rfl hc h.ptr (by decide), h.many.other 2 rfl hc h.blk (by decide), ?_, h.had.setOther (h.had.neO (h.many.own 2 _ _ rfl) (by decide) (g := gs) rfl) _, h.hnew, h.qB, h.pB⟩
  have := h.many.store 2 rfl j (.int .i64 v) h.sz
  rw [← ints_set] at this; exact this
theorem StM.tab {G : List Int} (h : StM B w W fq g g7 c7 l m q9 p vs vh xs (sums G) H) : TabM W p vs vh m G H := ⟨h.blk, h.many.own 2 _ _ rfl, h.had⟩
/-- A node has been told. -/
theorem StM.told {G : List Int} {H' : List Bst} (h : StM B w W fq g g7 c7 l m q9 p vs vh xs S H) (hT : TabM W' p vs vh m G H') (hc : Chg (fun b => some b = vh.ownBlock) W W') : StM B w W' fq g g7 c7 l m q9 p vs vh xs S H' := by
  have hk : ∀ {q : Nat} {cs : Array Value} {t : TypeId}, Blk W q cs t → 57 ≠ t → Blk W' q cs t := fun hb hn => hc.keep hb fun e => h.had.ne hb hn e.symm
  refine ⟨hk h.box (by decide), h.low.trans (hc.below h.sz fun k hk e => by have := h.hnew k e.symm; omega), hk h.ptr (by decide), hT.blk, ?_, hT.rh, h.hnew, h.qB, h.pB⟩
  exact h.many.chg hc fun i v xs hi b hb e => h.had.neO (h.many.own i v xs hi) (by decide) hb e.symm
/-- What is no cells has turned. -/
theorem StM.turn {row : Option Nat} {B' : Nat} (h : StM B w W fq g g7 c7 l m q9 p vs vh xs S H) (hg : W.grownBy W' row) (hr : ∀ r, row = some r → B' ≤ r ∧ ∃ o : Obj, W.heap[r]? = some o ∧ o.isCells = false) (hB : B ≤ B') : StM B w W' fq g g7 c7 l m q9 p vs vh xs S H := by
  have hc := Chg.of_grown hg
  have ne : ∀ {q : Nat} {cs : Array Value} {t : TypeId}, Blk W q cs t → ¬ some q = row := fun hb e => by
    obtain ⟨_, o, ho, hf⟩ := hr _ e.symm
    rw [show W.heap[_]? = _ from hb] at ho
    cases ho; cases hf
  have hk : ∀ {q : Nat} {cs : Array Value} {t : TypeId}, Blk W q cs t → Blk W' q cs t := fun hb => hc.keep hb (ne hb)
  refine ⟨hk h.box, h.low.grown hg h.sz (fun k e => Nat.le_trans hB (hr k e).1), hk h.ptr, hk h.blk, ?_, ?_, h.hnew, h.qB, h.pB⟩
  · exact h.many.chg hc fun i v xs hi b hb e => by obtain ⟨cur, hbk⟩ := (h.many.own i v xs hi).blk b hb; exact ne hbk e
  · exact h.had.chg hc fun b hb e => by obtain ⟨cur, hbk⟩ := h.had.blk b hb; exact ne hbk e
end

/-- In the loop over the levels: the level's node at q, the deferred block D. -/
structure StX (B : Nat) (w W : World) (fq : Value) (g g7 c7 : Nat) (l : List Int) (m q9 p : Nat) (vs vh : Value) (xs S : List Int) (H : List Bst) (D q d j o : Nat) : Prop where
  st : StM B w W fq g g7 c7 l m q9 p vs vh xs S H
  node : Blk W q #[.int .i64 (d : Int), .int .i64 (j : Int), .int .i64 (o : Int)] 55
  qn : B ≤ q
  dk : W.heap[D]? = some (.deferred (some []))
section
variable {B : Nat} {w W W' : World} {fq : Value} {g g7 c7 : Nat} {l : List Int} {m q9 p : Nat} {vs vh : Value} {xs S : List Int} {H : List Bst} {D q d j o : Nat}
theorem dk_ne {D p : Nat} {cs : Array Value} {t : TypeId} (h : W.heap[D]? = some (.deferred (some []))) (hb : Blk W p cs t) : D ≠ p := fun e => by
  rw [e, show W.heap[p]? = _ from hb] at h; cases h
theorem StX.later (h : StX B w W fq g g7 c7 l m q9 p vs vh xs S H D q d j o) (hb : Below W.heap.size W W') : StX B w W' fq g g7 c7 l m q9 p vs vh xs S H D q d j o :=
  ⟨h.st.later hb, (hb.block q h.node.lt).trans h.node, h.qn, (hb.block D (lt_of_some h.dk)).trans h.dk⟩
theorem StX.told {G : List Int} {H' : List Bst} (h : StX B w W fq g g7 c7 l m q9 p vs vh xs S H D q d j o) (hT : TabM W' p vs vh m G H') (hc : Chg (fun b => some b = vh.ownBlock) W W') : StX B w W' fq g g7 c7 l m q9 p vs vh xs S H' D q d j o :=
  ⟨h.st.told hT hc, hc.keep h.node fun e => h.st.had.ne h.node (by decide) e.symm, h.qn, hc.keep h.dk fun e => by
    obtain ⟨cur, hb⟩ := h.st.had.blk D e.symm
    exact dk_ne h.dk hb rfl⟩
theorem StX.storeOut (h : StX B w W fq g g7 c7 l m q9 p vs vh xs S H D q d j o) (i : Nat) (v : Int) : StX B w (W.setCell ⟨g, i, none⟩ (.int .i64 v)) fq g g7 c7 l m q9 p vs vh (xs.set i v) S H D q d j o := by
  obtain ⟨cur, hb⟩ := h.st.out.blk g rfl
  exact ⟨h.st.storeOut i v, h.node.setOther (h.node.ne hb (by decide)) _, h.qn, (Below.heap_setCell W ⟨g, i, none⟩ _ D (dk_ne h.dk hb)).trans h.dk⟩
/-- The next level's node: laid over this one, and copied. -/
theorem StX.next (h : StX B w W fq g g7 c7 l m q9 p vs vh xs S H D q d j o) (d2 j2 o2 : Nat) (q2 : Nat) (hq : q2 = W.heap.size) (W2 : World)
    (e2 : W2 = ((W.setCell ⟨q, 0, none⟩ (.int .i64 (d2 : Int))).setCell ⟨q, 1, none⟩ (.int .i64 (j2 : Int))).setCell ⟨q, 2, none⟩ (.int .i64 (o2 : Int))) :
    Blk W2 q #[.int .i64 (d2 : Int), .int .i64 (j2 : Int), .int .i64 (o2 : Int)] 55 ∧ W2.heap.size = W.heap.size ∧
    StX B w (W2.alloc (.cells #[.int .i64 (d2 : Int), .int .i64 (j2 : Int), .int .i64 (o2 : Int)] 55)) fq g g7 c7 l m q9 p vs vh xs S H D q2 d2 j2 o2 := by
  have hsz : W2.heap.size = W.heap.size := by rw [e2]; simp [World.setCell]
  have step : ∀ (X : World) (cs : Array Value) (i : Nat) (v : Value), StM B w X fq g g7 c7 l m q9 p vs vh xs S H → Blk X q cs 55 → X.heap[D]? = some (.deferred (some [])) →
      StM B w (X.setCell ⟨q, i, none⟩ v) fq g g7 c7 l m q9 p vs vh xs S H ∧ Blk (X.setCell ⟨q, i, none⟩ v) q (cs.setIfInBounds i v) 55 ∧ (X.setCell ⟨q, i, none⟩ v).heap[D]? = some (.deferred (some [])) := fun X cs i v hs hn hd =>
    ⟨⟨hs.box.setOther (hs.box.ne hn (by decide)) _, hs.low.setCell h.qn _, hs.ptr.setOther (hs.ptr.ne hn (by decide)) _, hs.blk.setOther (hs.blk.ne hn (by decide)) _, hs.many.setBlk hn (by decide) i v, hs.had.setOther (hs.had.ne hn (by decide)) _, hs.hnew, hs.qB, hs.pB⟩,
      hn.set i v, (Below.heap_setCell X ⟨q, i, none⟩ v D (dk_ne hd hn)).trans hd⟩
  obtain ⟨a1, a2, a3⟩ := step W _ 0 (.int .i64 (d2 : Int)) h.st h.node h.dk
  obtain ⟨b1, b2, b3⟩ := step _ _ 1 (.int .i64 (j2 : Int)) a1 a2 a3
  obtain ⟨c1, c2, c3⟩ := step _ _ 2 (.int .i64 (o2 : Int)) b1 b2 b3
  rw [← e2] at c1 c2 c3
  have hb : Below W2.heap.size W2 (W2.alloc (.cells #[.int .i64 (d2 : Int), .int .i64 (j2 : Int), .int .i64 (o2 : Int)] 55)) := (Below.refl _ _).alloc (Nat.le_refl _) _
  refine ⟨c2, hsz, c1.later hb, Blk.fresh_at _ _ (by rw [hq, hsz]) _ _, ?_, (hb.block D (lt_of_some c3)).trans c3⟩
  rw [hq]; exact h.st.sz
end
/-- How deep a node is, as the loop's measure reads it. -/
def deepOf (W : World) (v : Value) : Nat := match v with
  | .pointer (some a) => (match W.cell? a with
    | some (.int _ d) => d.toNat
    | _ => 0)
  | _ => 0
theorem deepOf_is {W : World} {q d j o : Nat} (h : Blk W q #[.int .i64 (d : Int), .int .i64 (j : Int), .int .i64 (o : Int)] 55) : deepOf W (.pointer (some ⟨q, 0, none⟩)) = d := by
  unfold deepOf; simp only; rw [h.cell (i := 0) rfl]; simp

/-- The sums as a loop lays them. -/
def stS (F : List Int) (n : Nat) (is : List Nat) : List Int := is.foldl (fun s i => s.set i (s.getD (i + 1) 0 + F.getD i 0)) (List.replicate (n + 1) 0)
theorem stS_snoc (F : List Int) (n : Nat) (is : List Nat) (i : Nat) : stS F n (is ++ [i]) = (stS F n is).set i ((stS F n is).getD (i + 1) 0 + F.getD i 0) := by unfold stS; rw [List.foldl_append]; rfl
theorem length_stS (F : List Int) (n : Nat) (is : List Nat) : (stS F n is).length = n + 1 := by
  unfold stS
  suffices h : ∀ (s : List Int), (is.foldl (fun s i => s.set i (s.getD (i + 1) 0 + F.getD i 0)) s).length = s.length by rw [h, List.length_replicate]
  intro s
  induction is generalizing s with
  | nil => rfl
  | cons a t ih => rw [List.foldl_cons, ih, List.length_set]
theorem stS_dnl (F : List Int) : ∀ k, k ≤ F.length → stS F F.length (dnl F.length k) = sumsN F (F.length - k) := by
  intro k
  induction k with
  | zero => intro _; rw [Nat.sub_zero, sumsN_none]; rfl
  | succ k ih =>
    intro hk
    rw [dnl_succ, stS_snoc, ih (by omega), show F.length - k = (F.length - 1 - k) + 1 by omega, sumsN_at F _ (by omega), sumsN_set F _ (by omega), show F.length - (k + 1) = F.length - 1 - k by omega]
theorem stS_le (F : List Int) (hF : ∀ x ∈ F, 0 ≤ x ∧ x ≤ 16777216) (n : Nat) : ∀ (is : List Nat) (j : Nat), 0 ≤ (stS F n is).getD j 0 ∧ (stS F n is).getD j 0 ≤ 16777216 * (is.length : Int) := by
  intro is
  have hFd : ∀ i, 0 ≤ F.getD i 0 ∧ F.getD i 0 ≤ 16777216 := fun i => by
    rcases Nat.lt_or_ge i F.length with h | h
    · have := hF F[i] (List.getElem_mem h); simp [List.getD_eq_getElem?_getD, h]; exact this
    · simp [List.getD_eq_getElem?_getD, h]
  suffices h : ∀ (is : List Nat) (s : List Int) (K : Int), 0 ≤ K → (∀ j, 0 ≤ s.getD j 0 ∧ s.getD j 0 ≤ K) → ∀ j, 0 ≤ (is.foldl (fun s i => s.set i (s.getD (i + 1) 0 + F.getD i 0)) s).getD j 0 ∧ (is.foldl (fun s i => s.set i (s.getD (i + 1) 0 + F.getD i 0)) s).getD j 0 ≤ K + 16777216 * (is.length : Int) by
    intro j
    have := h is (List.replicate (n + 1) 0) 0 (by omega) (fun j => by rw [getD_rep]; omega) j
    unfold stS; omega
  intro is
  induction is with
  | nil => intro s K h0 hs j; have := hs j; simp only [List.foldl_nil, List.length_nil]; omega
  | cons a t ih =>
    intro s K h0 hs j
    rw [List.foldl_cons]
    have h1 := hs (a + 1)
    have h2 := hFd a
    have := ih (s.set a (s.getD (a + 1) 0 + F.getD a 0)) (K + 16777216) (by omega) (fun j => ?_) j
    · rw [List.length_cons]; omega
    · by_cases e : a = j
      · subst e
        rcases Nat.lt_or_ge a s.length with h | h
        · simp only [List.getD_eq_getElem?_getD, List.getElem?_set_self h, Option.getD_some] at h1 h2 ⊢; omega
        · have h3 := hs a
          rw [List.set_eq_of_length_le h]; omega
      · have h3 := hs j
        simp only [List.getD_eq_getElem?_getD, List.getElem?_set_ne e] at h3 ⊢; omega
end Go.Proofs.Ytejecpmfhgplmaa

-- ---- Mn
/- merge.Lengths: the lengths of two classes and more. Conditions: the list reads as the argument does. -/
namespace Go.Proofs.Ytejecpmfhgplmaa
set_option linter.unusedSimpArgs false
set_option linter.unusedVariables false
open Go.RowKit Go.Shelf Mix _root_.Go.Proofs.Ytejecpmfhgplmaa.Own Dp Ol
attribute [local go_sem] Own.max_int Own.min_int
attribute [local go_sem] Oper.semAt_some

/-- What the call leaves. -/
def MLenE (l : List Int) (m : Nat) (w : World) (e : Ending) (w' : World) : Prop :=
  ∃ v, e = .returned (.tuple #[v, .int .i64 0]) ∧ Owns w' 3 v (ints .i64 (lenL l m)) ∧ (∀ g, v.ownBlock = some g → w.heap.size ≤ g) ∧ Below w.heap.size w w'

set_option maxRecDepth 100000 in
set_option maxHeartbeats 16000000 in
theorem mlen_ok (A0 : Option Addr) (c0 : Nat) (l0 : List Int) (m : Nat) (w : World) (hR : Rd w (.slice A0 65 65) (ints .i64 l0)) (hf : Fq l0 m) (hs : 2 ≤ (ordL l0).length) :
    Calls Try.prog 11 #[.slice A0 65 c0, .int .i64 (m : Int)] w (MLenE l0 m w) := by
  obtain ⟨i0, hi, hz0, hz1, hz2⟩ := info_partsI infoI64
  obtain ⟨ib, hbi, hb0, hb1, hb2⟩ := info_partsI infoB
  have h65 := hf.len
  obtain ⟨B, hB⟩ : ∃ B, B = w.heap.size := ⟨_, rfl⟩
  have hbw : Below w.heap.size w (w.alloc (.cells #[.slice A0 65 c0] 22)) := (Below.refl _ _).alloc (Nat.le_refl _) _
  have hmay := mmay_calls A0 65 c0 l0 m _ (hR.later hbw) (by decide)
  rw [(fqB_iff l0 m).2 ⟨m, rfl, hf⟩] at hmay
  have hro := fun w1 (h : Below w.heap.size w w1) => HistH.horder_calls A0 65 c0 l0 w1 (hR.later h) (by decide)
  have HM := kept hmay
  have HBW := kept hbw
  have HB := kept hB
  have HF := kept hf
  have HL := kept h65
  have HR := kept hR
  have HRo := kept hro
  have HSm := kept hs
  clear hB hf hR h65 hro hmay hbw hs
  refine callsIn_wide.1 (callsIn_of_wp_marks (n := 9) Try.func11 rfl trivial ?_ rfl)
  simp only [Try.ntmps11, List.size_toArray, List.length_cons, List.length_nil, Nat.reduceAdd, Nat.reduceSub, Array.replicate_succ, Array.replicate_zero, List.push_toArray, List.append_toArray, List.nil_append, List.cons_append]
  refine wpIn_wide.2 ?_
  go_upto_region 3 with (first | (go_at_call 19; refine HM.out.mono ?_; rintro e w1 ⟨rfl, rfl⟩))
  rw [show w.heap.size = B from HB.out.symm]
  generalize hw1 : World.alloc w _ = w1
  have HS1 : Kept (Blk w1 B #[.slice A0 65 c0] 22 ∧ Below B w w1) := kept (by rw [← hw1, HB.out]; exact ⟨Blk.fresh _ _ _, (Below.refl _ _).alloc (Nat.le_refl _) _⟩)
  clear hw1
  go_wp2_with (first | (refine wpList_mk1 rfl _ _ 22 rfl 3 i0 (.int .i64 0) 8 Try.underlying22 hi hz0 hz1 hz2 rfl .i64 .i64 _ _ 65 rfl rfl rfl rfl (by decide) (by decide) ?_))
  intro w2 hO hb hlt2
  obtain ⟨g, hg⟩ : ∃ g, g = w1.heap.size := ⟨_, rfl⟩
  have hM2 : Many B w2 3 [(.slice (some ⟨g, 0, none⟩) 65 65, ints .i64 (List.replicate 65 0))] := by
    have := (Many.nil B w1 3).add (v := .slice (some ⟨w1.heap.size, 0, none⟩) 65 65) hb hO (fun b hb => by simp [Value.ownBlock] at hb; omega) (Nat.le_of_lt HS1.out.1.lt)
    rw [hg]; simpa [ints] using this
  have HS2 : Kept (Blk w2 B #[.slice A0 65 c0] 22 ∧ Below B w w2) := kept ⟨(hb.block B HS1.out.1.lt).trans HS1.out.1, HS1.out.2.trans (hb.mono (Nat.le_of_lt HS1.out.1.lt))⟩
  have HM2 := kept hM2
  rw [← hg]
  have HC := kept (HRo.out w2 (by rw [← HB.out]; exact HS2.out.2))
  have hb0 := HS2.out.1.cell (i := 0) rfl
  clear hO hb hlt2 hg hM2 HS1
  go_wp2_with (first | (go_at_call 20; refine HC.out.mono ?_))
  rintro e w3 ⟨v7, rfl, ho⟩
  have hM3 := HM2.out.add ho.low ho.own ho.new (Nat.le_of_lt HS2.out.1.lt)
  have HS3 : Kept (Blk w3 B #[.slice A0 65 c0] 22 ∧ Below B w w3) := kept ⟨(ho.low.block B HS2.out.1.lt).trans HS2.out.1, HS2.out.2.trans (ho.low.mono (Nat.le_of_lt HS2.out.1.lt))⟩
  obtain ⟨a7, c7, rfl, ha7⟩ := sliceX ho.own
  have HM3 := kept hM3
  obtain ⟨n, hn⟩ : ∃ n, n = (ordL l0).length := ⟨_, rfl⟩
  rw [← hn] at HSm ⊢
  have HN := kept hn
  have HA7 := kept ha7
  clear ho hM3 hn ha7 HC HM2 HS2 hb0
  obtain ⟨g7, rfl⟩ := HA7.out (by intro e; have := HN.out; rw [e] at this; simp at this; have := HSm.out; omega)
  have hnl := length_ordL l0
  rw [HL.out, ← HN.out] at hnl
  have hn2 : 2 ≤ n := HSm.out
  have tn1 : ((n : Int) == 1) = false := by rw [beq_eq_false_iff_ne]; omega
  have tn2 : decide ((n : Int) < 2) = false := by rw [decide_eq_false_iff_not]; omega
  obtain ⟨nn, hnn⟩ : ∃ nn, nn = n + 1 := ⟨_, rfl⟩
  have hm15 := HF.out.hi
  have hnnI : (n : Int) + 1 = (nn : Int) := by omega
  have hb1' : (m + 2) * nn ≤ 17 * 66 := Nat.mul_le_mul (by omega) (by omega)
  have hb2' : (m + 2) * nn * nn ≤ 17 * 66 * 66 := Nat.mul_le_mul hb1' (by omega)
  obtain ⟨A1, hA1⟩ : ∃ A1, A1 = (m + 2) * nn := ⟨_, rfl⟩
  obtain ⟨A2, hA2⟩ : ∃ A2, A2 = (m + 2) * nn * nn := ⟨_, rfl⟩
  have e1 : ((m : Int) + 2) * (nn : Int) = (A1 : Int) := by rw [hA1]; simp
  have e2 : (A1 : Int) * (nn : Int) = (A2 : Int) := by rw [hA2, hA1]; simp
  rw [← hA1] at hb1'
  rw [← hA2] at hb2'
  have hnn66 : nn ≤ 66 := by omega
  have HNN := kept hnn
  have HA2 := kept hA2
  clear hA1 hA2 hnn HA7
  go_upto_region 10 with (fail)
  go_cut [9] from 38 to 49 (fun s9 wx => ∃ q9 p vs vh, s9 = .pointer (some ⟨q9, 0, none⟩) ∧ StM B w wx (.slice A0 65 c0) g g7 c7 l0 m q9 p vs vh (List.replicate 65 0) (List.replicate nn 0) (List.replicate A2 (0, 0, false, false)))
  case first =>
    refine wp_region_treeL [0,2,3,4,5,6,7,8] [] (.three 1 (.two 9 (.two 10 (.two 11 (.seq [12,13]) 12 (.seq [11,13])) 12 (.seq [10,11,13])) 12 (.one 9 (.seq [10,11,13]))) 9 (.two 1 (.two 10 (.two 11 (.seq [12,13]) 12 (.seq [11,13])) 12 (.seq [10,11,13])) 12 (.one 1 (.seq [10,11,13]))) 12 (.two 1 (.one 9 (.seq [10,11,13])) 9 (.one 1 (.seq [10,11,13])))) (by kernel_rfl) (by kernel_rfl) ?_
    intro K hK
    simp only [pick, List.filterMap_cons, List.filterMap_nil, List.getElem?_cons_zero, List.getElem?_cons_succ]
    repeat (show wpQuiet _ _ _ _ (_ :: _) _; go_big_quiet_step (fail))
    refine wpQuiet_nil (wpQuiet_nil ?_)
    generalize hwd : World.drew w3 = x0
    have HC0 : Kept (C10 B w x0 (.slice A0 65 c0) ([(.slice (some ⟨g, 0, none⟩) 65 65, ints .i64 (List.replicate 65 0)), (.slice (some ⟨g7, 0, none⟩) (ordL l0).length c7, idx (ordL l0))]) none A2 none none) := kept (by rw [← hwd]; exact ⟨HS3.out.1, HS3.out.2.drew, HM3.out.later (Below.refl _ _).drew, (fun v h => by cases h), (fun v h => by cases h), (fun v h => by cases h)⟩)
    clear hwd
    refine (show _ ∧ _ ∧ _ from ⟨?_, ?_, ?_⟩)
    · show wpList _ _ _ [_] _ _
      refine wpList_mk1 rfl _ _ 22 rfl 3 i0 (.int .i64 0) 8 Try.underlying22 hi hz0 hz1 hz2 rfl .i64 .i64 _ _ nn rfl rfl rfl rfl (by omega) (by simp [maxLen]; omega) ?_
      intro x1 hO hb hlt2
      obtain ⟨gs2, hgs⟩ : ∃ g, g = x0.heap.size := ⟨_, rfl⟩
      rw [← hgs]
      have HC3 := kept (HC0.out.mkInts hO hb gs2 hgs)
      clear hO hb hlt2 hgs HC0
      change wpTr _ _ _ _ _ _
      unfold wpTr
      refine (show _ ∧ _ from ⟨?_, ?_⟩)
      · show wpList _ _ _ [_] _ _
        refine wpList_make_full _ rfl _ _ 48 rfl 0 57 ib _ 4 Try.underlying48 hbi hb0 hb1 .i64 .i64 _ _ A2 rfl rfl rfl rfl (by rw [hb2]; omega) (by simp [maxLen]; omega) (Nat.zero_le _) ?_
        intro x4 hO hg
        obtain ⟨gh5, hgs⟩ : ∃ g, g = x1.heap.size := ⟨_, rfl⟩
        rw [← hgs]
        have HC6 := kept (HC3.out.mkBest rfl hO hg gh5 hgs)
        clear hO hg hgs HC3
        change wpTr _ _ _ _ _ _
        unfold wpTr
        refine (show _ ∧ _ from ⟨?_, ?_⟩)
        · show wpList _ _ _ [_] _ _
          go_wp2_with fail
          change wpTr _ _ _ _ _ _
          unfold wpTr
          refine (show _ ∧ _ from ⟨?_, ?_⟩)
          · show wpList _ _ _ [_] _ _
            go_wp2_with fail
            obtain ⟨p8, hgs⟩ : ∃ g, g = x4.heap.size := ⟨_, rfl⟩
            rw [← hgs]
            have HC9 := kept (HC6.out.boxed (.slice (some ⟨gs2, 0, none⟩) nn nn) (m : Int) (.slice (some ⟨gh5, 0, none⟩) A2 A2) p8 hgs)
            generalize World.alloc x4 _ = x7 at HC9 ⊢
            clear hgs HC6
            change wpTr _ _ _ _ _ _
            unfold wpTr
            show wpList _ _ _ [_, _] _ _
            obtain ⟨q9, hgs⟩ : ∃ g, g = x7.heap.size := ⟨_, rfl⟩
            have HD := kept (HC9.out.done2 (m := m) q9 hgs)
            clear HC9
            go_wp2_with fail
            rw [← hgs]
            refine hK _ _ ?_
            go_wp2_with fail
            go_meet
            case rel => exact ⟨_, _, _, _, rfl, HD.out⟩
          · show wpList _ _ _ [_] _ _
            go_wp2_with fail
            obtain ⟨q911, hgs⟩ : ∃ g, g = x4.heap.size := ⟨_, rfl⟩
            rw [← hgs]
            have HC12 := kept (HC6.out.alloc q911 hgs)
            generalize World.alloc x4 _ = x10 at HC12 ⊢
            clear hgs HC6
            change wpTr _ _ _ _ _ _
            unfold wpTr
            show wpList _ _ _ [_, _] _ _
            obtain ⟨p, hgs⟩ : ∃ g, g = x10.heap.size := ⟨_, rfl⟩
            obtain ⟨hd, cq, fq⟩ := C10.done (m := m) (HC12.out.boxed (.slice (some ⟨gs2, 0, none⟩) nn nn) (m : Int) (.slice (some ⟨gh5, 0, none⟩) A2 A2) p hgs)
            have HD := kept hd
            clear hd HC12
            go_wp2_with fail
            rw [← hgs]
            refine hK _ _ ?_
            go_wp2_with fail
            go_meet
            case rel => exact ⟨_, _, _, _, rfl, HD.out⟩
        · show wpList _ _ _ [_] _ _
          go_wp2_with fail
          obtain ⟨q914, hgs⟩ : ∃ g, g = x4.heap.size := ⟨_, rfl⟩
          rw [← hgs]
          have HC15 := kept (HC6.out.alloc q914 hgs)
          generalize World.alloc x4 _ = x13 at HC15 ⊢
          clear hgs HC6
          change wpTr _ _ _ _ _ _
          unfold wpTr
          show wpList _ _ _ [_, _, _] _ _
          obtain ⟨p, hgs⟩ : ∃ g, g = x13.heap.size := ⟨_, rfl⟩
          obtain ⟨hd, cq, fq⟩ := C10.done (m := m) (HC15.out.boxed (.slice (some ⟨gs2, 0, none⟩) nn nn) (m : Int) (.slice (some ⟨gh5, 0, none⟩) A2 A2) p hgs)
          have HD := kept hd
          clear hd HC15
          go_wp2_with fail
          rw [← hgs]
          refine hK _ _ ?_
          go_wp2_with fail
          go_meet
          case rel => exact ⟨_, _, _, _, rfl, HD.out⟩
      · show wpList _ _ _ [_] _ _
        go_wp2_with fail
        obtain ⟨q917, hgs⟩ : ∃ g, g = x1.heap.size := ⟨_, rfl⟩
        rw [← hgs]
        have HC18 := kept (HC3.out.alloc q917 hgs)
        generalize World.alloc x1 _ = x16 at HC18 ⊢
        clear hgs HC3
        change wpTr _ _ _ _ _ _
        unfold wpTr
        show wpList _ _ _ [_] _ _
        refine wpList_make_full _ rfl _ _ 48 rfl 0 57 ib _ 4 Try.underlying48 hbi hb0 hb1 .i64 .i64 _ _ A2 rfl rfl rfl rfl (by rw [hb2]; omega) (by simp [maxLen]; omega) (Nat.zero_le _) ?_
        intro x19 hO hg
        obtain ⟨gh20, hgs⟩ : ∃ g, g = x16.heap.size := ⟨_, rfl⟩
        rw [← hgs]
        have HC21 := kept (HC18.out.mkBest rfl hO hg gh20 hgs)
        clear hO hg hgs HC18
        change wpTr _ _ _ _ _ _
        unfold wpTr
        show wpList _ _ _ [_, _, _] _ _
        obtain ⟨p, hgs⟩ : ∃ g, g = x19.heap.size := ⟨_, rfl⟩
        obtain ⟨hd, cq, fq⟩ := C10.done (m := m) (HC21.out.boxed (.slice (some ⟨gs2, 0, none⟩) nn nn) (m : Int) (.slice (some ⟨gh20, 0, none⟩) A2 A2) p hgs)
        have HD := kept hd
        clear hd HC21
        go_wp2_with fail
        rw [← hgs]
        refine hK _ _ ?_
        go_wp2_with fail
        go_meet
        case rel => exact ⟨_, _, _, _, rfl, HD.out⟩
    · show wpList _ _ _ [_] _ _
      refine wpList_make_full _ rfl _ _ 48 rfl 0 57 ib _ 4 Try.underlying48 hbi hb0 hb1 .i64 .i64 _ _ A2 rfl rfl rfl rfl (by rw [hb2]; omega) (by simp [maxLen]; omega) (Nat.zero_le _) ?_
      intro x22 hO hg
      obtain ⟨gh23, hgs⟩ : ∃ g, g = x0.heap.size := ⟨_, rfl⟩
      rw [← hgs]
      have HC24 := kept (HC0.out.mkBest rfl hO hg gh23 hgs)
      clear hO hg hgs HC0
      change wpTr _ _ _ _ _ _
      unfold wpTr
      refine (show _ ∧ _ from ⟨?_, ?_⟩)
      · show wpList _ _ _ [_] _ _
        refine wpList_mk1 rfl _ _ 22 rfl 3 i0 (.int .i64 0) 8 Try.underlying22 hi hz0 hz1 hz2 rfl .i64 .i64 _ _ nn rfl rfl rfl rfl (by omega) (by simp [maxLen]; omega) ?_
        intro x25 hO hb hlt2
        obtain ⟨gs26, hgs⟩ : ∃ g, g = x22.heap.size := ⟨_, rfl⟩
        rw [← hgs]
        have HC27 := kept (HC24.out.mkInts hO hb gs26 hgs)
        clear hO hb hlt2 hgs HC24
        change wpTr _ _ _ _ _ _
        unfold wpTr
        refine (show _ ∧ _ from ⟨?_, ?_⟩)
        · show wpList _ _ _ [_] _ _
          go_wp2_with fail
          change wpTr _ _ _ _ _ _
          unfold wpTr
          refine (show _ ∧ _ from ⟨?_, ?_⟩)
          · show wpList _ _ _ [_] _ _
            go_wp2_with fail
            obtain ⟨p29, hgs⟩ : ∃ g, g = x25.heap.size := ⟨_, rfl⟩
            rw [← hgs]
            have HC30 := kept (HC27.out.boxed (.slice (some ⟨gs26, 0, none⟩) nn nn) (m : Int) (.slice (some ⟨gh23, 0, none⟩) A2 A2) p29 hgs)
            generalize World.alloc x25 _ = x28 at HC30 ⊢
            clear hgs HC27
            change wpTr _ _ _ _ _ _
            unfold wpTr
            show wpList _ _ _ [_, _] _ _
            obtain ⟨q9, hgs⟩ : ∃ g, g = x28.heap.size := ⟨_, rfl⟩
            have HD := kept (HC30.out.done2 (m := m) q9 hgs)
            clear HC30
            go_wp2_with fail
            rw [← hgs]
            refine hK _ _ ?_
            go_wp2_with fail
            go_meet
            case rel => exact ⟨_, _, _, _, rfl, HD.out⟩
          · show wpList _ _ _ [_] _ _
            go_wp2_with fail
            obtain ⟨q932, hgs⟩ : ∃ g, g = x25.heap.size := ⟨_, rfl⟩
            rw [← hgs]
            have HC33 := kept (HC27.out.alloc q932 hgs)
            generalize World.alloc x25 _ = x31 at HC33 ⊢
            clear hgs HC27
            change wpTr _ _ _ _ _ _
            unfold wpTr
            show wpList _ _ _ [_, _] _ _
            obtain ⟨p, hgs⟩ : ∃ g, g = x31.heap.size := ⟨_, rfl⟩
            obtain ⟨hd, cq, fq⟩ := C10.done (m := m) (HC33.out.boxed (.slice (some ⟨gs26, 0, none⟩) nn nn) (m : Int) (.slice (some ⟨gh23, 0, none⟩) A2 A2) p hgs)
            have HD := kept hd
            clear hd HC33
            go_wp2_with fail
            rw [← hgs]
            refine hK _ _ ?_
            go_wp2_with fail
            go_meet
            case rel => exact ⟨_, _, _, _, rfl, HD.out⟩
        · show wpList _ _ _ [_] _ _
          go_wp2_with fail
          obtain ⟨q935, hgs⟩ : ∃ g, g = x25.heap.size := ⟨_, rfl⟩
          rw [← hgs]
          have HC36 := kept (HC27.out.alloc q935 hgs)
          generalize World.alloc x25 _ = x34 at HC36 ⊢
          clear hgs HC27
          change wpTr _ _ _ _ _ _
          unfold wpTr
          show wpList _ _ _ [_, _, _] _ _
          obtain ⟨p, hgs⟩ : ∃ g, g = x34.heap.size := ⟨_, rfl⟩
          obtain ⟨hd, cq, fq⟩ := C10.done (m := m) (HC36.out.boxed (.slice (some ⟨gs26, 0, none⟩) nn nn) (m : Int) (.slice (some ⟨gh23, 0, none⟩) A2 A2) p hgs)
          have HD := kept hd
          clear hd HC36
          go_wp2_with fail
          rw [← hgs]
          refine hK _ _ ?_
          go_wp2_with fail
          go_meet
          case rel => exact ⟨_, _, _, _, rfl, HD.out⟩
      · show wpList _ _ _ [_] _ _
        go_wp2_with fail
        obtain ⟨q938, hgs⟩ : ∃ g, g = x22.heap.size := ⟨_, rfl⟩
        rw [← hgs]
        have HC39 := kept (HC24.out.alloc q938 hgs)
        generalize World.alloc x22 _ = x37 at HC39 ⊢
        clear hgs HC24
        change wpTr _ _ _ _ _ _
        unfold wpTr
        show wpList _ _ _ [_] _ _
        refine wpList_mk1 rfl _ _ 22 rfl 3 i0 (.int .i64 0) 8 Try.underlying22 hi hz0 hz1 hz2 rfl .i64 .i64 _ _ nn rfl rfl rfl rfl (by omega) (by simp [maxLen]; omega) ?_
        intro x40 hO hb hlt2
        obtain ⟨gs41, hgs⟩ : ∃ g, g = x37.heap.size := ⟨_, rfl⟩
        rw [← hgs]
        have HC42 := kept (HC39.out.mkInts hO hb gs41 hgs)
        clear hO hb hlt2 hgs HC39
        change wpTr _ _ _ _ _ _
        unfold wpTr
        show wpList _ _ _ [_, _, _] _ _
        obtain ⟨p, hgs⟩ : ∃ g, g = x40.heap.size := ⟨_, rfl⟩
        obtain ⟨hd, cq, fq⟩ := C10.done (m := m) (HC42.out.boxed (.slice (some ⟨gs41, 0, none⟩) nn nn) (m : Int) (.slice (some ⟨gh23, 0, none⟩) A2 A2) p hgs)
        have HD := kept hd
        clear hd HC42
        go_wp2_with fail
        rw [← hgs]
        refine hK _ _ ?_
        go_wp2_with fail
        go_meet
        case rel => exact ⟨_, _, _, _, rfl, HD.out⟩
    · show wpList _ _ _ [_] _ _
      go_wp2_with fail
      obtain ⟨q944, hgs⟩ : ∃ g, g = x0.heap.size := ⟨_, rfl⟩
      rw [← hgs]
      have HC45 := kept (HC0.out.alloc q944 hgs)
      generalize World.alloc x0 _ = x43 at HC45 ⊢
      clear hgs HC0
      change wpTr _ _ _ _ _ _
      unfold wpTr
      refine (show _ ∧ _ from ⟨?_, ?_⟩)
      · show wpList _ _ _ [_] _ _
        refine wpList_mk1 rfl _ _ 22 rfl 3 i0 (.int .i64 0) 8 Try.underlying22 hi hz0 hz1 hz2 rfl .i64 .i64 _ _ nn rfl rfl rfl rfl (by omega) (by simp [maxLen]; omega) ?_
        intro x46 hO hb hlt2
        obtain ⟨gs47, hgs⟩ : ∃ g, g = x43.heap.size := ⟨_, rfl⟩
        rw [← hgs]
        have HC48 := kept (HC45.out.mkInts hO hb gs47 hgs)
        clear hO hb hlt2 hgs HC45
        change wpTr _ _ _ _ _ _
        unfold wpTr
        show wpList _ _ _ [_] _ _
        refine wpList_make_full _ rfl _ _ 48 rfl 0 57 ib _ 4 Try.underlying48 hbi hb0 hb1 .i64 .i64 _ _ A2 rfl rfl rfl rfl (by rw [hb2]; omega) (by simp [maxLen]; omega) (Nat.zero_le _) ?_
        intro x49 hO hg
        obtain ⟨gh50, hgs⟩ : ∃ g, g = x46.heap.size := ⟨_, rfl⟩
        rw [← hgs]
        have HC51 := kept (HC48.out.mkBest rfl hO hg gh50 hgs)
        clear hO hg hgs HC48
        change wpTr _ _ _ _ _ _
        unfold wpTr
        show wpList _ _ _ [_, _, _] _ _
        obtain ⟨p, hgs⟩ : ∃ g, g = x49.heap.size := ⟨_, rfl⟩
        obtain ⟨hd, cq, fq⟩ := C10.done (m := m) (HC51.out.boxed (.slice (some ⟨gs47, 0, none⟩) nn nn) (m : Int) (.slice (some ⟨gh50, 0, none⟩) A2 A2) p hgs)
        have HD := kept hd
        clear hd HC51
        go_wp2_with fail
        rw [← hgs]
        refine hK _ _ ?_
        go_wp2_with fail
        go_meet
        case rel => exact ⟨_, _, _, _, rfl, HD.out⟩
      · show wpList _ _ _ [_] _ _
        refine wpList_make_full _ rfl _ _ 48 rfl 0 57 ib _ 4 Try.underlying48 hbi hb0 hb1 .i64 .i64 _ _ A2 rfl rfl rfl rfl (by rw [hb2]; omega) (by simp [maxLen]; omega) (Nat.zero_le _) ?_
        intro x52 hO hg
        obtain ⟨gh53, hgs⟩ : ∃ g, g = x43.heap.size := ⟨_, rfl⟩
        rw [← hgs]
        have HC54 := kept (HC45.out.mkBest rfl hO hg gh53 hgs)
        clear hO hg hgs HC45
        change wpTr _ _ _ _ _ _
        unfold wpTr
        show wpList _ _ _ [_] _ _
        refine wpList_mk1 rfl _ _ 22 rfl 3 i0 (.int .i64 0) 8 Try.underlying22 hi hz0 hz1 hz2 rfl .i64 .i64 _ _ nn rfl rfl rfl rfl (by omega) (by simp [maxLen]; omega) ?_
        intro x55 hO hb hlt2
        obtain ⟨gs56, hgs⟩ : ∃ g, g = x52.heap.size := ⟨_, rfl⟩
        rw [← hgs]
        have HC57 := kept (HC54.out.mkInts hO hb gs56 hgs)
        clear hO hb hlt2 hgs HC54
        change wpTr _ _ _ _ _ _
        unfold wpTr
        show wpList _ _ _ [_, _, _] _ _
        obtain ⟨p, hgs⟩ : ∃ g, g = x55.heap.size := ⟨_, rfl⟩
        obtain ⟨hd, cq, fq⟩ := C10.done (m := m) (HC57.out.boxed (.slice (some ⟨gs56, 0, none⟩) nn nn) (m : Int) (.slice (some ⟨gh53, 0, none⟩) A2 A2) p hgs)
        have HD := kept hd
        clear hd HC57
        go_wp2_with fail
        rw [← hgs]
        refine hK _ _ ?_
        go_wp2_with fail
        go_meet
        case rel => exact ⟨_, _, _, _, rfl, HD.out⟩
  case rest =>
    obtain ⟨q9, p, vs, vh, rfl, hst⟩ := hcut
    obtain ⟨w4, rfl⟩ : ∃ w4, w4 = wc := ⟨wc, rfl⟩
    have HS4 := kept hst
    clear hst HS3 HM3
    have H1 := kept (HS4.out.ptr.lt)
    obtain ⟨G, hG⟩ : ∃ G, G = ofs l0 := ⟨_, rfl⟩
    have hGl : G.length = n := by rw [hG, length_ofs]; exact HN.out.symm
    have HG := kept hG
    have HGl := kept hGl
    have HGs : Kept (Gs G) := kept ⟨by rw [HGl.out]; omega, fun x hx => by
      rw [HG.out] at hx
      obtain ⟨j, hj, rfl⟩ := List.mem_map.1 hx
      exact HF.out.each (l0.getD j 0) (by have h := (mem_ordL.1 hj).1; simp [List.getD_eq_getElem?_getD, h])⟩
    obtain ⟨gs, cs, hvs, _, hgsl⟩ := rowI (HS4.out.many.own 2 _ _ rfl) (by intro e; have := congrArg List.length e; rw [List.length_replicate] at this; simp at this; have := HNN.out; omega)
    rw [List.length_replicate] at hvs
    subst hvs
    clear hG hGl
    go_wp2_with (first | (go_at_call 21; refine (back_calls _ _ _ _ rfl _).mono ?_; rintro e w' ⟨rfl, rfl⟩))
    obtain ⟨Bs, hBs⟩ : ∃ Bs, Bs = w4.heap.size := ⟨_, rfl⟩
    rw [← hBs]
    obtain ⟨f, hf⟩ : ∃ f : Nat → Int, f = fun i => (((ordL l0).getD i 0 : Nat) : Int) := ⟨_, rfl⟩
    have HFd := kept hf
    generalize hw5 : World.alloc w4 _ = w5
    have hb5 : Below w4.heap.size w4 w5 := by rw [← hw5]; exact (Below.refl _ _).alloc (Nat.le_refl _) _
    have hB5 : Blk w5 Bs #[.slice (some ⟨g7, 0, none⟩) n c7] 22 := by rw [← hw5]; exact Blk.fresh_at _ _ hBs _ _
    have HS5 := kept (HS4.out.later hb5)
    have hg7 : g7 < w5.heap.size := HS5.out.many.own 1 _ _ rfl |>.lt _ rfl
    have hcx : ∀ i, i < n → w5.cell? ⟨g7, i, none⟩ = some (.int .i64 (f i)) := fun i hi => by
      rw [HFd.out]; exact HS5.out.ordAt i (by rw [← HN.out]; exact hi)
    have hgsB : gs ≠ Bs := by rw [hBs]; omega
    have hgs7 : gs ≠ g7 := fun e => by
      have := HS5.out.many.sep 1 2 _ _ _ _ (by decide) rfl rfl g7 rfl
      exact this (by rw [e]; rfl)
    have HNE := kept (And.intro hgsB hgs7)
    have hBl := HS5.out.sz
    have HBL := kept hBl
    clear hw5 hf hgsl hb5 HS4 hgsB hgs7 hBl H1 hBs
    refine' wpIn_wide.1 (wpIn_rangeFunc_ownG (F := Fence.wide) (n := 9) rfl (by decide) (gf := 30) (lb := #[.pointer (some ⟨Bs, 0, none⟩)]) rfl trivial (enters_of Try.func30 (by kernel_rfl) rfl)
      (back_stops 8 Bs g7 n c7 (by decide) f (by omega) w5 hB5.lt hg7 (hB5.cell rfl) hcx) KpB.trans (KpB.put hB5.lt hg7) (Below.refl _ _) (fun _ => rfl)
      (fun pre W => StM B w W (.slice A0 65 c0) g g7 c7 l0 m q9 p (.slice (some ⟨gs, 0, none⟩) nn cs) vh (List.replicate 65 0) (stS G n (pre.map Subtype.val)) (List.replicate A2 (0, 0, false, false)))
      (fun _ _ _ => False) (fun s X Y row hs hg hr => hs.turn hg hr HBL.out) (fun _ _ _ _ _ hs _ _ => hs) (by have := HNN.out; subst this; exact HS5.out) _ ?assign ?body ?done ?stop)
    case assign =>
      intro l x W K hK
      gi_wp2
      exact hK
    case stop =>
      rintro D c pre W _ _ h _
      exact h.elim
    case body =>
      rintro l pre ⟨i, hin⟩ W hst hlen
      obtain ⟨c, hcd⟩ : ∃ c, c = (ordL l0).getD i 0 := ⟨_, rfl⟩
      have hio : i < (ordL l0).length := by rw [← HN.out]; exact hin
      have hcm : c ∈ ordL l0 := by rw [hcd]; simp [List.getD_eq_getElem?_getD, hio]
      have hc65 : c < 65 := by have h := (mem_ordL.1 hcm).1; rw [HL.out] at h; exact h
      have hfi : f i = (c : Int) := by rw [HFd.out, hcd]
      have hrd := HR.out.later (show Below w.heap.size w W by rw [← HB.out]; exact hst.low)
      obtain ⟨xa, rfl, hcq⟩ := hrd.at (Own.ints_at .i64 l0 c (by rw [HL.out]; exact hc65))
      obtain ⟨y, hy⟩ : ∃ y, y = l0.getD c 0 := ⟨_, rfl⟩
      rw [← hy] at hcq
      have hGi : G.getD i 0 = y := by
        have h := ofs_at l0 i hio
        rw [← HG.out, ← hcd, ← hy] at h; exact h
      have hyb := HF.out.each y (by rw [hy]; have h := (mem_ordL.1 hcm).1; simp [List.getD_eq_getElem?_getD, h])
      obtain ⟨hy0, hy1⟩ := hyb
      have hpl : pre.length < n := hlen
      have hsb := stS_le G HGs.out.each n (pre.map Subtype.val) (i + 1)
      rw [List.length_map] at hsb
      obtain ⟨s1, hs1⟩ : ∃ s1, s1 = (stS G n (pre.map Subtype.val)).getD (i + 1) 0 := ⟨_, rfl⟩
      rw [← hs1] at hsb
      obtain ⟨hs0, hs2⟩ := hsb
      have hs3 : s1 ≤ 1090519040 := by omega
      have hsn : stS G n ((pre ++ [(⟨i, hin⟩ : Pl n)]).map Subtype.val) = (stS G n (pre.map Subtype.val)).set i (s1 + y) := by
        rw [List.map_append, List.map_cons, List.map_nil, stS_snoc, ← hs1, hGi]
      have hsl : (stS G n (pre.map Subtype.val)).length = n + 1 := length_stS _ _ _
      have k1 := lat_cell (hst.ptr.cell (i := 0) rfl)
      have k2 := lat_cell (hst.blk.cell (i := 0) rfl)
      have k3 := lat_cell (hst.box.cell (i := 0) rfl)
      have k4 := lat_cell hcq
      have k5 := lat_cell ((hst.many.own 2 _ _ rfl).cell (j := i + 1) (Own.ints_at .i64 _ (i + 1) (by rw [hsl]; omega)))
      have c6 := (hst.many.own 2 _ _ rfl).cell (j := i) (Own.ints_at .i64 _ i (by rw [hsl]; omega))
      have f6 := (hst.many.own 2 _ _ rfl).free i
      rw [← hs1] at k5
      obtain ⟨z0, hz0e⟩ : ∃ z0, z0 = (stS G n (pre.map Subtype.val)).getD i 0 := ⟨_, rfl⟩
      rw [← hz0e] at c6
      have HSn := kept hsn
      have HSt := kept hst
      have hinn : (i : Int) + 1 < (nn : Int) := by have := HNN.out; omega
      have hinn2 : (i : Int) < (nn : Int) := by omega
      have hc65' : (c : Int) < 65 := by omega
      clear hst hsn hs1 hz0e hcq hy hGi hcm hsl hcd hlen hpl hs2 hio
      dsimp only
      rw [hfi]
      clear hfi
      refine wpIn_block ?_
      refine wpIn_region_mixL [] [0,1,2,3,4,5,6,7,8,9,10,11,12,13,14,15,16,17,18] [19] (by kernel_rfl) (by kernel_rfl) (by kernel_rfl) ?_
      intro K hK
      simp only [pick, List.filterMap_cons, List.filterMap_nil, List.getElem?_cons_zero, List.getElem?_cons_succ]
      refine wpQuiet_nil ?_
      repeat (show wpQuiet _ _ _ _ (_ :: _) _; go_big_quiet_step (fail))
      refine wpQuiet_nil ?_
      show wpList _ _ _ [_] _ _
      generalize hwd : World.drew W = wd
      have hcd : wd.cell? ⟨gs, i, none⟩ = some (.int .i64 z0) := by rw [← hwd]; exact c6
      have hfd : wd.frozen? ⟨gs, i, none⟩ = false := by rw [← hwd]; exact f6
      have HNd := kept ((HSt.out.later (Below.refl _ _).drew).storeSum i (s1 + y))
      have HKo := kept (((KeepsOthers.drew W).trans (KeepsOthers.setCell W.drew ⟨gs, i, none⟩ (.int .i64 (s1 + y)))).from w5.heap.size)
      have HKp := kept (show KpB Bs g7 W (W.drew.setCell ⟨gs, i, none⟩ (.int .i64 (s1 + y))) from ⟨Below.heap_setCell W.drew ⟨gs, i, none⟩ _ Bs (fun e => HNE.out.1 e.symm), Below.heap_setCell W.drew ⟨gs, i, none⟩ _ g7 (fun e => HNE.out.2 e.symm)⟩)
      rw [hwd] at HNd HKo HKp
      clear hwd k1 k2 k3 k4 k5 c6 f6
      go_wp2_with fail
      refine hK _ _ ?_
      exact ⟨HKo.out, HKp.out, by have h := HNd.out; rw [← HSn.out] at h; exact h⟩
    case done =>
      rintro D ys W hD hys hst hK
      have hst2 : StM B w W (.slice A0 65 c0) g g7 c7 l0 m q9 p (.slice (some ⟨gs, 0, none⟩) nn cs) vh (List.replicate 65 0) (sums G) (List.replicate A2 (0, 0, false, false)) := by
        have h := stS_dnl G n (by rw [HGl.out]; exact Nat.le_refl _)
        rw [HGl.out, Nat.sub_self, sumsN_all] at h
        rw [← h, ← hys]; exact hst
      have HS6 := kept hst2
      have HDk := kept hK
      have HDB := kept (Nat.le_trans HBL.out hD)
      clear hst hst2 hK hys hD HNE HFd HS5
      obtain ⟨L, hL⟩ : ∃ L, L = lensOf l0 m := ⟨_, rfl⟩
      obtain ⟨x0, hx0⟩ := HF.out.can (by rw [← HN.out]; exact hn2)
      rw [← HG.out] at hx0
      have hLe : L = lens m 1 G 2 := by rw [hL, HG.out]; unfold lensOf; rw [if_neg (by rw [← HN.out]; omega)]
      have hLl : L.length = n := by rw [hL, HF.out.spec.1]; exact HN.out.symm
      have HLe := kept hLe
      have HLl := kept hLl
      have HLL := kept hL
      have HX0 := kept hx0
      clear hLe hLl hL hx0 hB5 hg7 hcx
      go_wp2_with fail
      obtain ⟨q12, hq12⟩ : ∃ q12, q12 = W.heap.size := ⟨_, rfl⟩
      rw [← hq12]
      generalize hw7 : World.alloc W _ = w7
      have HS7 : Kept (StX B w w7 (.slice A0 65 c0) g g7 c7 l0 m q9 p (.slice (some ⟨gs, 0, none⟩) nn cs) vh (List.replicate 65 0) (sums G) (List.replicate A2 (0, 0, false, false)) D q12 1 0 2) := kept (by
        have hb : Below W.heap.size W w7 := by rw [← hw7]; exact (Below.refl _ _).alloc (Nat.le_refl _) _
        exact ⟨HS6.out.later hb, by rw [← hw7]; exact Blk.fresh_at _ _ hq12 _ _, by rw [hq12]; exact HS6.out.sz, (hb.block D (lt_of_some HDk.out)).trans HDk.out⟩)
      clear hw7 hq12 HS6 HDk
      go_loopw [12] (fun s12 wr => ∃ (d j o r q : Nat) (x : Int) (H : List Bst), s12 = .pointer (some ⟨q, 0, none⟩) ∧ d + r = m + 1 ∧ 1 ≤ d ∧ j ≤ n ∧ o ≤ 130 ∧ dp r (G.drop j) o = some x ∧ L.drop j = lens r d (G.drop j) o ∧ HGood m G H ∧
          StX B w wr (.slice A0 65 c0) g g7 c7 l0 m q9 p (.slice (some ⟨gs, 0, none⟩) nn cs) vh (scat (List.replicate 65 0) ((ordL l0).take j) (L.take j)) (sums G) H D q d j o) (fun s12 wr => m + 1 - deepOf wr s12)
      case atStart =>
        refine ⟨1, 0, 2, m, q12, x0, _, rfl, by omega, Nat.le_refl _, Nat.zero_le _, by decide, HX0.out, by rw [List.drop_zero, List.drop_zero]; exact HLe.out, ?_, by rw [List.take_zero, scat_nil]; exact HS7.out⟩
        have h := hgood_zero m G
        rw [HGl.out, ← HNN.out, ← HA2.out] at h
        exact h
      case round =>
        obtain ⟨d, j, o, r, q, x, H, rfl, hdr, hd1, hji, ho130, hdp, hLd, hGd, hst⟩ := hrel
        obtain ⟨wl, rfl⟩ : ∃ wl, wl = wr := ⟨wr, rfl⟩
        by_cases hlt : j < n
        · have hne : G.drop j ≠ [] := drop_ne (by rw [HGl.out]; exact hlt)
          obtain ⟨r, rfl⟩ : ∃ r', r = r' + 1 := by
            cases r with
            | zero => rw [dp_out hne (by omega)] at hdp; cases hdp
            | succ r => exact ⟨r, rfl⟩
          obtain ⟨ho1, hol, y, hy, hxy⟩ := dp_some hdp hne
          rw [List.length_drop, HGl.out] at hol
          have hmt := mres_take hdp hne
          obtain ⟨k, hk⟩ : ∃ k, k = Dp.take r (G.drop j) o := ⟨_, rfl⟩
          have hko : k ≤ o := by rw [hk]; exact take_le _ _ _
          rw [lens_cons hne, ← hk] at hLd
          rw [← hk] at hy hxy hmt
          obtain ⟨Y, hY⟩ : ∃ Y, Y = mres (r + 1) (G.drop j) o := ⟨_, rfl⟩
          obtain ⟨y1, y2, y3, y4⟩ := Y
          rw [← hY] at hmt
          simp only at hmt
          subst hmt
          have hcall := from_calls G m p _ _ HGs.out hm15 (r + 1) d j o H wl hst.st.tab hGd (by rw [HGl.out]; exact hji) ho130 hd1 hdr
          unfold FromE at hcall
          rw [← hY] at hcall
          simp only [bstV] at hcall
          have hLdi : ∀ i, i < k → L.getD (j + i) 0 = d := fun i hi => by
            have h := congrArg (fun t : List Nat => t.getD i 0) hLd
            simp only [List.getD_eq_getElem?_getD, List.getElem?_drop] at h
            rw [List.getElem?_append_left (by simpa using hi), List.getElem?_replicate, if_pos hi] at h
            simpa [List.getD_eq_getElem?_getD] using h
          have hLd2 : L.drop (j + k) = lens r (d + 1) (G.drop (j + k)) (2 * (o - k)) := by
            have h := congrArg (List.drop k) hLd
            rw [List.drop_left' (by simp)] at h
            simp only [List.drop_drop] at h
            exact h
          rw [List.drop_drop] at hy
          have hcap : n ≤ c7 := by
            obtain ⟨gx, cx, he, hle, _⟩ := (hst.st.many.own 1 _ _ rfl).row (by intro e; have := congrArg List.length e; rw [length_idx] at this; have h2 := HN.out; simp at this; rw [this] at h2; simp at h2; omega)
            simp only [Value.slice.injEq] at he
            rw [length_idx] at hle
            have := HN.out; omega
          have p9 := hst.st.ptr.cell (i := 0) rfl
          have m0 := hst.node.cell (i := 0) rfl
          have m1 := hst.node.cell (i := 1) rfl
          have m2 := hst.node.cell (i := 2) rfl
          have HDw := kept (show deepOf wl (.pointer (some ⟨q, 0, none⟩)) = d from deepOf_is hst.node)
          have HC1 := kept hcall
          have HSl := kept hst
          have HY := kept hy
          have HLdi := kept hLdi
          have HLd2 := kept hLd2
          have hjc : (j : Int) < (c7 : Int) := by omega
          have hjkc : (j : Int) + (k : Int) ≤ (c7 : Int) := by omega
          have hjkn : j + k ≤ n := by omega
          have hd16 : d ≤ 16 := by omega
          have ho66 : o ≤ 65 := by omega
          clear hst hcall hy hLdi hLd2 hLd hdp hxy hk hY hne hGd hol
          go_upto_block 4 with (first | (go_at_call 22; refine HC1.out.mono ?_; rintro e w2 ⟨rfl, H2, hT2, hG2, hC2⟩; have HS2 := kept (HSl.out.told hT2 hC2); have HG2 := kept hG2; have HS8 := kept (HS2.out.later ((Below.refl _ _).alloc (Nat.le_refl _) (.cells #[.int .i64 y1, .int .i64 (k : Int), .bool y3, .bool y4] 57))); have m1 := HS8.out.node.cell (i := 1) rfl; clear hT2 hG2 hC2))
          obtain ⟨q13, hq13⟩ : ∃ q13, q13 = w2.heap.size := ⟨_, rfl⟩
          rw [← hq13]
          generalize hw8 : World.alloc w2 _ = w8 at HS8 ⊢
          have HB8 : Kept (Blk w8 q13 #[.int .i64 y1, .int .i64 (k : Int), .bool y3, .bool y4] 57) := kept (by rw [← hw8]; exact Blk.fresh_at _ _ hq13 _ _)
          clear hw8 hq13 HS2 HSl m1
          go_wp2_with fail
          go_loopw [92] (fun s92 wr => ∃ i : Nat, i ≤ k ∧ s92 = .int .i64 (i : Int) ∧ Blk wr q13 #[.int .i64 y1, .int .i64 (k : Int), .bool y3, .bool y4] 57 ∧
              StX B w wr (.slice A0 65 c0) g g7 c7 l0 m q9 p (.slice (some ⟨gs, 0, none⟩) nn cs) vh (scat (List.replicate 65 0) ((ordL l0).take (j + i)) (L.take (j + i))) (sums G) H2 D q d j o) (fun s92 _ => k - (intOf s92).toNat)
          case atStart => exact ⟨0, Nat.zero_le _, rfl, HB8.out, HS8.out⟩
          case round =>
            obtain ⟨i, hik, rfl, hb13, hst⟩ := hrel
            obtain ⟨wi, rfl⟩ : ∃ wi, wi = wr := ⟨wr, rfl⟩
            by_cases hlt2 : i < k
            · obtain ⟨c, hc⟩ : ∃ c, c = (ordL l0).getD (j + i) 0 := ⟨_, rfl⟩
              have hio : j + i < (ordL l0).length := by rw [← HN.out]; omega
              have hc65 : c < 65 := by have h := (mem_ordL.1 (show c ∈ ordL l0 by rw [hc]; simp [List.getD_eq_getElem?_getD, hio])).1; rw [HL.out] at h; exact h
              have c7i := hst.st.ordAt (j + i) hio
              rw [← hc] at c7i
              have d0 := hst.node.cell (i := 0) rfl
              have hxl : (scat (List.replicate 65 0) ((ordL l0).take (j + i)) (L.take (j + i))).length = 65 := by rw [length_scat]; simp
              have co := hst.st.out.cell (j := c) (Own.ints_at .i64 _ c (by rw [hxl]; exact hc65))
              have fo := hst.st.out.free c
              have hnx : scat (List.replicate 65 0) ((ordL l0).take (j + i + 1)) (L.take (j + i + 1)) = (scat (List.replicate 65 0) ((ordL l0).take (j + i)) (L.take (j + i))).set c (d : Int) := by
                rw [scat_take _ _ _ _ hio (by rw [HLl.out]; omega), ← hc, HLdi.out i hlt2]
              have hs2 := hst.storeOut c (d : Int)
              rw [← hnx] at hs2
              have hb2 : Blk (wi.setCell ⟨g, c, none⟩ (.int .i64 (d : Int))) q13 #[.int .i64 y1, .int .i64 (k : Int), .bool y3, .bool y4] 57 := by
                obtain ⟨cur, hbg⟩ := hst.st.out.blk g rfl
                exact hb13.setOther (hb13.ne hbg (by decide)) _
              obtain ⟨z0, hz0e⟩ : ∃ z0, z0 = (scat (List.replicate 65 0) ((ordL l0).take (j + i)) (L.take (j + i))).getD c 0 := ⟨_, rfl⟩
              rw [← hz0e] at co
              have HN2 := kept hs2
              have HB2 := kept hb2
              have hc65' : (c : Int) < 65 := by omega
              clear hst hnx hs2 hb2 hb13 hxl hio hc hz0e
              go_wp2_with fail
              go_roundw
              case rel => exact ⟨i + 1, by omega, by go_num, HB2.out, HN2.out⟩
              case measure => simp [intOf]; omega
            · have hie : i = k := by omega
              subst hie
              have b1 := hb13.cell (i := 1) rfl
              have n0 := hst.node.cell (i := 0) rfl
              have n1 := hst.node.cell (i := 1) rfl
              have n2 := hst.node.cell (i := 2) rfl
              have f0 := hst.node.free 0
              have f1 := hst.node.free 1
              have f2 := hst.node.free 2
              obtain ⟨q2, hq2⟩ : ∃ q2, q2 = wi.heap.size := ⟨_, rfl⟩
              obtain ⟨W2, hW2⟩ : ∃ W2, W2 = ((wi.setCell ⟨q, 0, none⟩ (.int .i64 ((d + 1 : Nat) : Int))).setCell ⟨q, 1, none⟩ (.int .i64 ((j + i : Nat) : Int))).setCell ⟨q, 2, none⟩ (.int .i64 ((2 * (o - i) : Nat) : Int)) := ⟨_, rfl⟩
              obtain ⟨hn1, hn2, hn3⟩ := hst.next (d + 1) (j + i) (2 * (o - i)) q2 hq2 W2 hW2
              rw [show ((d + 1 : Nat) : Int) = (d : Int) + 1 by omega, show ((j + i : Nat) : Int) = (j : Int) + (i : Int) by omega, show ((2 * (o - i) : Nat) : Int) = 2 * ((o : Int) - (i : Int)) by omega] at hW2 hn1
              have hn3' := hn3
              rw [show ((d + 1 : Nat) : Int) = (d : Int) + 1 by omega, show ((j + i : Nat) : Int) = (j : Int) + (i : Int) by omega, show ((2 * (o - i) : Nat) : Int) = 2 * ((o : Int) - (i : Int)) by omega] at hn3'
              have HN3 := kept hn3'
              have HW2 := kept hW2
              have HQ2 := kept (And.intro hq2 hn2)
              have u0 := hn1.cell (i := 0) rfl
              have u1 := hn1.cell (i := 1) rfl
              have u2 := hn1.cell (i := 2) rfl
              rw [hW2] at u0 u1 u2
              clear hst hb13 hn1 hn3 hn3' hn2 hq2 hlt2
              go_wp2_with fail
              go_roundw
              case rel => exact ⟨d + 1, j + i, 2 * (o - i), r, q2, y, H2, by rw [HQ2.out.1], by omega, by omega, hjkn, by omega, HY.out, HLd2.out, HG2.out, by have h := HN3.out; rw [HW2.out] at h; exact h⟩
              case measure =>
                have h1 := deepOf_is HN3.out.node
                rw [HW2.out, HQ2.out.1] at h1
                show m + 1 - deepOf _ (Value.pointer (some ⟨wi.heap.size, 0, none⟩)) < m + 1 - deepOf wl (Value.pointer (some ⟨q, 0, none⟩))
                rw [h1, HDw.out]
                omega
        · have hje : j = n := by omega
          subst hje
          have hc1 := hst.node.cell (i := 1) rfl
          have hLen : lenL l0 m = scat (List.replicate 65 0) ((ordL l0).take j) (L.take j) := by
            rw [List.take_of_length_le (by rw [← HN.out]; exact Nat.le_refl _), List.take_of_length_le (by rw [HLl.out]; exact Nat.le_refl _), HLL.out]; rfl
          have HLn := kept hLen
          have HT := kept (hst.st.turn (grownBy_putObj' wl D (.deferred none)) (fun r e => by cases e; exact ⟨HDB.out, _, hst.dk, rfl⟩) (Nat.le_refl _))
          have HDk := kept hst.dk
          clear hst hLen hdp hLd hGd hlt
          go_wp2_with fail
          refine ⟨by simp, .inl ⟨_, _, rfl, run_takeDeferred HDk.out, ?_⟩⟩
          exact ⟨_, results_tmp2 rfl _ _ _, _, rfl, by rw [HLn.out]; exact HT.out.out, by rw [← HB.out]; exact HT.out.many.new 0 _ _ rfl, by rw [← HB.out]; exact HT.out.low⟩
end Go.Proofs.Ytejecpmfhgplmaa

-- ---- Nl
/- Numbers of a sum, out of how often each comes: plain facts. No program in sight. -/
namespace Go.Proofs.Ytejecpmfhgplmaa.Nl
set_option linter.unusedSimpArgs false
set_option linter.unusedVariables false
set_option linter.unusedSectionVars false
open Hp Ol

def bump (l : List Int) (k : Nat) (d : Int) : List Int := l.set k (l.getD k 0 + d)
theorem length_bump (l : List Int) (k : Nat) (d : Int) : (bump l k d).length = l.length := by simp [bump]
theorem getD_bump (l : List Int) (k : Nat) (d : Int) (i : Nat) (hk : k < l.length) : (bump l k d).getD i 0 = if i = k then l.getD k 0 + d else l.getD i 0 := by
  unfold bump
  by_cases h : i = k
  · subst h; rw [if_pos rfl]; simp [List.getD_eq_getElem?_getD, hk]
  · rw [if_neg h]; simp only [List.getD_eq_getElem?_getD]; rw [List.getElem?_set_ne (Ne.symm h)]
theorem sum_set (l : List Int) : ∀ (k : Nat) (v : Int), k < l.length → (l.set k v).sum = l.sum - l.getD k 0 + v := by
  induction l with
  | nil => intro k v h; simp at h
  | cons a t ih =>
    intro k v h
    cases k with
    | zero => simp; omega
    | succ k =>
      have := ih k v (by simpa using h)
      simp only [List.set_cons_succ, List.sum_cons, this]
      have e : (a :: t).getD (k + 1) 0 = t.getD k 0 := by simp
      rw [e]; omega
theorem sum_bump (l : List Int) (k : Nat) (d : Int) (h : k < l.length) : (bump l k d).sum = l.sum + d := by
  unfold bump; rw [sum_set l k _ h]; omega

def share (size all n : Int) : Int := if 0 < n then max 1 (n * size / all) else 0
def shares (f : List Int) (size all : Int) : List Int := f.map (share size all)
def decTop : Nat → List Int → List Int
  | 0, l => l
  | m + 1, l => decTop m (bump l ((ordL l).headD 0) (-1))
def normL (f : List Int) (size : Int) : List Int :=
  if (shares f size f.sum).sum ≤ size then bump (shares f size f.sum) ((ordL f).headD 0) (size - (shares f size f.sum).sum) else decTop ((shares f size f.sum).sum - size).toNat (shares f size f.sum)

theorem getD_shares (f : List Int) (size all : Int) (i : Nat) (h : i < f.length) : (shares f size all).getD i 0 = share size all (f.getD i 0) := by
  simp [shares, List.getD_eq_getElem?_getD, h]
theorem length_shares (f : List Int) (size all : Int) : (shares f size all).length = f.length := by simp [shares]
theorem share_nonneg (size all n : Int) : 0 ≤ share size all n := by unfold share; split <;> omega
theorem share_pos (size all n : Int) : 0 < share size all n ↔ 0 < n := by
  unfold share
  split
  · rename_i h; exact ⟨fun _ => h, fun _ => by omega⟩
  · rename_i h; exact ⟨fun h2 => by omega, fun h2 => absurd h2 h⟩
theorem share_le (size all n : Int) (hs : 1 ≤ size) (ha : 0 < all) (hn : n ≤ all) : share size all n ≤ size := by
  unfold share
  split
  · rename_i h
    have h1 : n * size ≤ all * size := Int.mul_le_mul_of_nonneg_right hn (by omega)
    have h2 : n * size / all ≤ size := by
      have := Int.ediv_le_ediv ha h1
      rwa [Int.mul_ediv_cancel_left _ (by omega)] at this
    omega
  · omega
theorem share_mono (size all a b : Int) (hs : 1 ≤ size) (ha : 0 < all) (h : a ≤ b) : share size all a ≤ share size all b := by
  unfold share
  split
  · rw [if_pos (by omega)]
    have h1 : a * size ≤ b * size := Int.mul_le_mul_of_nonneg_right h (by omega)
    have := Int.ediv_le_ediv ha h1
    omega
  · split <;> omega

theorem sum_nonneg (l : List Int) (h : ∀ x ∈ l, 0 ≤ x) : 0 ≤ l.sum := by
  induction l with
  | nil => simp
  | cons a t ih => have := ih fun x hx => h x (List.mem_cons_of_mem _ hx); have := h a (by simp); simp; omega
theorem le_sum (l : List Int) (h : ∀ x ∈ l, 0 ≤ x) : ∀ x ∈ l, x ≤ l.sum := by
  induction l with
  | nil => simp
  | cons a t ih =>
    intro x hx
    have h0 := sum_nonneg t fun x hx => h x (List.mem_cons_of_mem _ hx)
    have h1 := h a (by simp)
    simp only [List.sum_cons]
    rcases List.mem_cons.1 hx with rfl | hx
    · omega
    · have := ih (fun x hx => h x (List.mem_cons_of_mem _ hx)) x hx; omega
theorem sum_le_max (l : List Int) (m : Int) (h : ∀ x ∈ l, x ≤ m) : l.sum ≤ m * l.length := by
  induction l with
  | nil => simp
  | cons a t ih =>
    have h1 := ih fun x hx => h x (List.mem_cons_of_mem _ hx)
    have h2 := h a (by simp)
    simp only [List.sum_cons, List.length_cons]
    have e : m * ((t.length + 1 : Nat) : Int) = m * (t.length : Int) + m := by rw [Int.natCast_add, Int.mul_add]; simp
    rw [e]; omega
theorem mem_getD {l : List Int} {x : Int} (h : x ∈ l) : ∃ i, i < l.length ∧ l.getD i 0 = x := by
  obtain ⟨i, hi, rfl⟩ := List.mem_iff_getElem.1 h
  exact ⟨i, hi, by simp [List.getD_eq_getElem?_getD, hi]⟩
theorem getD_mem {l : List Int} {i : Nat} (h : i < l.length) : l.getD i 0 ∈ l := by
  rw [List.getD_eq_getElem?_getD, List.getElem?_eq_getElem h]; exact List.getElem_mem _

/-- Where one number at least is greater than 1: the greatest is, and one is taken from it. -/
structure Top (l : List Int) (k : Nat) : Prop where
  lt : k < l.length
  two : 2 ≤ l.getD k 0
  max : ∀ i, i < l.length → l.getD i 0 ≤ l.getD k 0
  least : ∀ i, i < l.length → l.getD i 0 = l.getD k 0 → k ≤ i
theorem top_of {l : List Int} (h : (l.length : Int) < l.sum) : Top l ((ordL l).headD 0) ∧ ∃ t, ordL l = (ordL l).headD 0 :: t := by
  have h2 : ∃ x ∈ l, 2 ≤ x := by
    apply Classical.byContradiction
    intro hno
    have := sum_le_max l 1 fun x hx => by
      have : ¬ 2 ≤ x := fun h2 => hno ⟨x, hx, h2⟩
      omega
    omega
  obtain ⟨x, hx, hx2⟩ := h2
  obtain ⟨i, hi, rfl⟩ := mem_getD hx
  obtain ⟨k, t, hk⟩ := ordL_cons (f := l) ⟨i, hi, by omega⟩
  obtain ⟨a, b, c⟩ := ordL_head hk
  rw [hk]
  exact ⟨⟨a, by have := (c i hi).1; simp only [List.headD_cons]; omega, fun j hj => (c j hj).1, fun j hj => (c j hj).2⟩, t, rfl⟩

/-- What every step keeps. -/
structure Ok (f l : List Int) : Prop where
  len : l.length = f.length
  pos : ∀ i, i < f.length → (0 < l.getD i 0 ↔ 0 < f.getD i 0)
  nn : ∀ i, i < f.length → 0 ≤ l.getD i 0
  mono : ∀ i j, i < f.length → j < f.length → f.getD j 0 < f.getD i 0 → l.getD j 0 ≤ l.getD i 0 + 1
theorem Ok.step {f l : List Int} (h : Ok f l) {k : Nat} (ht : Top l k) : Ok f (bump l k (-1)) := by
  have hk := ht.lt
  have h2 := ht.two
  have G := fun i => getD_bump l k (-1) i hk
  refine ⟨by rw [length_bump]; exact h.len, fun i hi => ?_, fun i hi => ?_, fun i j hi hj hf => ?_⟩
  · rw [G i]
    have := h.pos i hi
    split
    · subst i; constructor
      · intro _; exact this.1 (by omega)
      · intro _; omega
    · exact this
  · rw [G i]; have := h.nn i hi; split <;> omega
  · rw [G i, G j]
    have := h.mono i j hi hj hf
    have hm := ht.max j (by rw [h.len]; exact hj)
    split <;> split <;> (try subst i) <;> (try subst j) <;> omega
theorem decTop_ok {f : List Int} : ∀ (m : Nat) (l : List Int), Ok f l → (f.length : Int) + (m : Int) ≤ l.sum → Ok f (decTop m l) ∧ (decTop m l).sum = l.sum - m := by
  intro m
  induction m with
  | zero => intro l h _; exact ⟨h, by simp [decTop]⟩
  | succ m ih =>
    intro l h hs
    obtain ⟨ht, _⟩ := top_of (l := l) (by rw [h.len]; omega)
    have h1 := h.step ht
    have h2 := sum_bump l ((ordL l).headD 0) (-1) ht.lt
    obtain ⟨a, b⟩ := ih _ h1 (by omega)
    unfold decTop
    exact ⟨a, by omega⟩

theorem bump_zero (l : List Int) (k : Nat) : bump l k 0 = l := by
  by_cases h : k < l.length
  · unfold bump
    rw [Int.add_zero]
    have e : l.getD k 0 = l[k] := by simp [List.getD_eq_getElem?_getD, h]
    rw [e]; exact List.set_getElem_self h
  · unfold bump; exact List.set_eq_of_length_le (by omega)
theorem decTop_succ : ∀ (m : Nat) (l : List Int), decTop (m + 1) l = bump (decTop m l) ((ordL (decTop m l)).headD 0) (-1) := by
  intro m
  induction m with
  | zero => intro l; rfl
  | succ m ih => intro l; show decTop (m + 1) _ = _; rw [ih]; rfl

/-- Frequencies that may be asked. -/
structure Fr (f : List Int) : Prop where
  len : f.length = 65
  nn : ∀ x ∈ f, 0 ≤ x
  le : ∀ x ∈ f, x ≤ 16777216
  pos : 0 < f.sum
theorem Fr.le_all {f : List Int} (h : Fr f) : ∀ x ∈ f, x ≤ f.sum := le_sum f h.nn
theorem Fr.some {f : List Int} (h : Fr f) : ∃ i, i < f.length ∧ 0 < f.getD i 0 := by
  apply Classical.byContradiction
  intro hno
  have := sum_le_max f 0 fun x hx => by
    obtain ⟨i, hi, rfl⟩ := mem_getD hx
    have : ¬ 0 < f.getD i 0 := fun h2 => hno ⟨i, hi, h2⟩
    omega
  have := h.pos
  omega
theorem Fr.sum_le {f : List Int} (h : Fr f) : f.sum ≤ 1090519040 := by
  have := sum_le_max f 16777216 h.le
  rw [h.len] at this
  omega
theorem Fr.shares_ok {f : List Int} (h : Fr f) {size : Int} (hs : 1 ≤ size) : Ok f (shares f size f.sum) := by
  refine ⟨length_shares .., fun i hi => ?_, fun i hi => ?_, fun i j hi hj hf => ?_⟩
  · rw [getD_shares f _ _ i hi]; exact share_pos ..
  · rw [getD_shares f _ _ i hi]; exact share_nonneg ..
  · rw [getD_shares f _ _ i hi, getD_shares f _ _ j hj]
    have := share_mono size f.sum _ _ hs h.pos (Int.le_of_lt hf)
    omega
theorem Fr.share_le {f : List Int} (h : Fr f) {size : Int} (hs : 1 ≤ size) {x : Int} (hx : x ∈ f) : 0 ≤ share size f.sum x ∧ share size f.sum x ≤ size :=
  ⟨share_nonneg .., Nl.share_le _ _ _ hs h.pos (h.le_all x hx)⟩
theorem Fr.shares_sum {f : List Int} (h : Fr f) {size : Int} (hs : 1 ≤ size) : 0 ≤ (shares f size f.sum).sum ∧ (shares f size f.sum).sum ≤ size * 65 := by
  constructor
  · apply sum_nonneg
    intro x hx
    obtain ⟨n, hn, rfl⟩ := List.mem_map.1 hx
    exact (h.share_le hs hn).1
  · have := sum_le_max (shares f size f.sum) size fun x hx => by
      obtain ⟨n, hn, rfl⟩ := List.mem_map.1 hx
      exact (h.share_le hs hn).2
    rw [length_shares, h.len] at this
    exact this
theorem Fr.head {f : List Int} (h : Fr f) : ∃ t, ordL f = (ordL f).headD 0 :: t ∧ (ordL f).headD 0 < 65 := by
  obtain ⟨k, t, hk⟩ := ordL_cons h.some
  have := (ordL_head hk).1
  rw [h.len] at this
  rw [hk]; exact ⟨t, rfl, this⟩

theorem Fr.norm {f : List Int} (h : Fr f) {size : Int} (hs : 66 ≤ size) : Ok f (normL f size) ∧ (normL f size).sum = size := by
  have ho := h.shares_ok (size := size) (by omega)
  unfold normL
  by_cases hle : (shares f size f.sum).sum ≤ size
  · rw [if_pos hle]
    obtain ⟨t, hk, hlt⟩ := h.head
    generalize hK : (ordL f).headD 0 = k at hk hlt
    obtain ⟨k1, k2, k3⟩ := ordL_head hk
    have hkl : k < (shares f size f.sum).length := by rw [length_shares]; exact k1
    refine ⟨⟨by rw [length_bump]; exact ho.len, fun i hi => ?_, fun i hi => ?_, fun i j hi hj hf => ?_⟩, by rw [sum_bump _ _ _ hkl]; omega⟩
    · rw [getD_bump _ _ _ _ hkl]
      have := ho.pos i hi
      split
      · subst i
        constructor
        · intro _; exact k2
        · intro _; have := this.2 k2; omega
      · exact this
    · rw [getD_bump _ _ _ _ hkl]; have := ho.nn i hi; split
      · subst i; omega
      · exact this
    · rw [getD_bump _ _ _ _ hkl, getD_bump _ _ _ _ hkl]
      have h1 := ho.mono i j hi hj hf
      have h2 := (k3 i hi).1
      split
      · subst j; omega
      · split
        · subst i; omega
        · exact h1
  · rw [if_neg hle]
    obtain ⟨a, b⟩ := decTop_ok (f := f) ((shares f size f.sum).sum - size).toNat _ ho (by rw [h.len]; omega)
    exact ⟨a, by omega⟩
theorem Fr.norm_len {f : List Int} (h : Fr f) {size : Int} (hs : 66 ≤ size) : (normL f size).length = 65 := by rw [(h.norm hs).1.len, h.len]
theorem Fr.norm_at {f : List Int} (h : Fr f) {size : Int} (hs : 66 ≤ size) : ∀ x ∈ normL f size, 0 ≤ x ∧ x ≤ size := by
  obtain ⟨ho, hsum⟩ := h.norm hs
  have hn : ∀ x ∈ normL f size, 0 ≤ x := fun x hx => by
    obtain ⟨i, hi, rfl⟩ := mem_getD hx
    exact ho.nn i (by rw [← ho.len]; exact hi)
  exact fun x hx => ⟨hn x hx, by have := le_sum _ hn x hx; omega⟩
/-- Which may be asked. -/
def frB (f : List Int) : Bool := decide (f.length = 65 ∧ (∀ x ∈ f, 0 ≤ x ∧ x ≤ 16777216) ∧ 0 < f.sum)
theorem frB_iff (f : List Int) : frB f = true ↔ Fr f := by
  unfold frB; rw [decide_eq_true_eq]
  exact ⟨fun ⟨a, b, c⟩ => ⟨a, fun x hx => (b x hx).1, fun x hx => (b x hx).2, c⟩, fun h => ⟨h.len, fun x hx => ⟨h.nn x hx, h.le x hx⟩, h.pos⟩⟩
/-- The shares of the first i, nought for the others. -/
def shN (f : List Int) (size all : Int) (i : Nat) : List Int := ((f.take i).map (share size all)) ++ List.replicate (f.length - i) 0
theorem shN_zero (f : List Int) (size all : Int) : shN f size all 0 = List.replicate f.length 0 := by simp [shN]
theorem shN_all (f : List Int) (size all : Int) : shN f size all f.length = shares f size all := by simp [shN, shares]
theorem length_shN (f : List Int) (size all : Int) (i : Nat) (h : i ≤ f.length) : (shN f size all i).length = f.length := by simp [shN]; omega
theorem shN_succ (f : List Int) (size all : Int) (i : Nat) (h : i < f.length) : shN f size all (i + 1) = (shN f size all i).set i (share size all (f.getD i 0)) := by
  unfold shN
  have e : f.length - i = (f.length - (i + 1)) + 1 := by omega
  have e2 : f.getD i 0 = f[i] := by simp [List.getD_eq_getElem?_getD, h]
  have hl : ((f.take i).map (share size all)).length = i := by simp; omega
  rw [List.take_succ_eq_append_getElem h, List.map_append, e, List.replicate_succ, e2]
  rw [List.set_append_right _ _ (by omega), hl, Nat.sub_self, List.set_cons_zero, List.append_assoc]; rfl
theorem shN_at (f : List Int) (size all : Int) (i : Nat) (h : i < f.length) : (shN f size all i).getD i 0 = 0 := by
  unfold shN
  have hl : ((f.take i).map (share size all)).length = i := by simp; omega
  rw [List.getD_eq_getElem?_getD, List.getElem?_append_right (by omega), hl, Nat.sub_self, List.getElem?_replicate, if_pos (by omega)]; rfl
theorem shN_same (f : List Int) (size all : Int) (i : Nat) (h : i < f.length) (h0 : ¬ 0 < f.getD i 0) : shN f size all (i + 1) = shN f size all i := by
  rw [shN_succ f size all i h]
  have hs : share size all (f.getD i 0) = 0 := by unfold share; rw [if_neg h0]
  rw [hs]
  have := bump_zero (shN f size all i) i
  unfold bump at this
  rwa [shN_at f size all i h, Int.add_zero] at this
theorem sum_shN (f : List Int) (size all : Int) (i : Nat) (h : i < f.length) : (shN f size all (i + 1)).sum = (shN f size all i).sum + share size all (f.getD i 0) := by
  rw [shN_succ f size all i h, sum_set _ _ _ (by rw [length_shN _ _ _ _ (by omega)]; exact h), shN_at f size all i h]; omega
theorem take_sum (f : List Int) (i : Nat) (h : i < f.length) : (f.take (i + 1)).sum = (f.take i).sum + f.getD i 0 := by
  rw [List.take_succ_eq_append_getElem h, List.sum_append]
  simp [List.getD_eq_getElem?_getD, h]
theorem Fr.take_sum {f : List Int} (h : Fr f) (i : Nat) : 0 ≤ (f.take i).sum ∧ (f.take i).sum ≤ 1090519040 := by
  have h1 := sum_nonneg (f.take i) fun x hx => h.nn x (List.mem_of_mem_take hx)
  have h2 := sum_nonneg (f.drop i) fun x hx => h.nn x (List.mem_of_mem_drop hx)
  have h3 : f.sum = (f.take i).sum + (f.drop i).sum := by rw [← List.sum_append, List.take_append_drop]
  have := h.sum_le
  omega
theorem Fr.shN_sum {f : List Int} (h : Fr f) {size : Int} (hs : 1 ≤ size) : ∀ i, i ≤ f.length → 0 ≤ (shN f size f.sum i).sum ∧ (shN f size f.sum i).sum ≤ size * (i : Int) := by
  intro i
  induction i with
  | zero => intro _; rw [shN_zero]; simp
  | succ i ih =>
    intro hi
    have := ih (by omega)
    rw [sum_shN f size f.sum i (by omega)]
    have h2 := h.share_le hs (getD_mem (show i < f.length by omega))
    have e : size * ((i + 1 : Nat) : Int) = size * (i : Int) + size := by rw [Int.natCast_add, Int.mul_add]; simp
    rw [e]; omega
end Go.Proofs.Ytejecpmfhgplmaa.Nl

-- ---- PAx0

namespace Go.Proofs.Ytejecpmfhgplmaa.PA
open Go.RowKit Go.Proofs.YtejecpmfhgplmaaW.PrintWords Go.Proofs.YtejecpmfhgplmaaW.PrintLast Go.Proofs.YtejecpmfhgplmaaW.PrintMore
attribute [local go_sem] max2_int min2_int max_two min_two max_three min_three max_four min_four   -- for this text's walks alone
set_option linter.unusedVariables false
set_option linter.unusedSimpArgs false



def errW : Option Int → Value
  | none => .nilIface
  | some c => .iface 0 (.int .i64 c)
theorem errW_none : errW none = .nilIface := rfl
theorem errW_some (c : Int) : errW (some c) = .iface 0 (.int .i64 c) := rfl

theorem info3 : (Try.prog.info? 3).map (fun i => (i.zero, i.size, i.bytes)) = some (some (.int .i64 0), 1, 8) := by kernel_rfl
-- the values' own types
/-! #### struct type 70 -/
structure S70 where
  f0 : Int
  f1 : Int
def z70 : S70 := ⟨(0 : Int), (0 : Int)⟩
def k70 : Kd S70 := Kd.iso (Kd.pair (Kd.int .i64) (Kd.int .i64)) (fun x : S70 => (x.f0, x.f1))
theorem k70_open {w : World} {x : S70} {cs : List Value} (h : k70.K w x cs) : cs = [.int .i64 x.f0, .int .i64 x.f1] := by
  obtain ⟨_, _, rfl, rfl, rfl⟩ := h
  exact rfl
theorem k70_openM {w : World} {base : Nat} {ok : Nat → Prop} {x : S70} {cs : List Value} (h : k70.M w base ok x cs) : cs = [.int .i64 x.f0, .int .i64 x.f1] := by
  obtain ⟨_, _, rfl, rfl, rfl⟩ := h
  exact rfl
theorem k70_mk (w : World) (x : S70)  : k70.K w x [.int .i64 x.f0, .int .i64 x.f1] := ⟨[.int .i64 x.f0], [.int .i64 x.f1], rfl, rfl, rfl⟩
theorem k70_mkM (w : World) (base : Nat) (ok : Nat → Prop) (x : S70)  : k70.M w base ok x [.int .i64 x.f0, .int .i64 x.f1] := ⟨[.int .i64 x.f0], [.int .i64 x.f1], rfl, rfl, rfl⟩
def rd_T70 (xs : List S70) (i : Int) : S70 := xs.getD i.toNat z70
theorem at_T70 {w : World} {A : Option Addr} {n : Nat} {xs : List S70} (h : Kd.C k70 w A n xs) (i : Int) (h0 : 0 ≤ i) (h1 : i < n) : ∃ ad , A = some ad ∧ w.cell? (ad.add (i.toNat * 2)) = some (.int .i64 (rd_T70 xs i).f0) ∧ w.cell? ⟨(ad.add (i.toNat * 2)).block, (ad.add (i.toNat * 2)).off + 1, none⟩ = some (.int .i64 (rd_T70 xs i).f1) := by
  obtain ⟨ad, c, e, _, hK, hc0⟩ := Kd.C_get h z70 i h0 h1
  have hc : ∀ j u, c[j]? = some u → w.cell? (ad.add (i.toNat * 2 + j)) = some u := hc0
  obtain rfl := k70_open hK
  exact ⟨ad, e, hc 0 _ rfl, by rw [← add_field _ _ 1 (by omega)]; exact hc 1 _ rfl⟩

/-! #### struct type 57 -/
structure S57 where
  f0 : Int
  f1 : Int
  f2 : Bool
  f3 : Bool
def z57 : S57 := ⟨(0 : Int), (0 : Int), false, false⟩
def k57 : Kd S57 := Kd.iso (Kd.pair (Kd.int .i64) (Kd.pair (Kd.int .i64) (Kd.pair Kd.bool Kd.bool))) (fun x : S57 => (x.f0, x.f1, x.f2, x.f3))
theorem k57_open {w : World} {x : S57} {cs : List Value} (h : k57.K w x cs) : cs = [.int .i64 x.f0, .int .i64 x.f1, .bool x.f2, .bool x.f3] := by
  obtain ⟨_, _, rfl, rfl, ⟨_, _, rfl, rfl, ⟨_, _, rfl, rfl, rfl⟩⟩⟩ := h
  exact rfl
theorem k57_openM {w : World} {base : Nat} {ok : Nat → Prop} {x : S57} {cs : List Value} (h : k57.M w base ok x cs) : cs = [.int .i64 x.f0, .int .i64 x.f1, .bool x.f2, .bool x.f3] := by
  obtain ⟨_, _, rfl, rfl, ⟨_, _, rfl, rfl, ⟨_, _, rfl, rfl, rfl⟩⟩⟩ := h
  exact rfl
theorem k57_mk (w : World) (x : S57)  : k57.K w x [.int .i64 x.f0, .int .i64 x.f1, .bool x.f2, .bool x.f3] := ⟨[.int .i64 x.f0], [.int .i64 x.f1, .bool x.f2, .bool x.f3], rfl, rfl, ⟨[.int .i64 x.f1], [.bool x.f2, .bool x.f3], rfl, rfl, ⟨[.bool x.f2], [.bool x.f3], rfl, rfl, rfl⟩⟩⟩
theorem k57_mkM (w : World) (base : Nat) (ok : Nat → Prop) (x : S57)  : k57.M w base ok x [.int .i64 x.f0, .int .i64 x.f1, .bool x.f2, .bool x.f3] := ⟨[.int .i64 x.f0], [.int .i64 x.f1, .bool x.f2, .bool x.f3], rfl, rfl, ⟨[.int .i64 x.f1], [.bool x.f2, .bool x.f3], rfl, rfl, ⟨[.bool x.f2], [.bool x.f3], rfl, rfl, rfl⟩⟩⟩
def rd_T57 (xs : List S57) (i : Int) : S57 := xs.getD i.toNat z57
theorem at_T57 {w : World} {A : Option Addr} {n : Nat} {xs : List S57} (h : Kd.C k57 w A n xs) (i : Int) (h0 : 0 ≤ i) (h1 : i < n) : ∃ ad , A = some ad ∧ w.cell? (ad.add (i.toNat * 4)) = some (.int .i64 (rd_T57 xs i).f0) ∧ w.cell? ⟨(ad.add (i.toNat * 4)).block, (ad.add (i.toNat * 4)).off + 1, none⟩ = some (.int .i64 (rd_T57 xs i).f1) ∧ w.cell? ⟨(ad.add (i.toNat * 4)).block, (ad.add (i.toNat * 4)).off + 2, none⟩ = some (.bool (rd_T57 xs i).f2) ∧ w.cell? ⟨(ad.add (i.toNat * 4)).block, (ad.add (i.toNat * 4)).off + 3, none⟩ = some (.bool (rd_T57 xs i).f3) := by
  obtain ⟨ad, c, e, _, hK, hc0⟩ := Kd.C_get h z57 i h0 h1
  have hc : ∀ j u, c[j]? = some u → w.cell? (ad.add (i.toNat * 4 + j)) = some u := hc0
  obtain rfl := k57_open hK
  exact ⟨ad, e, hc 0 _ rfl, by rw [← add_field _ _ 1 (by omega)]; exact hc 1 _ rfl, by rw [← add_field _ _ 2 (by omega)]; exact hc 2 _ rfl, by rw [← add_field _ _ 3 (by omega)]; exact hc 3 _ rfl⟩

end Go.Proofs.Ytejecpmfhgplmaa.PA

-- ---- PAx13
/- merge.Lengths: what the call answers, for every list and limit. Conditions: the list's length fits a slice. -/
namespace Go.Proofs.Ytejecpmfhgplmaa.PA
open Go.RowKit Go.Proofs.YtejecpmfhgplmaaW.PrintWords Go.Proofs.YtejecpmfhgplmaaW.PrintLast Go.Proofs.YtejecpmfhgplmaaW.PrintMore
set_option linter.unusedVariables false
set_option linter.unusedSimpArgs false

def merge_Lengths.f (l0 : List Int) (a1 : Int) : Option (List Int × Int) := if l0.length < 200000000000000 then some (lenE l0 a1) else none
theorem merge_Lengths.calls (A0 : Option Addr) (c0 : Nat) (l0 : List Int) (a1 : Int) (r1 : List Int) (r2 : Int) (w : World) (hr0 : Kd.C (Kd.int .i64) w A0 l0.length l0) (hc0 : l0.length ≤ c0) (h : merge_Lengths.f l0 a1 = some (r1, r2)) :
    Calls Try.prog 11 #[.slice A0 l0.length c0, .int .i64 a1] w fun e w' => ∃ v0_ : Value, e = .returned (.tuple #[v0_, .int .i64 r2]) ∧ Kd.R (Kd.int .i64) 3 w' w.heap.size (fun _ => True) v0_ r1 ∧ Below w.heap.size w w' := by
  unfold merge_Lengths.f at h
  split at h
  · rename_i hn
    have h := Option.some.inj h
    unfold lenE at h
    have hR := Own.rd_of_C hr0
    split at h
    · rename_i hg
      obtain ⟨rfl, rfl⟩ := Prod.mk.inj h
      obtain ⟨m, rfl, hf⟩ := (fqB_iff l0 a1).1 hg
      have h65 := hf.len
      rw [h65] at hR ⊢
      have both : Calls Try.prog 11 #[.slice A0 65 c0, .int .i64 (m : Int)] w (MLenE l0 m w) := by
        rcases Nat.lt_or_ge (Ol.ordL l0).length 2 with h2 | h2
        · exact mlen_small A0 c0 l0 m w hR hf h2
        · exact mlen_ok A0 c0 l0 m w hR hf h2
      refine both.mono ?_
      rintro e w' ⟨v, rfl, ho, hnew, hb⟩
      exact ⟨v, rfl, Own.R_of_owns (by rw [Int.toNat_natCast]; exact ho) hnew, hb⟩
    · rename_i hg
      obtain ⟨rfl, rfl⟩ := Prod.mk.inj h
      refine (mlen_bad A0 l0.length c0 l0 a1 w hR hn hg).mono ?_
      rintro e w' ⟨rfl, hb⟩
      exact ⟨_, rfl, Kd.R_nil _ _ _ _ _, hb⟩
  · cases h
end Go.Proofs.Ytejecpmfhgplmaa.PA

-- ---- PAx14

namespace Go.Proofs.Ytejecpmfhgplmaa.PA
open Go.RowKit Go.Proofs.YtejecpmfhgplmaaW.PrintWords Go.Proofs.YtejecpmfhgplmaaW.PrintLast Go.Proofs.YtejecpmfhgplmaaW.PrintMore
attribute [local go_sem] max2_int min2_int max_two min_two max_three min_three max_four min_four   -- for this text's walks alone
set_option linter.unusedVariables false
set_option linter.unusedSimpArgs false

/-! ### wringerlaw1_Err: function 14 -/
def wringerlaw1_Err.f (a0 : Int) : Option (Int) := some a0
set_option maxHeartbeats 8000000 in
set_option maxRecDepth 100000 in
theorem wringerlaw1_Err.calls (a0 : Int) (r : Int) (w : World) (h : wringerlaw1_Err.f a0 = some r) :
    Calls Try.prog 14 #[.int .i64 a0] w fun e w' => e = .returned (.int .i64 r) ∧ Drawn0 w w' := by
  have H : (some a0) = some r := h
  clear h
  obtain rfl := Option.some.inj H
  go_enter Try.func14, Try.ntmps14
  go_wp2
  go_ret
  exact ⟨by first | rfl | (simp; done) | (simp [*]; done), by repeat (first | exact Drawn0.refl _ | apply Drawn0.step)⟩

end Go.Proofs.Ytejecpmfhgplmaa.PA

-- ---- PAx15
/- merge.Cost: what the call answers, for every two lists. Conditions: the lists' lengths fit a slice. -/
namespace Go.Proofs.Ytejecpmfhgplmaa.PA
open Go.RowKit Go.Proofs.YtejecpmfhgplmaaW.PrintWords Go.Proofs.YtejecpmfhgplmaaW.PrintLast Go.Proofs.YtejecpmfhgplmaaW.PrintMore
set_option linter.unusedVariables false
set_option linter.unusedSimpArgs false
attribute [local go_sem] Own.max_int Own.min_int

def merge_Cost.f (l0 : List Int) (l1 : List Int) : Option (Int) := if l0.length < 200000000000000 then some (costW l0 l1) else none
set_option maxHeartbeats 2000000 in
theorem merge_Cost.walk (A0 : Option Addr) (n0 c0 : Nat) (l0 : List Int) (A1 : Option Addr) (n1 c1 : Nat) (l1 : List Int) (w : World) (h0 : Own.Rd w (.slice A0 n0 n0) (Own.ints .i64 l0)) (h1 : Own.Rd w (.slice A1 n1 n1) (Own.ints .i64 l1)) (hn : n0 < 200000000000000) :
    Calls Try.prog 15 #[.slice A0 n0 c0, .slice A1 n1 c1] w fun e w' => e = .returned (.int .i64 (costW l0 l1)) ∧ Drawn0 w w' := by
  have e0 : l0.length = n0 := by have := h0.length; rw [Own.length_ints] at this; exact this.symm
  have e1 : l1.length = n1 := by have := h1.length; rw [Own.length_ints] at this; exact this.symm
  obtain ⟨N, hN⟩ : ∃ N, N = min n0 n1 := ⟨_, rfl⟩
  have hmn : Own.mn (n0 : Int) (n1 : Int) = (N : Int) := by rw [Own.mn_eq]; omega
  have hN0 : N ≤ n0 := by omega
  have hN1 : N ≤ n1 := by omega
  have HR := Own.kept (show costW l0 l1 = costA l0 l1 N by unfold costW; rw [e0, e1, hN])
  have H0 := Own.kept h0
  have H1 := Own.kept h1
  have E0 := Own.kept e0
  have E1 := Own.kept e1
  clear h0 h1 e0 e1 hN
  go_enter Try.func15, Try.ntmps15
  go_wp2_with fail
  clear hmn
  go_loopw [5, 12] (fun s5 s12 wr => ∃ i : Nat, i ≤ N ∧ s12 = .int .i64 (i : Int) ∧ s5 = .int .i64 (costA l0 l1 i) ∧ Drawn0 w wr) (fun _ s12 _ => N - (intOf s12).toNat)
  case atStart => exact ⟨0, Nat.zero_le _, rfl, rfl, Drawn0.refl _⟩
  case round =>
    obtain ⟨i, hi, rfl, rfl, hd⟩ := hrel
    obtain ⟨wq, rfl⟩ : ∃ wq, wq = wr := ⟨wr, rfl⟩
    obtain ⟨S, hS⟩ : ∃ S, S = costA l0 l1 i := ⟨_, rfl⟩
    rw [← hS]
    by_cases hlt : i < N
    · have hb := hd.below
      obtain ⟨x0, rfl, k0⟩ := (H0.out.later hb).at (Own.ints_at .i64 l0 i (by rw [E0.out]; omega))
      obtain ⟨x1, rfl, k1⟩ := (H1.out.later hb).at (Own.ints_at .i64 l1 i (by rw [E1.out]; omega))
      obtain ⟨y0, hy0⟩ : ∃ y, y = l0.getD i 0 := ⟨_, rfl⟩
      obtain ⟨y1, hy1⟩ : ∃ y, y = l1.getD i 0 := ⟨_, rfl⟩
      rw [← hy0] at k0
      rw [← hy1] at k1
      have HNx := Own.kept (show costA l0 l1 (i + 1) = wrap64 (S + wrap64 (y0 * y1)) by rw [hS, hy0, hy1]; rfl)
      have HD := Own.kept hd
      have hi0 : (i : Int) < (n0 : Int) := by omega
      have hi1 : (i : Int) < (n1 : Int) := by omega
      clear hd hb hy0 hy1 hS
      go_wp2_with fail
      go_quiet (fail)
      go_wp2_with fail
      go_roundw
      case rel => exact ⟨i + 1, by omega, by go_num, by rw [HNx.out], HD.out.step _⟩
      case measure => simp [intOf]; omega
    · have hie : i = N := by omega
      subst hie
      have HS := Own.kept hS
      have HD := Own.kept hd
      clear hd hS
      go_wp2_with fail
      go_ret
      exact ⟨by rw [HR.out, ← HS.out]; rfl, HD.out⟩
theorem merge_Cost.calls (A0 : Option Addr) (c0 : Nat) (l0 : List Int) (A1 : Option Addr) (c1 : Nat) (l1 : List Int) (r : Int) (w : World) (hr0 : Kd.C (Kd.int .i64) w A0 l0.length l0) (hc0 : l0.length ≤ c0) (hr1 : Kd.C (Kd.int .i64) w A1 l1.length l1) (hc1 : l1.length ≤ c1) (h : merge_Cost.f l0 l1 = some r) :
    Calls Try.prog 15 #[.slice A0 l0.length c0, .slice A1 l1.length c1] w fun e w' => e = .returned (.int .i64 r) ∧ Drawn0 w w' := by
  unfold merge_Cost.f at h
  split at h
  · rename_i hn
    obtain rfl := Option.some.inj h
    exact merge_Cost.walk A0 l0.length c0 l0 A1 l1.length c1 l1 w (Own.rd_of_C hr0) (Own.rd_of_C hr1) hn
  · cases h
end Go.Proofs.Ytejecpmfhgplmaa.PA
