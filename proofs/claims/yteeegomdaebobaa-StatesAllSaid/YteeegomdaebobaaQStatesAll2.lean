/- Part StatesAll2 of what the layer's laws stand on: Sc, Nm, Bg, Sra, Va, Srb, Se, Shb, Sf, Sho, Sr, Af, Ro, Len64, Tc, Kd, Ub, PAx0, PAx2, PAx3, PAx51, PAx52, Um, PAx4, PAx53, Us, Tb, Sm. Written by a program (merge.py) out of this session's own texts and of what the kit's print wrote over stand-ins (sp.py). Conditions: those that each theorem names. -/
import Derived.Test.YteeegomdaebobaaQStatesAll1
import Derived.WalkKit
import Derived.WalkSpells
import Derived.WalkLawsBesides
import Derived.BigQuiet
import Derived.Lib.Hide
import Derived.Deep.DeepCutAuto
import Derived.OwnWalk
import Derived.Shelf.SlCmpFuncs.BinarySearchFunc
import Derived.Test.YteeegomdaebobaaProg
import Derived.Shelf.SlSortCmp.NoneTotal
import Derived.Deep.DeepAppendWide
import Derived.Laws.OwnMore
import Derived.OpenShut
import Derived.Lib.Strings
import Derived.Lib.Slices
import Derived.Lib.Small
import Derived.Lib.Walk
import Derived.Lib.BitFns
import Derived.Deep.Light
import Derived.Test.YteeegomdaebobaaQStatesAllVWords
import Derived.Test.YteeegomdaebobaaQStatesAllVMore
import Derived.Test.YteeegomdaebobaaQStatesAllVLast
import Derived.Below
import Derived.Deep.Draws
import Derived.Deep.AppendLies
import Derived.Maps.AppendAt
import Derived.Laws.BytesArg
import Derived.Laws.MakeOwn
import Derived.Deep.OwnRows
import Derived.Tactics
import Derived.Lib.ConvBytes
import Derived.Laws.Slices
import Derived.KernelRfl
import Derived.RowKit3
import Derived.Deep.LoopGhost
import Derived.Deep.QuietTactic
import Derived.WideLaws
import Derived.Deep.CutBlock
import Derived.Deep.RegionHeld3
import Derived.Laws.Rows
import Derived.Lib.AppendStr
import Derived.ArgAppend
import Derived.Laws.IdiomCopy
import Derived.OrdersHeld
import Derived.Laws.BitsLemmas
import Derived.RowKit
import Derived.Test.YteeegomdaebobaaQStatesAllVTab
import Derived.Test.YteeegomdaebobaaQStatesAllVFour
import Derived.Test.YteeegomdaebobaaQStatesAllVQPut
import Derived.Test.YteeegomdaebobaaQStatesAllVApart
import Derived.Test.YteeegomdaebobaaQStatesAllVArr
import Derived.Test.YteeegomdaebobaaQStatesAllVZeros
import Derived.Test.YteeegomdaebobaaQStatesAllVFoot
import Derived.Test.YteeegomdaebobaaQStatesAllVKept
import Derived.Test.YteeegomdaebobaaQStatesAllVShare
import Derived.Test.YteeegomdaebobaaQStatesAllVN
import Derived.Test.YteeegomdaebobaaQStatesAllVFootNe
import Derived.Test.YteeegomdaebobaaQStatesAllVAt
import Derived.Test.YteeegomdaebobaaQStatesAllVEqStruct
import Derived.Test.YteeegomdaebobaaQStatesAllVRepsOne
import Derived.Test.YteeegomdaebobaaQStatesAllVInv
import Derived.Test.YteeegomdaebobaaQStatesAllVInvWords
import Derived.Test.YteeegomdaebobaaQStatesAllVGuard
import Derived.Test.YteeegomdaebobaaQStatesAllVNEv
import Derived.Deep.MidRow
-- ---- Sc
/- A coder of states: how it lies in memory, and what stays of it. Conditions: those that each theorem names. -/
namespace Go.Proofs.Yteeegomdaebobaa.St
set_option maxRecDepth 100000
set_option linter.unusedSimpArgs false
set_option linter.unusedVariables false
open Go.RowKit Mix _root_.Go.Proofs.Yteeegomdaebobaa.Own Nl Sp

def cV (c : Int × Int × Int) : List Value := [.int .i64 c.1, .int .i64 c.2.1, .int .i64 c.2.2]
theorem cV_at : ∀ (cs : List (Int × Int × Int)) (j : Nat), j < cs.length → (cs.flatMap cV)[j * 3]? = some (.int .i64 (cs.getD j (0, 0, 0)).1) ∧ (cs.flatMap cV)[j * 3 + 1]? = some (.int .i64 (cs.getD j (0, 0, 0)).2.1) ∧ (cs.flatMap cV)[j * 3 + 2]? = some (.int .i64 (cs.getD j (0, 0, 0)).2.2)
  | [], _, h => by simp at h
  | a :: t, 0, _ => ⟨rfl, rfl, rfl⟩
  | a :: t, j + 1, h => by
    have ih := cV_at t j (by simpa using h)
    have e0 : (a :: t).flatMap cV = .int .i64 a.1 :: .int .i64 a.2.1 :: .int .i64 a.2.2 :: t.flatMap cV := by simp [List.flatMap_cons, cV]
    rw [e0, show (j + 1) * 3 = (j * 3) + 1 + 1 + 1 by omega]
    simpa using ih

/-- A coder's cells. -/
def coC (tv : Value) (R : List (Value × List Nat)) (st : Nat) (vv lv : Value) : Array Value := (tv :: (R.map Prod.fst ++ [.int .i64 (st : Int), vv, lv])).toArray
theorem coC_table (tv : Value) (R : List (Value × List Nat)) (st : Nat) (vv lv : Value) : (coC tv R st vv lv)[0]? = some tv := by simp [coC]
theorem coC_of {tv : Value} {R : List (Value × List Nat)} {st : Nat} {vv lv : Value} {c : Nat} {v : Value} {xs : List Nat} (h : R[c]? = some (v, xs)) : (coC tv R st vv lv)[c + 1]? = some v := by
  have hl := (List.getElem?_eq_some_iff.1 h).1
  simp [coC, List.getElem?_append_left (show c < (R.map Prod.fst).length by simpa using hl), h]
theorem coC_tail {tv : Value} {R : List (Value × List Nat)} {st : Nat} {vv lv : Value} (h : R.length = 65) : (coC tv R st vv lv)[66]? = some (.int .i64 (st : Int)) ∧ (coC tv R st vv lv)[67]? = some vv ∧ (coC tv R st vv lv)[68]? = some lv := by
  refine ⟨?_, ?_, ?_⟩ <;> simp [coC, List.getElem?_append_right, h]
theorem coC_setV {tv : Value} {R : List (Value × List Nat)} {st : Nat} {vv lv u : Value} (h : R.length = 65) : (coC tv R st vv lv).setIfInBounds 67 u = coC tv R st u lv := by
  unfold coC
  rw [List.setIfInBounds_toArray]
  congr 1
  rw [List.set_cons_succ, List.set_append_right _ _ (by simp [h])]
  simp [h]
theorem coC_setL {tv : Value} {R : List (Value × List Nat)} {st : Nat} {vv lv u : Value} (h : R.length = 65) : (coC tv R st vv lv).setIfInBounds 68 u = coC tv R st vv u := by
  unfold coC
  rw [List.setIfInBounds_toArray]
  congr 1
  rw [List.set_cons_succ, List.set_append_right _ _ (by simp [h])]
  simp [h]
theorem coC_setS {tv : Value} {R : List (Value × List Nat)} {st s : Nat} {vv lv : Value} (h : R.length = 65) : (coC tv R st vv lv).setIfInBounds 66 (.int .i64 (s : Int)) = coC tv R s vv lv := by
  unfold coC
  rw [List.setIfInBounds_toArray]
  congr 1
  rw [List.set_cons_succ, List.set_append_right _ _ (by simp [h])]
  simp [h]
theorem coC_setO {tv : Value} {R : List (Value × List Nat)} {st c : Nat} {vv lv u : Value} {xs : List Nat} (h : c < R.length) : (coC tv R st vv lv).setIfInBounds (c + 1) u = coC tv (R.set c (u, xs)) st vv lv := by
  unfold coC
  rw [List.setIfInBounds_toArray]
  congr 1
  rw [List.set_cons_succ, List.set_append_left _ _ (by simpa using h), List.map_set]

/-- A row's values. -/
def rowV (r : Value × List Nat) : Value × List Value := (r.1, nums .i64 r.2)
/-- A coder at block p: its cells, its table, its rows and the lengths' row, the numbers' row; all of its memory from block B on. -/
structure Co (B : Nat) (w : World) (p : Nat) (cs : Array Value) (tv : Value) (T : List (Int × Int × Int)) (R : List (Value × List Nat)) (lv : Value) (ns : List Nat) (vv : Value) (vs : List Nat) : Prop where
  blk : Blk w p cs 79
  tab : OwnK w 105 3 tv T.length (T.flatMap cV)
  of : Many B w 3 ((R ++ [(lv, ns)]).map rowV)
  vals : Owns w 56 vv (nums .u64 vs)
  len : R.length = 65
  pB : B ≤ p
  tB : ∀ g, tv.ownBlock = some g → B ≤ g
  vB : ∀ g, vv.ownBlock = some g → B ≤ g
  sz : B ≤ w.heap.size
section
variable {B : Nat} {w w' : World} {p : Nat} {cs : Array Value} {tv : Value} {T : List (Int × Int × Int)} {R : List (Value × List Nat)} {lv : Value} {ns : List Nat} {vv : Value} {vs : List Nat}
theorem Co.later (h : Co B w p cs tv T R lv ns vv vs) (hb : Below w.heap.size w w') : Co B w' p cs tv T R lv ns vv vs :=
  ⟨(hb.block p h.blk.lt).trans h.blk, h.tab.later hb, h.of.later hb, h.vals.keep fun g _ hg => hb.block g hg, h.len, h.pB, h.tB, h.vB, Nat.le_trans h.sz hb.size⟩
theorem Co.rowI (h : Co B w p cs tv T R lv ns vv vs) {c : Nat} {v : Value} {xs : List Nat} (hc : R[c]? = some (v, xs)) : ((R ++ [(lv, ns)]).map rowV)[c]? = some (v, nums .i64 xs) := by
  have hl := (List.getElem?_eq_some_iff.1 hc).1
  rw [List.getElem?_map, List.getElem?_append_left hl, hc]; rfl
theorem Co.lenI (h : Co B w p cs tv T R lv ns vv vs) : ((R ++ [(lv, ns)]).map rowV)[65]? = some (lv, nums .i64 ns) := by
  rw [List.getElem?_map, List.getElem?_append_right (by rw [h.len]; exact Nat.le_refl _), h.len]; rfl
/-- A cell of its own is written. -/
theorem Co.store (h : Co B w p cs tv T R lv ns vv vs) (j : Nat) (u : Value) : Co B (w.setCell ⟨p, j, none⟩ u) p (cs.setIfInBounds j u) tv T R lv ns vv vs :=
  ⟨h.blk.set j u, h.tab.setOther (a := ⟨p, j, none⟩) (h.tab.ne h.blk (by decide)) u, h.of.setBlk h.blk (by decide) j u, h.vals.setOther (a := ⟨p, j, none⟩) (h.vals.ne h.blk (by decide)) u, h.len, h.pB, h.tB, h.vB, by simpa [World.setCell] using h.sz⟩
/-- The numbers' row has turned. -/
theorem Co.turnV (h : Co B w p cs tv T R lv ns vv vs) {vv' : Value} {vs' : List Nat} (hc : Chg (fun k => some k = vv.ownBlock) w w') (ho : Owns w' 56 vv' (nums .u64 vs')) (hn : ∀ g, vv'.ownBlock = some g → some g = vv.ownBlock ∨ w.heap.size ≤ g) : Co B w' p cs tv T R lv ns vv' vs' :=
  ⟨hc.keep h.blk fun e => h.vals.ne h.blk (by decide) e.symm, h.tab.chg hc fun g hg e => h.tab.neO h.vals (by decide) e.symm hg,
    h.of.chg hc fun i v xs hi g hg e => by
      obtain ⟨cur, hb⟩ := h.vals.blk g e.symm
      exact (h.of.own i v xs hi).ne hb (by decide) hg, ho, h.len, h.pB, h.tB, fun g hg => by
      rcases hn g hg with e | e
      · exact h.vB g e.symm
      · exact Nat.le_trans h.sz e, Nat.le_trans h.sz hc.size⟩
theorem Co.keepRow (h : Co B w p cs tv T R lv ns vv vs) {i : Nat} {v : Value} {xs : List Value} (hi : ((R ++ [(lv, ns)]).map rowV)[i]? = some (v, xs)) (hc : Chg (fun k => some k = v.ownBlock) w w') :
    Blk w' p cs 79 ∧ OwnK w' 105 3 tv T.length (T.flatMap cV) ∧ Owns w' 56 vv (nums .u64 vs) :=
  have ho := h.of.own i v xs hi
  ⟨hc.keep h.blk fun e => ho.ne h.blk (by decide) e.symm, h.tab.chg hc fun g hg e => h.tab.neO ho (by decide) e.symm hg, h.vals.chg hc fun g hg e => by
    obtain ⟨cur, hb⟩ := ho.blk g e.symm
    exact h.vals.ne hb (by decide) hg⟩
/-- The lengths' row has turned. -/
theorem Co.turnL (h : Co B w p cs tv T R lv ns vv vs) {lv' : Value} {ns' : List Nat} (hc : Chg (fun k => some k = lv.ownBlock) w w') (ho : Owns w' 3 lv' (nums .i64 ns')) (hn : ∀ g, lv'.ownBlock = some g → some g = lv.ownBlock ∨ w.heap.size ≤ g) : Co B w' p cs tv T R lv' ns' vv vs := by
  obtain ⟨h1, h2, h3⟩ := h.keepRow h.lenI hc
  refine ⟨h1, h2, ?_, h3, h.len, h.pB, h.tB, h.vB, Nat.le_trans h.sz hc.size⟩
  have hm := h.of.set 65 h.lenI hc ho hn h.sz
  have e : ((R ++ [(lv, ns)]).map rowV).set 65 (lv', nums .i64 ns') = (R ++ [(lv', ns')]).map rowV := by
    rw [List.map_append, List.map_append, List.set_append_right _ _ (by simp [h.len])]
    simp [h.len, rowV]
  rwa [e] at hm
/-- A class' row has turned. -/
theorem Co.turnO (h : Co B w p cs tv T R lv ns vv vs) {c : Nat} {v v' : Value} {xs xs' : List Nat} (hi : R[c]? = some (v, xs)) (hc : Chg (fun k => some k = v.ownBlock) w w') (ho : Owns w' 3 v' (nums .i64 xs')) (hn : ∀ g, v'.ownBlock = some g → some g = v.ownBlock ∨ w.heap.size ≤ g) : Co B w' p cs tv T (R.set c (v', xs')) lv ns vv vs := by
  obtain ⟨h1, h2, h3⟩ := h.keepRow (h.rowI hi) hc
  have hl := (List.getElem?_eq_some_iff.1 hi).1
  refine ⟨h1, h2, ?_, h3, by rw [List.length_set]; exact h.len, h.pB, h.tB, h.vB, Nat.le_trans h.sz hc.size⟩
  have hm := h.of.set c (h.rowI hi) hc ho hn h.sz
  have e : ((R ++ [(lv, ns)]).map rowV).set c (v', nums .i64 xs') = ((R.set c (v', xs')) ++ [(lv, ns)]).map rowV := by
    rw [List.map_append, List.map_append, List.set_append_left _ _ (by simpa using hl), List.map_set]
    rfl
  rwa [e] at hm
theorem Co.lens (h : Co B w p cs tv T R lv ns vv vs) : Owns w 3 lv (nums .i64 ns) := h.of.own 65 _ _ h.lenI
theorem Co.row (h : Co B w p cs tv T R lv ns vv vs) {c : Nat} {v : Value} {xs : List Nat} (hi : R[c]? = some (v, xs)) : Owns w 3 v (nums .i64 xs) := h.of.own c _ _ (h.rowI hi)
theorem Co.lB (h : Co B w p cs tv T R lv ns vv vs) : ∀ g, lv.ownBlock = some g → B ≤ g := h.of.new 65 _ _ h.lenI
theorem Co.oB (h : Co B w p cs tv T R lv ns vv vs) {c : Nat} {v : Value} {xs : List Nat} (hi : R[c]? = some (v, xs)) : ∀ g, v.ownBlock = some g → B ≤ g := h.of.new c _ _ (h.rowI hi)
theorem Co.belowO (h : Co B w p cs tv T R lv ns vv vs) {c : Nat} {v : Value} {xs : List Nat} (hi : R[c]? = some (v, xs)) (hc : Chg (fun k => some k = v.ownBlock) w w') : Below B w w' := hc.below h.sz fun k hk e => by have := h.oB hi k e.symm; omega
theorem Co.belowS (h : Co B w p cs tv T R lv ns vv vs) (j : Nat) (u : Value) : Below B w (w.setCell ⟨p, j, none⟩ u) := (Chg.setCell w ⟨p, j, none⟩ u).below h.sz fun k hk e => by have := h.pB; have e2 : k = p := e; omega
end

/-- The worlds in which a block lies as it lay. -/
def Kp (w : World) (p : Nat) : Type := { w' : World // p < w.heap.size → p < w'.heap.size ∧ w'.heap[p]? = w.heap[p]? }
def Kp.w {w : World} {p : Nat} (n : Kp w p) : World := n.val
instance (w : World) (p : Nat) : Nonempty (Kp w p) := ⟨⟨w, fun h => ⟨h, rfl⟩⟩⟩
theorem kp_cell {w : World} {p : Addr} {v : Value} (h : w.cell? p = some v) (n : Kp w p.block) : n.w.cell? p = some v := by
  have := (n.property (World.block_lt_of_cell? w p h)).2
  exact (World.cell?_of_block (w := w) (a := p) this).trans h
theorem kp_below {w : World} {p : Nat} : ∀ w1 w2, (∃ n : Kp w p, w1 = n.w) → Below w1.heap.size w1 w2 → ∃ n : Kp w p, w2 = n.w := fun w1 w2 ⟨n, e⟩ hb => by
  subst e
  exact ⟨⟨w2, fun h => ⟨Nat.lt_of_lt_of_le (n.property h).1 hb.size, (hb.block p (n.property h).1).trans (n.property h).2⟩⟩, rfl⟩
theorem kp_of {w w' : World} {p : Nat} {cs : Array Value} {t : TypeId} (h : Blk w p cs t) (h' : Blk w' p cs t) : ∃ n : Kp w p, w' = n.w :=
  ⟨⟨w', fun _ => ⟨h'.lt, by rw [show w'.heap[p]? = _ from h', show w.heap[p]? = _ from h]⟩⟩, rfl⟩
theorem kp_drew (w : World) (p : Nat) : ∃ n : Kp w p, w.drew = n.w := ⟨⟨w.drew, fun h => ⟨h, rfl⟩⟩, rfl⟩

theorem infoU64 : (Try.prog.info? 56).map (fun i => (i.zero, i.size, i.bytes)) = some (some (.int .u64 0), 1, 8) := by kernel_rfl
theorem infoInt : (Try.prog.info? 3).map (fun i => (i.zero, i.size, i.bytes)) = some (some (.int .i64 0), 1, 8) := by kernel_rfl
theorem info_partsS {i : Option TypeInfo} {z : Value} {s b : Nat} (h : i.map (fun i => (i.zero, i.size, i.bytes)) = some (some z, s, b)) : ∃ i0, i = some i0 ∧ i0.zero = some z ∧ i0.size = s ∧ i0.bytes = b := by
  cases i with
  | none => simp at h
  | some i => simp at h; exact ⟨i, rfl, h.1, h.2.1, h.2.2⟩
theorem nums_snoc (k : IntKind) (l : List Nat) (x : Nat) : nums k (l ++ [x]) = nums k l ++ [.int k (x : Int)] := by simp [nums]
theorem len_nums (k : IntKind) (l : List Nat) : (nums k l).length = l.length := by simp [nums]
theorem nums_at (k : IntKind) (l : List Nat) (j : Nat) (h : j < l.length) : (nums k l)[j]? = some (.int k ((l.getD j 0 : Nat) : Int)) := by simp [nums, List.getD_eq_getElem?_getD, h]
theorem one_news {w : World} {g : Nat} {u : Value} {t : TypeId} (h : Blk w g #[u] t) : ∀ j x, [u][j]? = some x → w.cell? ((⟨g, 0, none⟩ : Addr).add j) = some x := fun j x hj => by
  match j, hj with
  | 0, hj => simp at hj; subst hj; simp [Addr.add]; exact h.cell rfl
end Go.Proofs.Yteeegomdaebobaa.St

-- ---- Nm
/- Powers of two as the walk spells them. No program in sight. -/
namespace Go.Proofs.Yteeegomdaebobaa
set_option maxRecDepth 100000
set_option linter.unusedSimpArgs false
set_option linter.unusedVariables false
open Go Go.RowKit

theorem shl_int (k : Nat) (h : k ≤ 62) : wrap64 ((2 : Int) ^ k) = ((2 ^ k : Nat) : Int) := by
  have h2 : 2 ^ k ≤ 2 ^ 62 := Nat.pow_le_pow_right (by decide) h
  have e : ((2 : Int) ^ k) = ((2 ^ k : Nat) : Int) := by simp
  have e3 : (2 : Nat) ^ 62 = 4611686018427387904 := by decide
  rw [e]
  generalize 2 ^ k = P at h2
  unfold wrap64
  omega
theorem pow12 (k : Nat) (h : k ≤ 12) : 2 ^ k ≤ 4096 := by
  have : 2 ^ k ≤ 2 ^ 12 := Nat.pow_le_pow_right (by decide) h
  omega
end Go.Proofs.Yteeegomdaebobaa

-- ---- Bg
/- bits.From, and a Reader all of whose memory lies from a block on. -/
namespace Go.Proofs.Yteeegomdaebobaa
set_option maxRecDepth 100000
set_option linter.unusedSimpArgs false
set_option linter.unusedVariables false
open Go.RowKit Mix _root_.Go.Proofs.Yteeegomdaebobaa.Own Bits

set_option maxHeartbeats 1000000 in
theorem from_calls (s : ByteArray) (w : World) : Calls Try.prog 65 #[.string s] w fun e w' => ∃ p, e = .returned (.pointer (some ⟨p, 0, none⟩)) ∧ IsRd w' p s 0 ∧ Below w.heap.size w w' ∧ w.heap.size ≤ p := by
  go_enter Try.func65, Try.ntmps65
  go_wp2_with fail
  go_ret
  exact ⟨_, rfl, Blk.fresh _ _ _, (Below.refl _ _).alloc (Nat.le_refl _) _, Nat.le_refl _⟩
theorem IsRd.keep {w w' : World} {S : Nat → Prop} {p : Nat} {s : ByteArray} {k : Nat} (h : IsRd w p s k) (hc : Chg S w w') (hp : ¬ S p) : IsRd w' p s k := hc.keep h hp
theorem IsRd.later {w w' : World} {p : Nat} {s : ByteArray} {k : Nat} (h : IsRd w p s k) (hc : Below w.heap.size w w') : IsRd w' p s k := (hc.block p (Blk.lt h)).trans h
theorem get_new (B p : Nat) (s : ByteArray) (k : Nat) (n : Int) (w : World) (hB : B ≤ w.heap.size) (hp : B ≤ p) (h : IsRd w p s k) (hs : s.size ≤ 1000000000000) (hk : k ≤ 8 * s.size) :
    Calls Try.prog 67 #[.pointer (some ⟨p, 0, none⟩), .int .i64 n] w fun e w' => e = .returned (.tuple #[.int .u64 ((getS s k n).1 : Int), .int .i64 ((getS s k n).2.1 : Int)]) ∧
      IsRd w' p s (getS s k n).2.2 ∧ Below B w w' ∧ Chg (fun b => b = p) w w' :=
  (get_calls p s k n w h hs hk).mono fun e w' ⟨he, h1, h2⟩ => ⟨he, h1, h2.below hB (fun b hb e => by omega), h2⟩
end Go.Proofs.Yteeegomdaebobaa

-- ---- Sra
/- The reader of states: one part back. Conditions: those that each theorem names. -/
namespace Go.Proofs.Yteeegomdaebobaa.St
set_option maxRecDepth 100000
set_option linter.unusedSimpArgs false
set_option linter.unusedVariables false
open Go.RowKit Mix _root_.Go.Proofs.Yteeegomdaebobaa.Own Bits Nl Sp
attribute [local go_sem] Own.max_int Own.min_int

section
variable {B : Nat} {w w' : World} {p : Nat} {cs : Array Value} {tv : Value} {T : List (Int × Int × Int)} {R : List (Value × List Nat)} {lv : Value} {ns : List Nat} {vv : Value} {vs : List Nat}
/-- A block of another type turns. -/
theorem Co.chgO (h : Co B w p cs tv T R lv ns vv vs) {q : Nat} {ds : Array Value} {t : TypeId} (hq : Blk w q ds t) (h1 : t ≠ 79) (h2 : (105 : TypeId) ≠ t) (h3 : (3 : TypeId) ≠ t) (h4 : (56 : TypeId) ≠ t) (hc : Chg (fun k => k = q) w w') : Co B w' p cs tv T R lv ns vv vs :=
  ⟨hc.keep h.blk (fun e => hq.ne h.blk h1 e.symm), h.tab.chg hc (fun g hg e => h.tab.ne hq h2 (by rw [hg, e])), h.of.chg hc (fun i v xs hi g hg e => (h.of.own i v xs hi).ne hq h3 (by rw [hg, e])), h.vals.chg hc (fun g hg e => h.vals.ne hq h4 (by rw [hg, e])), h.len, h.pB, h.tB, h.vB, Nat.le_trans h.sz hc.size⟩
end

/-- A reader at block q: its coder, what was sealed (so many bits are left), the rests (so far). -/
structure RdS (B : Nat) (w : World) (q p be br : Nat) (tv : Value) (l : List Int) (m : Nat) (R : List (Value × List Nat)) (a b : ByteArray) (st k pos : Nat) : Prop where
  self : Blk w q #[.pointer (some ⟨p, 0, none⟩), .pointer (some ⟨be, 0, none⟩), .pointer (some ⟨br, 0, none⟩)] 94
  co : Co B w p (coC tv R st (.slice none 0 0) (.slice none 0 0)) tv (table l m) R (.slice none 0 0) [] (.slice none 0 0) []
  sl : IsE w be a k
  rs : IsRd w br b pos
  eB : B ≤ be
  rB : B ≤ br
section
variable {B : Nat} {w w' : World} {q p be br : Nat} {tv : Value} {l : List Int} {m : Nat} {R : List (Value × List Nat)} {a b : ByteArray} {st k pos : Nat}
theorem RdS.later (h : RdS B w q p be br tv l m R a b st k pos) (hb : Below w.heap.size w w') : RdS B w' q p be br tv l m R a b st k pos :=
  ⟨(hb.block q h.self.lt).trans h.self, h.co.later hb, IsE.later h.sl hb, IsRd.later h.rs hb, h.eB, h.rB⟩
theorem RdS.gotE {k' : Nat} (h : RdS B w q p be br tv l m R a b st k pos) (hc : Chg (fun k => k = be) w w') (hs : IsE w' be a k') : RdS B w' q p be br tv l m R a b st k' pos :=
  ⟨hc.keep h.self (fun e => Blk.ne h.self h.sl (by decide) e), h.co.chgO h.sl (by decide) (by decide) (by decide) (by decide) hc, hs, hc.keep h.rs (fun e => Blk.ne h.rs h.sl (by decide) e), h.eB, h.rB⟩
theorem RdS.gotR {pos' : Nat} (h : RdS B w q p be br tv l m R a b st k pos) (hc : Chg (fun k => k = br) w w') (hs : IsRd w' br b pos') : RdS B w' q p be br tv l m R a b st k pos' :=
  ⟨hc.keep h.self (fun e => Blk.ne h.self h.rs (by decide) e), h.co.chgO h.rs (by decide) (by decide) (by decide) (by decide) hc, hc.keep h.sl (fun e => Blk.ne h.sl h.rs (by decide) e), hs, h.eB, h.rB⟩
theorem RdS.chgP (h : RdS B w q p be br tv l m R a b st k pos) {g : Nat} {ds : Array Value} (hg : Blk w g ds 58) (hc : Chg (fun x => x = g) w w') : RdS B w' q p be br tv l m R a b st k pos :=
  ⟨hc.keep h.self (fun e => h.self.ne hg (by decide) e), h.co.chgO hg (by decide) (by decide) (by decide) (by decide) hc, hc.keep h.sl (fun e => Blk.ne h.sl hg (by decide) e), hc.keep h.rs (fun e => Blk.ne h.rs hg (by decide) e), h.eB, h.rB⟩
theorem RdS.setS (h : RdS B w q p be br tv l m R a b st k pos) (s : Nat) : RdS B (w.setCell ⟨p, 66, none⟩ (.int .i64 (s : Int))) q p be br tv l m R a b s k pos := by
  have hs := h.co.store 66 (.int .i64 (s : Int))
  rw [coC_setS h.co.len] at hs
  exact ⟨h.self.setOther (a := ⟨p, 66, none⟩) (fun e => h.self.ne h.co.blk (by decide) e) _, hs, Blk.setOther h.sl (a := ⟨p, 66, none⟩) (fun e => Blk.ne h.sl h.co.blk (by decide) e) _, Blk.setOther h.rs (a := ⟨p, 66, none⟩) (fun e => Blk.ne h.rs h.co.blk (by decide) e) _, h.eB, h.rB⟩
end

set_option maxHeartbeats 2000000 in
theorem take_calls {B : Nat} {w : World} {q p be br : Nat} {tv : Value} {l : List Int} {m : Nat} {R : List (Value × List Nat)} {a b : ByteArray} {st k pos : Nat} (h : RdS B w q p be br tv l m R a b st k pos) (n : Nat) (hn : n ≤ 12) (ha : a.size ≤ 1000000000000) (hk : k ≤ 8 * a.size) (v er k' : Nat) (hg : getE a k (n : Int) = (v, er, k')) :
    Calls Try.prog 66 #[.pointer (some ⟨q, 0, none⟩), .int .i64 (n : Int)] w fun e w' => e = .returned (.tuple #[.int .i64 (v : Int), .bool (decide (er = 0))]) ∧ RdS B w' q p be br tv l m R a b st k' pos ∧ Chg (fun k => k = be) w w' := by
  have hv := getE_lt a k n
  have hp : 2 ^ n ≤ 4096 := pow12 n hn
  have HG := kept (bget_calls be a k (n : Int) w h.sl ha hk)
  rw [hg] at hv HG
  simp only at hv HG
  have c1 := h.self.cell (i := 1) rfl
  have ewr : wrap64 (v : Int) = (v : Int) := by unfold wrap64; omega
  have eer : ((er : Int) == 0) = decide (er = 0) := by
    by_cases e : er = 0
    · subst e; rfl
    · rw [decide_eq_false e, beq_eq_false_iff_ne]; omega
  have H := kept h
  have HE := kept eer
  obtain ⟨db, hdb⟩ : ∃ db, db = decide (er = 0) := ⟨_, rfl⟩
  rw [← hdb] at eer ⊢
  clear h hg hp hv hdb
  go_enter Try.func66, Try.ntmps66
  go_wp2_with fail
  refine HG.out.mono ?_
  rintro e w2 ⟨rfl, hs2, hc2⟩
  have HR2 := kept (H.out.gotE hc2 hs2)
  have HB2 := kept hc2
  clear hs2 hc2 c1
  go_wp2_with fail
  rw [ewr]
  go_ret2
  exact ⟨rfl, HR2.out, HB2.out⟩

/-- What a part's cell tells. -/
theorem cell_at {B : Nat} {w : World} {p : Nat} {cs : Array Value} {tv : Value} {l : List Int} {m : Nat} {R : List (Value × List Nat)} {lv : Value} {ns : List Nat} {vv : Value} {vs : List Nat} (h : Co B w p cs tv (table l m) R lv ns vv vs) (hM : MayS l m) {gt n ct : Nat} (ht : tv = .slice (some ⟨gt, 0, none⟩) n ct) {j : Nat} (hj : j < 2 ^ m) :
    w.cell? ⟨gt, j * 3, none⟩ = some (.int .i64 (tC l m j : Int)) ∧ w.cell? ⟨gt, j * 3 + 1, none⟩ = some (.int .i64 (tB l m j : Int)) ∧ w.cell? ⟨gt, j * 3 + 2, none⟩ = some (.int .i64 (tS l m j : Int)) := by
  subst ht
  obtain ⟨a1, a2, a3⟩ := cV_at (table l m) j (by rw [length_table]; exact hj)
  rw [(t_bounds hM hj).2.2.2.2] at a1 a2 a3
  have ht := h.tab
  have hn : n = (table l m).length := by
    rcases ht.2 with ⟨hv, _⟩ | ⟨g, cap, cur, hv, _⟩
    · simp at hv
    · simp at hv; exact hv.2.1
  rw [hn] at ht
  exact ⟨ht.cell a1, ht.cell a2, ht.cell a3⟩
theorem table_slice {B : Nat} {w : World} {p : Nat} {cs : Array Value} {tv : Value} {l : List Int} {m : Nat} {R : List (Value × List Nat)} {lv : Value} {ns : List Nat} {vv : Value} {vs : List Nat} (h : Co B w p cs tv (table l m) R lv ns vv vs) : ∃ gt ct, tv = .slice (some ⟨gt, 0, none⟩) (2 ^ m) ct := by
  have ht := h.tab
  rw [length_table] at ht
  obtain ⟨a, ct, e, _, _, hg⟩ := ht.slice
  obtain ⟨gt, rfl⟩ := hg (Nat.pow_pos (by decide))
  exact ⟨gt, ct, e⟩

/-- What going back by one part answers. -/
def BackPost (B : Nat) (w : World) (q p be br : Nat) (tv : Value) (l : List Int) (m : Nat) (R : List (Value × List Nat)) (a b : ByteArray) (st k pos : Nat) (e : Ending) (w' : World) : Prop :=
  Below B w w' ∧ Chg (fun k => k = be ∨ k = br ∨ k = p) w w' ∧ ((getE a k (tB l m st : Int)).2.1 ≠ 0 → e = .returned (.tuple #[.agg #[.int .i64 0, .int .u64 0], .bool false])) ∧
  ((getE a k (tB l m st : Int)).2.1 = 0 → e = .returned (.tuple #[.agg #[.int .i64 (tC l m st : Int), .int .u64 ((getS b pos ((tC l m st - 1 : Nat) : Int)).1 : Int)], .bool (decide ((getS b pos ((tC l m st - 1 : Nat) : Int)).2.1 = 0))]) ∧
    RdS B w' q p be br tv l m R a b (tS l m st + (getE a k (tB l m st : Int)).1) (getE a k (tB l m st : Int)).2.2 (getS b pos ((tC l m st - 1 : Nat) : Int)).2.2)

set_option hygiene false in
/-- One step of a tree of orders: what lies behind is hidden meanwhile. -/
local macro "ord_step" : tactic => `(tactic| (
  generalize hT : wpOrd _ _ _ _ _ = T
  have HT := kept hT
  clear hT
  go_wp2_with fail
  show T _ _
  rw [← HT.out]
  clear HT T
  unfold wpOrd
  simp only [pick, List.filterMap_cons, List.filterMap_nil, List.getElem?_cons_zero, List.getElem?_cons_succ]))

set_option maxHeartbeats 8000000 in
theorem back_calls2 {B : Nat} {w : World} {q p be br : Nat} {tv : Value} {l : List Int} {m : Nat} {R : List (Value × List Nat)} {a b : ByteArray} {st k pos : Nat} (h : RdS B w q p be br tv l m R a b st k pos) (hM : MayS l m) (hst : st < 2 ^ m) (ha : a.size ≤ 1000000000000) (hb : b.size ≤ 1000000000000) (hk : k ≤ 8 * a.size) (hp : pos ≤ 8 * b.size) :
    Calls Try.prog 37 #[.pointer (some ⟨q, 0, none⟩)] w (BackPost B w q p be br tv l m R a b st k pos) := by
  obtain ⟨gt, ct, htv⟩ := table_slice h.co
  have h12 := pow12 m hM.hi
  have HM := kept hM
  obtain ⟨b1, b2, b3, _, _⟩ := t_bounds hM hst
  obtain ⟨v, er, k', hg⟩ : ∃ v er k', getE a k (tB l m st : Int) = (v, er, k') := ⟨_, _, _, rfl⟩
  obtain ⟨r, er2, pos', hg2⟩ : ∃ r er2 pos', getS b pos ((tC l m st - 1 : Nat) : Int) = (r, er2, pos') := ⟨_, _, _, rfl⟩
  have hv := getE_lt a k (tB l m st)
  rw [hg] at hv
  simp only at hv
  unfold BackPost
  rw [hg, hg2]
  simp only
  have htk := fun (w1 : World) (h1 : RdS B w1 q p be br tv l m R a b st k pos) => take_calls h1 (tB l m st) (by have := hM.hi; omega) ha hk v er k' hg
  have hgr := fun (w1 : World) (h1 : IsRd w1 br b pos) => get_new B br b pos ((tC l m st - 1 : Nat) : Int) w1
  have HTk := kept htk
  have HGr := kept (show ∀ (w1 : World), B ≤ w1.heap.size → B ≤ br → IsRd w1 br b pos → Calls Try.prog 67 #[.pointer (some ⟨br, 0, none⟩), .int .i64 ((tC l m st - 1 : Nat) : Int)] w1 fun e w' => e = .returned (.tuple #[.int .u64 (r : Int), .int .i64 (er2 : Int)]) ∧ IsRd w' br b pos' ∧ Below B w1 w' ∧ Chg (fun x => x = br) w1 w' from fun w1 hB hbr h1 => by
    have := get_new B br b pos ((tC l m st - 1 : Nat) : Int) w1 hB hbr h1 hb hp
    rw [hg2] at this
    exact this)
  have hcells := fun (w1 : World) (h1 : RdS B w1 q p be br tv l m R a b st k pos) => cell_at h1.co hM htv hst
  have HCe := kept hcells
  have eer2 : ((er2 : Int) == 0) = decide (er2 = 0) := by
    by_cases e : er2 = 0
    · subst e; rfl
    · rw [decide_eq_false e, beq_eq_false_iff_ne]; omega
  obtain ⟨db2, hdb2⟩ : ∃ db, db = decide (er2 = 0) := ⟨_, rfl⟩
  rw [← hdb2] at eer2 ⊢
  clear hdb2
  obtain ⟨c, hc⟩ : ∃ c, c = tC l m st := ⟨_, rfl⟩
  obtain ⟨n, hn⟩ : ∃ n, n = tB l m st := ⟨_, rfl⟩
  obtain ⟨s, hs⟩ : ∃ s, s = tS l m st := ⟨_, rfl⟩
  rw [← hc, ← hn, ← hs] at HCe
  rw [← hc] at b1 HGr ⊢
  rw [← hn] at b2 b3 hv HTk
  rw [← hs] at b3 ⊢
  have HH := kept h
  have HV := kept (show s + v < 2 ^ m from by omega)
  clear hM hg hg2 htk hgr hcells hc hn hs h b2 b3 hv
  subst htv
  go_enter Try.func37, Try.ntmps37
  go_upto_region 1 with fail
  obtain ⟨w1, hw1⟩ : ∃ w_, w_ = World.alloc w (.cells #[.int .i64 0, .int .u64 0] 58) := ⟨_, rfl⟩
  obtain ⟨gr, hgr⟩ : ∃ b, b = w.heap.size := ⟨_, rfl⟩
  have hb1 : Below w.heap.size w w1 := by rw [hw1]; exact (Below.refl _ _).alloc (Nat.le_refl _) _
  have HP1 : Kept (Blk w1 gr #[.int .i64 0, .int .u64 0] 58) := kept (by rw [hw1, hgr]; exact Blk.fresh _ _ _)
  have HR1 := kept (HH.out.later hb1)
  have HB1 := kept (hb1.mono HH.out.co.sz)
  have HC1 : Kept (Chg (fun k => k = be ∨ k = br ∨ k = p) w w1) := kept (Chg.of_below hb1)
  have HGrB : Kept (B ≤ gr ∧ w.heap.size ≤ gr) := kept (by rw [hgr]; exact ⟨HH.out.co.sz, Nat.le_refl _⟩)
  rw [← hw1, ← hgr]
  clear hw1 hgr hb1
  obtain ⟨t0, t1, t2⟩ := HCe.out w1 HR1.out
  have q1 := lat_cell (HR1.out.self.cell (i := 0) rfl)
  have q2 := lat_cell (HR1.out.co.blk.cell (coC_table (.slice (some ⟨gt, 0, none⟩) (2 ^ m) ct) R st (.slice none 0 0) (.slice none 0 0)))
  have q3 := lat_cell (HR1.out.co.blk.cell (coC_tail (tv := .slice (some ⟨gt, 0, none⟩) (2 ^ m) ct) (st := st) (vv := .slice none 0 0) (lv := .slice none 0 0) HR1.out.co.len).1)
  have q4 := lat_cell t0
  have q5 := lat_cell t1
  have q6 := lat_cell t2
  refine wp_region_mixL [] [0,1,2,3,4,5,6,7,8,9,10,11,12,13,14,15] [16,17] (by kernel_rfl) (by kernel_rfl) ?_
  intro K1 hK1
  simp only [pick, List.filterMap_cons, List.filterMap_nil, List.getElem?_cons_zero, List.getElem?_cons_succ]
  refine wpQuiet_nil ?_
  iterate 16 (show wpQuiet _ _ _ _ (_ :: _) _; go_big_quiet_step (fail))
  refine wpQuiet_nil ?_
  show wpList _ _ _ [_, _] _ _
  clear q1 q2 q3 q4 q5 q6 t0 t1 t2
  have hd : Below w1.heap.size w1 w1.drew := (Below.refl _ _).drew
  have HR2 := kept (HR1.out.later hd)
  have HP2 : Kept (Blk w1.drew gr #[.int .i64 0, .int .u64 0] 58) := kept HP1.out
  have HB2 : Kept (Below B w w1.drew) := kept HB1.out.drew
  have HC2 := kept (HC1.out.trans (Chg.drew (fun k => k = be ∨ k = br ∨ k = p) w1) (fun _ _ h => h))
  clear hd HR1 HP1 HB1 HC1
  generalize w1.drew = w2 at HR2 HP2 HB2 HC2 ⊢
  go_wp2_with fail
  refine hK1 _ _ ?_
  clear hK1
  obtain ⟨w3, hw3⟩ : ∃ w_, w_ = World.alloc w2 (.cells #[.int .i64 (c : Int), .int .i64 (n : Int), .int .i64 (s : Int)] 105) := ⟨_, rfl⟩
  obtain ⟨gx, hgx⟩ : ∃ b, b = w2.heap.size := ⟨_, rfl⟩
  have hb3 : Below w2.heap.size w2 w3 := by rw [hw3]; exact (Below.refl _ _).alloc (Nat.le_refl _) _
  have HX3 : Kept (Blk w3 gx #[.int .i64 (c : Int), .int .i64 (n : Int), .int .i64 (s : Int)] 105) := kept (by rw [hw3, hgx]; exact Blk.fresh _ _ _)
  have HP3 : Kept (Blk w3 gr #[.int .i64 0, .int .u64 0] 58) := kept ((hb3.block gr HP2.out.lt).trans HP2.out)
  have HR3 := kept (HR2.out.later hb3)
  have HB3 := kept (HB2.out.trans (hb3.mono HR2.out.co.sz))
  have HC3 := kept (HC2.out.trans (Chg.of_below hb3) (fun _ _ h => h))
  rw [← hw3, ← hgx]
  clear hw3 hgx hb3 HP2 HR2 HB2 HC2
  go_upto_region 2 with fail
  have k1 := HX3.out.cell (i := 1) rfl
  have HT3 := kept (HTk.out w3 HR3.out)
  go_wp2_with fail
  refine HT3.out.mono ?_
  rintro e w4 ⟨rfl, hR4, hc4⟩
  have HR4 := kept hR4
  have HB4 := kept (HB3.out.trans (hc4.below HR3.out.co.sz (fun k hk e => by have := HR3.out.eB; omega)))
  have HC4 := kept (HC3.out.trans hc4 (fun _ _ h => .inl h))
  have HX4 : Kept (Blk w4 gx #[.int .i64 (c : Int), .int .i64 (n : Int), .int .i64 (s : Int)] 105) := kept (hc4.keep HX3.out (fun e => Blk.ne HX3.out HR3.out.sl (by decide) e))
  have HP4 : Kept (Blk w4 gr #[.int .i64 0, .int .u64 0] 58) := kept (hc4.keep HP3.out (fun e => Blk.ne HP3.out HR3.out.sl (by decide) e))
  clear hR4 hc4 k1 HT3 HR3 HB3 HX3 HP3 HC3
  by_cases her : er = 0
  · have edb : decide (er = 0) = true := decide_eq_true her
    rw [edb]
    have HEr := kept her
    clear her edb
    have hlt := HV.out
    have ew : wrap64 ((s : Int) + (v : Int)) = (s : Int) + (v : Int) := by unfold wrap64; omega
    have e1 := lat_cell (HR4.out.self.cell (i := 0) rfl)
    have e2 := lat_cell (HX4.out.cell (i := 2) rfl)
    clear hlt
    go_upto_region 5 with fail
    refine wp_region_mixL [] [0,1,2,3,4,5,6,7] [8,9,10] (by kernel_rfl) (by kernel_rfl) ?_
    intro K5 hK5
    simp only [pick, List.filterMap_cons, List.filterMap_nil, List.getElem?_cons_zero, List.getElem?_cons_succ]
    refine wpQuiet_nil ?_
    iterate 8 (show wpQuiet _ _ _ _ (_ :: _) _; go_big_quiet_step (fail))
    refine wpQuiet_nil ?_
    show wpList _ _ _ [_, _, _] _ _
    clear e1 e2
    have hd : Below w4.heap.size w4 w4.drew := (Below.refl _ _).drew
    have HR5 := kept (HR4.out.later hd)
    have HP5 : Kept (Blk w4.drew gr #[.int .i64 0, .int .u64 0] 58) := kept HP4.out
    have HX5 : Kept (Blk w4.drew gx #[.int .i64 (c : Int), .int .i64 (n : Int), .int .i64 (s : Int)] 105) := kept HX4.out
    have HB5 : Kept (Below B w w4.drew) := kept HB4.out.drew
    have HC5 := kept (HC4.out.trans (Chg.drew (fun k => k = be ∨ k = br ∨ k = p) w4) (fun _ _ h => h))
    clear hd HR4 HP4 HB4 HX4 HC4
    generalize w4.drew = w5 at HR5 HP5 HX5 HB5 HC5 ⊢
    have f66 := HR5.out.co.blk.free 66
    have d66 := HR5.out.co.blk.cell (coC_tail (tv := .slice (some ⟨gt, 0, none⟩) (2 ^ m) ct) (st := st) (vv := .slice none 0 0) (lv := .slice none 0 0) HR5.out.co.len).1
    go_wp2_with fail
    rw [ew]
    refine hK5 _ _ ?_
    clear hK5 f66 d66 ew
    have HR6 := kept (HR5.out.setS (s + v))
    rw [show ((s + v : Nat) : Int) = (s : Int) + (v : Int) from Int.natCast_add s v] at HR6
    have hpB := HR5.out.co.pB
    have HP6 : Kept (Blk (w5.setCell ⟨p, 66, none⟩ (.int .i64 ((s : Int) + (v : Int)))) gr #[.int .i64 0, .int .u64 0] 58) := kept (HP5.out.setOther (a := ⟨p, 66, none⟩) (fun e => HP5.out.ne HR5.out.co.blk (by decide) e) _)
    have HX6 : Kept (Blk (w5.setCell ⟨p, 66, none⟩ (.int .i64 ((s : Int) + (v : Int)))) gx #[.int .i64 (c : Int), .int .i64 (n : Int), .int .i64 (s : Int)] 105) := kept (HX5.out.setOther (a := ⟨p, 66, none⟩) (fun e => HX5.out.ne HR5.out.co.blk (by decide) e) _)
    have HB6 : Kept (Below B w (w5.setCell ⟨p, 66, none⟩ (.int .i64 ((s : Int) + (v : Int))))) := kept (HB5.out.trans ((Chg.setCell w5 ⟨p, 66, none⟩ _).below HR5.out.co.sz (fun k hk e => by have := hpB; simp only at e; omega)))
    have HC6 := kept (HC5.out.trans (Chg.setCell w5 ⟨p, 66, none⟩ (.int .i64 ((s : Int) + (v : Int)))) (fun x _ h => .inr (.inr h)))
    clear hpB HR5 HP5 HX5 HB5 HC5
    generalize World.setCell w5 _ _ = w6 at HR6 HP6 HX6 HB6 HC6 ⊢
    go_upto_region 6 with fail
    have e0 := lat_cell (HR6.out.self.cell (i := 2) rfl)
    have e1 := lat_cell (HX6.out.cell (i := 0) rfl)
    have emx : mx 0 ((c : Int) - 1) = ((c - 1 : Nat) : Int) := by rw [mx_eq]; omega
    refine wp_region_ordL [0,1,2,4] [3,5,6,7] (.pre [8,9] (.fork 10 (.fork 11 (.chain [12,13]) 12 (.chain [11,13])) 11 (.chain [10,12,13]))) (by kernel_rfl) (by kernel_rfl) ?_
    intro K6 hK6
    simp only [pick, List.filterMap_cons, List.filterMap_nil, List.getElem?_cons_zero, List.getElem?_cons_succ]
    iterate 8 (show wpQuiet _ _ _ _ (_ :: _) _; go_big_quiet_step (fail))
    refine wpQuiet_nil ?_
    clear e0 e1 emx
    have hd : Below w6.heap.size w6 w6.drew := (Below.refl _ _).drew
    have HR7 := kept (HR6.out.later hd)
    have HP7 : Kept (Blk w6.drew gr #[.int .i64 0, .int .u64 0] 58) := kept HP6.out
    have HX7 : Kept (Blk w6.drew gx #[.int .i64 (c : Int), .int .i64 (n : Int), .int .i64 (s : Int)] 105) := kept HX6.out
    have HB7 : Kept (Below B w w6.drew) := kept HB6.out.drew
    have HC7 := kept (HC6.out.trans (Chg.drew (fun k => k = be ∨ k = br ∨ k = p) w6) (fun _ _ h => h))
    clear hd HR6 HP6 HB6 HX6 HC6
    generalize w6.drew = w7 at HR7 HP7 HX7 HB7 HC7 ⊢
    unfold wpOrd
    simp only [pick, List.filterMap_cons, List.filterMap_nil, List.getElem?_cons_zero, List.getElem?_cons_succ]
    generalize hT : wpOrd _ _ _ K6 (Ord.fork _ _ _ _) = T
    have HT := kept hT
    clear hT
    show wpList _ _ _ [_, _] _ _
    have HG7 := kept (HGr.out w7 HR7.out.co.sz HR7.out.rB HR7.out.rs)
    go_wp2_with fail
    refine HG7.out.mono ?_
    rintro e w8 ⟨rfl, hR8, hb8, hc8⟩
    have HR8 := kept (HR7.out.gotR hc8 hR8)
    have HP8 : Kept (Blk w8 gr #[.int .i64 0, .int .u64 0] 58) := kept (hc8.keep HP7.out (fun e => Blk.ne HP7.out HR7.out.rs (by decide) e))
    have HX8 : Kept (Blk w8 gx #[.int .i64 (c : Int), .int .i64 (n : Int), .int .i64 (s : Int)] 105) := kept (hc8.keep HX7.out (fun e => Blk.ne HX7.out HR7.out.rs (by decide) e))
    have HB8 := kept (HB7.out.trans hb8)
    have HC8 := kept (HC7.out.trans hc8 (fun x _ h => .inr (.inl h)))
    clear HC7 hR8 hb8 hc8 HG7 HR7 HP7 HX7 HB7
    have f0 := HP8.out.free 0
    have f1 := HP8.out.free 1
    have d0 := HP8.out.cell (i := 0) rfl
    have d1 := HP8.out.cell (i := 1) rfl
    have x0 := HX8.out.cell (i := 0) rfl
    go_wp2_with fail
    show T _ _
    rw [← HT.out]
    clear HT T
    unfold wpOrd
    simp only [pick, List.filterMap_cons, List.filterMap_nil, List.getElem?_cons_zero, List.getElem?_cons_succ]
    refine ⟨?_, ?_⟩
    · ord_step
      refine ⟨?_, ?_⟩
      · ord_step
        show wpList _ _ _ [_, _] _ _
        go_wp2_with fail
        refine hK6 _ _ ?_
        go_wp2_with fail
        generalize hwz : World.setCell _ _ _ = wz
        have hBz : Blk wz gr #[.int .i64 (c : Int), .int .u64 (r : Int)] 58 := by rw [← hwz]; have h := ((HP8.out.set 0 (.int .i64 (c : Int))).set 1 (.int .u64 (r : Int))); simpa using h
        have hCz : Chg (fun x => x = gr) w8 wz := by rw [← hwz]; exact (Chg.setCell w8 ⟨gr, 0, none⟩ _).trans (Chg.setCell _ ⟨gr, 1, none⟩ _) (fun _ _ h => h)
        have z0 : wz.cell? ⟨gr, 0, none⟩ = some (.int .i64 (c : Int)) := Blk.cell hBz rfl
        have z1 : wz.cell? ⟨gr, 1, none⟩ = some (.int .u64 (r : Int)) := Blk.cell hBz rfl
        refine bodyPost_ret (v := .tuple #[.agg #[.int .i64 (c : Int), .int .u64 (r : Int)], .bool db2]) (by simp [results, Try.results37, go_sem, z0, z1]) rfl ?_
        exact ⟨HB8.out.trans (hCz.below HR8.out.co.sz (fun k hk e => by have := HGrB.out.1; omega)), HC8.out.trans hCz (fun x hx h => by have := HGrB.out.2; omega), fun h => absurd HEr.out h, fun _ => ⟨rfl, HR8.out.chgP HP8.out hCz⟩⟩
      · ord_step
        show wpList _ _ _ [_, _] _ _
        go_wp2_with fail
        refine hK6 _ _ ?_
        go_wp2_with fail
        generalize hwz : World.setCell _ _ _ = wz
        have hBz : Blk wz gr #[.int .i64 (c : Int), .int .u64 (r : Int)] 58 := by rw [← hwz]; have h := ((HP8.out.set 0 (.int .i64 (c : Int))).set 1 (.int .u64 (r : Int))); simpa using h
        have hCz : Chg (fun x => x = gr) w8 wz := by rw [← hwz]; exact (Chg.setCell w8 ⟨gr, 0, none⟩ _).trans (Chg.setCell _ ⟨gr, 1, none⟩ _) (fun _ _ h => h)
        have z0 : wz.cell? ⟨gr, 0, none⟩ = some (.int .i64 (c : Int)) := Blk.cell hBz rfl
        have z1 : wz.cell? ⟨gr, 1, none⟩ = some (.int .u64 (r : Int)) := Blk.cell hBz rfl
        refine bodyPost_ret (v := .tuple #[.agg #[.int .i64 (c : Int), .int .u64 (r : Int)], .bool db2]) (by simp [results, Try.results37, go_sem, z0, z1]) rfl ?_
        exact ⟨HB8.out.trans (hCz.below HR8.out.co.sz (fun k hk e => by have := HGrB.out.1; omega)), HC8.out.trans hCz (fun x hx h => by have := HGrB.out.2; omega), fun h => absurd HEr.out h, fun _ => ⟨rfl, HR8.out.chgP HP8.out hCz⟩⟩
    · ord_step
      show wpList _ _ _ [_, _, _] _ _
      go_wp2_with fail
      refine hK6 _ _ ?_
      go_wp2_with fail
      generalize hwz : World.setCell _ _ _ = wz
      have hBz : Blk wz gr #[.int .i64 (c : Int), .int .u64 (r : Int)] 58 := by rw [← hwz]; have h := ((HP8.out.set 0 (.int .i64 (c : Int))).set 1 (.int .u64 (r : Int))); simpa using h
      have hCz : Chg (fun x => x = gr) w8 wz := by rw [← hwz]; exact (Chg.setCell w8 ⟨gr, 0, none⟩ _).trans (Chg.setCell _ ⟨gr, 1, none⟩ _) (fun _ _ h => h)
      have z0 : wz.cell? ⟨gr, 0, none⟩ = some (.int .i64 (c : Int)) := Blk.cell hBz rfl
      have z1 : wz.cell? ⟨gr, 1, none⟩ = some (.int .u64 (r : Int)) := Blk.cell hBz rfl
      refine bodyPost_ret (v := .tuple #[.agg #[.int .i64 (c : Int), .int .u64 (r : Int)], .bool db2]) (by simp [results, Try.results37, go_sem, z0, z1]) rfl ?_
      exact ⟨HB8.out.trans (hCz.below HR8.out.co.sz (fun k hk e => by have := HGrB.out.1; omega)), HC8.out.trans hCz (fun x hx h => by have := HGrB.out.2; omega), fun h => absurd HEr.out h, fun _ => ⟨rfl, HR8.out.chgP HP8.out hCz⟩⟩
  · have edb : decide (er = 0) = false := decide_eq_false her
    rw [edb]
    have HEr := kept her
    clear her edb
    have f0 := HP4.out.free 0
    have f1 := HP4.out.free 1
    have d0 := HP4.out.cell (i := 0) rfl
    have d1 := HP4.out.cell (i := 1) rfl
    go_wp2_with fail
    generalize hwz : World.setCell _ _ _ = wz
    have hBz : Blk wz gr #[.int .i64 0, .int .u64 0] 58 := by rw [← hwz]; have h := ((HP4.out.set 0 (.int .i64 0)).set 1 (.int .u64 0)); simpa using h
    have hCz : Chg (fun x => x = gr) w4 wz := by rw [← hwz]; exact (Chg.setCell w4 ⟨gr, 0, none⟩ _).trans (Chg.setCell _ ⟨gr, 1, none⟩ _) (fun _ _ h => h)
    have z0 : wz.cell? ⟨gr, 0, none⟩ = some (.int .i64 0) := Blk.cell hBz rfl
    have z1 : wz.cell? ⟨gr, 1, none⟩ = some (.int .u64 0) := Blk.cell hBz rfl
    refine bodyPost_ret (v := .tuple #[.agg #[.int .i64 0, .int .u64 0], .bool false]) (by simp [results, Try.results37, go_sem, z0, z1]) rfl ?_
    exact ⟨HB4.out.trans (hCz.below HR4.out.co.sz (fun k hk e => by have := HGrB.out.1; omega)), HC4.out.trans hCz (fun x hx h => by have := HGrB.out.2; omega), fun _ => rfl, fun h => absurd h HEr.out⟩
end Go.Proofs.Yteeegomdaebobaa.St

-- ---- Va
/- vint: a number out of bytes: what the calls answer. Conditions: the text is not longer than a million million bytes. -/
namespace Go.Proofs.Yteeegomdaebobaa.VintH
set_option maxRecDepth 100000
set_option linter.unusedSimpArgs false
set_option linter.unusedVariables false
open Go.RowKit Mix _root_.Go.Proofs.Yteeegomdaebobaa.Own Vt Np Bits
attribute [local go_sem] Own.max_int Own.min_int

theorem and127 (b : Nat) (h : b < 256) : bits .and .u8 (b : Int) 127 = ((b % 128 : Nat) : Int) := by
  have e := u8_and (b : Int) 127 (by omega) (by omega) (by decide) (by decide)
  rw [e, Int.toNat_natCast]
  have : (127 : Int).toNat = 2 ^ 7 - 1 := by decide
  rw [this, Nat.and_two_pow_sub_one_eq_mod]
/-- A group is laid above what there is. -/
theorem or_shl (acc b i : Nat) (hi : i ≤ 9) (hacc : acc < 128 ^ i) (hb : b < 128) (h9 : i = 9 → b ≤ 1) :
    bits .or .u64 (acc : Int) (IntKind.u64.wrap ((b : Int) * 2 ^ (7 * i))) = ((acc + 128 ^ i * b : Nat) : Int) := by
  have hp : (128 : Nat) ^ i = 2 ^ (7 * i) := by rw [Nat.pow_mul]
  have hle : b * 2 ^ (7 * i) < 18446744073709551616 := by
    rcases Nat.lt_or_ge i 9 with h | h
    · have h1 : 2 ^ (7 * i) ≤ 2 ^ 56 := Nat.pow_le_pow_right (by decide) (by omega)
      have h2 : b * 2 ^ (7 * i) ≤ 127 * 2 ^ 56 := Nat.mul_le_mul (by omega) h1
      omega
    · have : i = 9 := by omega
      subst this
      have := h9 rfl
      have h2 : b * 2 ^ (7 * 9) ≤ 1 * 2 ^ 63 := Nat.mul_le_mul (by omega) (Nat.le_refl _)
      omega
  have hac : acc < 18446744073709551616 := by
    have h1 : 2 ^ (7 * i) ≤ 2 ^ 63 := Nat.pow_le_pow_right (by decide) (by omega)
    rw [hp] at hacc; omega
  have e : IntKind.u64.wrap ((b : Int) * 2 ^ (7 * i)) = ((b * 2 ^ (7 * i) : Nat) : Int) := by
    have e0 : (b : Int) * 2 ^ (7 * i) = ((b * 2 ^ (7 * i) : Nat) : Int) := by simp
    rw [e0, IntKind.wrap_u64]; omega
  rw [e, u64_or_nat _ _ hac hle, hp, Nat.mul_comm (2 ^ (7 * i)) b]
  congr 1
  rw [Nat.mul_comm b, Nat.add_comm, Nat.or_comm]
  exact (Nat.two_pow_add_eq_or_of_lt (by rw [← hp]; exact hacc) b).symm
theorem bitLen_gt (b i : Nat) (hb : b < 128) (hi : i ≤ 9) : decide ((64 : Int) - 7 * (i : Int) < (Lib.bitLen b : Int)) = decide (i = 9 ∧ 1 < b) := by
  have key : ∀ x : Fin 128, (Lib.bitLen x.val ≤ 7) ∧ (1 < Lib.bitLen x.val ↔ 1 < x.val) := by decide
  have h := key ⟨b, hb⟩
  simp only at h
  rw [decide_eq_decide]
  omega
def comb (i acc : Nat) (r : Nat × Nat × Nat) : Nat × Nat × Nat := if r.2.2 = 0 then (acc + 128 ^ i * r.1, i + r.2.1, 0) else (0, 0, r.2.2)

theorem bsOf_at (s : ByteArray) (i : Nat) (h : i < s.size) : (bsOf s).drop i = byteS s i :: (bsOf s).drop (i + 1) := by
  have hl := length_bsOf s
  rw [List.drop_eq_getElem_cons (by omega)]
  congr 1
  unfold bsOf byteS
  rw [List.getElem_map, List.getD_eq_getElem?_getD, List.getElem?_eq_getElem (by simpa [bsOf] using hl ▸ h)]; rfl
theorem goV_cons (d : Nat) (f : Bool) (b : Nat) (t : List Nat) : goV (d + 1) f (b :: t) = if d = 0 ∧ 1 < b % 128 then (0, 0, 3) else if b < 128 then (if b = 0 ∧ f = false then (0, 0, 3) else (b, 1, 0))
    else if (goV d false t).2.2 = 0 then (b % 128 + 128 * (goV d false t).1, (goV d false t).2.1 + 1, 0) else (0, 0, (goV d false t).2.2) := rfl
/-- One group more. -/
theorem comb_more (bs : List Nat) (i acc b : Nat) (f : Bool) (t : List Nat) (hi : i ≤ 9) (h9 : ¬ (i = 9 ∧ 1 < b % 128)) (hb : 128 ≤ b) :
    comb i acc (goV (10 - i) f (b :: t)) = comb (i + 1) (acc + 128 ^ i * (b % 128)) (goV (10 - (i + 1)) false t) := by
  obtain ⟨d, hd⟩ : ∃ d, 10 - i = d + 1 := ⟨9 - i, by omega⟩
  have hd2 : 10 - (i + 1) = d := by omega
  rw [hd, hd2, goV_cons, if_neg (by omega), if_neg (by omega)]
  unfold comb
  by_cases h : (goV d false t).2.2 = 0
  · rw [if_pos h, if_pos rfl, if_pos h]
    have e : 128 ^ i * (b % 128 + 128 * (goV d false t).1) = 128 ^ i * (b % 128) + 128 ^ (i + 1) * (goV d false t).1 := by rw [Nat.mul_add, Nat.pow_succ, Nat.mul_assoc]
    simp only [e, Prod.mk.injEq]
    exact ⟨by omega, by omega, trivial⟩
  · rw [if_neg h, if_neg h, if_neg h]
theorem comb_bad (i acc b : Nat) (f : Bool) (t : List Nat) (hi : i ≤ 9) (h9 : i = 9 ∧ 1 < b % 128) : comb i acc (goV (10 - i) f (b :: t)) = (0, 0, 3) := by
  obtain ⟨d, hd⟩ : ∃ d, 10 - i = d + 1 := ⟨9 - i, by omega⟩
  rw [hd, goV_cons, if_pos (by omega)]; rfl
theorem comb_last (i acc b : Nat) (f : Bool) (t : List Nat) (hi : i ≤ 9) (h9 : ¬ (i = 9 ∧ 1 < b % 128)) (hb : b < 128) (h0 : ¬ (b = 0 ∧ f = false)) : comb i acc (goV (10 - i) f (b :: t)) = (acc + 128 ^ i * b, i + 1, 0) := by
  obtain ⟨d, hd⟩ : ∃ d, 10 - i = d + 1 := ⟨9 - i, by omega⟩
  rw [hd, goV_cons, if_neg (by omega), if_pos hb, if_neg h0]; rfl
theorem comb_zero (i acc b : Nat) (f : Bool) (t : List Nat) (hi : i ≤ 9) (h9 : ¬ (i = 9 ∧ 1 < b % 128)) (hb : b < 128) (h0 : b = 0 ∧ f = false) : comb i acc (goV (10 - i) f (b :: t)) = (0, 0, 3) := by
  obtain ⟨d, hd⟩ : ∃ d, 10 - i = d + 1 := ⟨9 - i, by omega⟩
  rw [hd, goV_cons, if_neg (by omega), if_pos hb, if_pos h0]; rfl
theorem comb_start (r : Nat × Nat × Nat) (h : r.2.2 = 0 ∨ r = (0, 0, 2) ∨ r = (0, 0, 3)) : comb 0 0 r = r := by
  unfold comb
  rcases h with h | rfl | rfl
  · obtain ⟨a, b, c⟩ := r
    simp only at h; subst h; simp
  · rfl
  · rfl

set_option maxRecDepth 20000 in
set_option maxHeartbeats 4000000 in
theorem vint_calls (s : ByteArray) (w : World) (hs : s.size ≤ 1000000000000) (r : Nat × Nat × Nat) (hr : r = goV 10 true (bsOf s)) :
    Calls Try.prog 78 #[.agg #[.string s]] w fun e w' => e = .returned (.tuple #[.int .u64 (r.1 : Int), .int .i64 (r.2.1 : Int), .int .i64 (r.2.2 : Int)]) ∧ Below w.heap.size w w' := by
  obtain ⟨N, hN⟩ : ∃ N : Nat, N = min s.size 10 := ⟨_, rfl⟩
  have hmin : Own.mn (s.size : Int) 10 = (N : Int) := by rw [hN, Own.mn_eq]; omega
  have hN10 : N ≤ 10 := by omega
  have hNs : N ≤ s.size := by omega
  have hNe : N = 10 ∨ N = s.size := by omega
  have HR := kept hr
  clear hr hN
  go_enter Try.func78, Try.ntmps78
  go_wp2_with fail
  generalize hwa : World.alloc w _ = wa
  have hG : Blk wa w.heap.size #[.string s] 159 := by rw [← hwa]; exact Blk.fresh _ _ _
  have hcell := hG.cell (i := 0) rfl
  have HB := kept (show Below w.heap.size w wa by rw [← hwa]; exact (Below.refl _ _).alloc (Nat.le_refl _) _)
  have HSt := kept (show comb 0 0 (goV (10 - 0) (decide (0 = 0)) ((bsOf s).drop 0)) = r by rw [List.drop_zero]; rw [HR.out]; exact comb_start _ (goV_err 10 true _))
  clear hwa
  go_loopw [2, 11] (fun s2 s11 wr => ∃ i acc : Nat, i ≤ N ∧ s2 = .int .u64 (acc : Int) ∧ s11 = .int .i64 (i : Int) ∧ wr = wa ∧ acc < 128 ^ i ∧ comb i acc (goV (10 - i) (decide (i = 0)) ((bsOf s).drop i)) = r) (fun _ s11 _ => N - (intOf s11).toNat)
  case atStart => exact ⟨0, 0, by omega, rfl, rfl, rfl, by decide, HSt.out⟩
  case round =>
    obtain ⟨i, acc, hiN, rfl, rfl, rfl, hacc, hst⟩ := hrel
    have HAcc := kept hacc
    have HSt2 := kept hst
    clear hacc hst
    by_cases hlt : i < N
    · have his : i < s.size := by omega
      have hat := bsOf_at s i his
      have hbe := byteS_eq s i his
      have hb := byteS_lt s i
      obtain ⟨b, hbb⟩ : ∃ b, b = byteS s i := ⟨_, rfl⟩
      rw [← hbb] at hat hbe hb
      have h3 := HSt2.out
      rw [hat] at h3
      have e127 := and127 b hb
      have hbl := bitLen_gt (b % 128) i (by omega) (by omega)
      have HL8 := kept (len8_calls (b % 128) wr (by omega))
      have HSt3 := kept h3
      clear hat hbb h3
      by_cases h9 : i = 9 ∧ 1 < b % 128
      · have t1 : decide ((64 : Int) - 7 * (i : Int) < (Lib.bitLen (b % 128) : Int)) = true := by rw [hbl]; exact decide_eq_true h9
        have hf := HSt3.out
        rw [comb_bad i acc b _ _ (by omega) h9] at hf
        have HF := kept hf.symm
        clear hf hbl h9
        go_wp2_with (first | (go_at_call 79; refine HL8.out.mono ?_; rintro e w1 ⟨rfl, rfl⟩))
        refine bodyPost_ret (results_tmp3 rfl _ _ _) rfl ⟨?_, HB.out⟩
        rw [HF.out]; rfl
      · have t1 : decide ((64 : Int) - 7 * (i : Int) < (Lib.bitLen (b % 128) : Int)) = false := by rw [hbl]; exact decide_eq_false h9
        have hos := or_shl acc (b % 128) i (by omega) HAcc.out (by omega) (by omega)
        have hbm : ((b : Int) % 128) = ((b % 128 : Nat) : Int) := by omega
        obtain ⟨acc2, hacc2⟩ : ∃ a, a = acc + 128 ^ i * (b % 128) := ⟨_, rfl⟩
        rw [← hacc2, ← hbm] at hos
        clear hbm
        have hA2 : acc2 < 128 ^ (i + 1) := by
          have h1 := HAcc.out
          have h2 := Nat.mul_le_mul_left (128 ^ i) (show b % 128 ≤ 127 by omega)
          rw [hacc2, Nat.pow_succ]; omega
        have HA2 := kept hA2
        clear hA2
        by_cases h128 : b < 128
        · have h3 := HSt3.out
          have e3 : acc + 128 ^ i * b = acc2 := by rw [hacc2, Nat.mod_eq_of_lt h128]
          by_cases h0 : b = 0 ∧ decide (i = 0) = false
          · rw [comb_zero i acc b _ _ (by omega) h9 h128 h0] at h3
            have hi0 : 0 < i := by have := of_decide_eq_false h0.2; omega
            obtain ⟨hb0, _⟩ := h0
            have HF := kept h3.symm
            subst hb0
            clear h3 hbl h9 hacc2 e3
            go_wp2_with (first | (go_at_call 79; refine HL8.out.mono ?_; rintro e w1 ⟨rfl, rfl⟩))
            refine bodyPost_ret (results_tmp3 rfl _ _ _) rfl ⟨?_, HB.out⟩
            rw [HF.out]; rfl
          · rw [comb_last i acc b _ _ (by omega) h9 h128 h0, e3] at h3
            have HF := kept h3.symm
            by_cases hb0 : b = 0
            · have hi0 : i = 0 := by
                apply Classical.byContradiction
                intro hne
                exact h0 ⟨hb0, decide_eq_false hne⟩
              have tb : ((b : Int) == 0) = true := by rw [beq_iff_eq]; omega
              have ti : decide (0 < i) = false := decide_eq_false (by omega)
              clear h3 hbl h9 hacc2 e3 h0 hi0 hb0
              go_wp2_with (first | (go_at_call 79; refine HL8.out.mono ?_; rintro e w1 ⟨rfl, rfl⟩))
              refine bodyPost_ret (results_tmp3 rfl _ _ _) rfl ⟨?_, HB.out⟩
              rw [HF.out]; rfl
            · clear h3 hbl h9 hacc2 e3 h0
              go_wp2_with (first | (go_at_call 79; refine HL8.out.mono ?_; rintro e w1 ⟨rfl, rfl⟩))
              refine bodyPost_ret (results_tmp3 rfl _ _ _) rfl ⟨?_, HB.out⟩
              rw [HF.out]; rfl
        · have h3 := HSt3.out
          rw [comb_more (bsOf s) i acc b _ _ (by omega) h9 (by omega), ← hacc2] at h3
          have HSt4 := kept h3
          clear h3 hbl h9 hacc2
          go_wp2_with (first | (go_at_call 79; refine HL8.out.mono ?_; rintro e w1 ⟨rfl, rfl⟩))
          go_roundw
          case rel => exact ⟨i + 1, acc2, by omega, rfl, by go_num, trivial, HA2.out, by simpa using HSt4.out⟩
          case measure => simp [intOf]; omega
    · have hie : i = N := by omega
      subst hie
      have h3 := HSt2.out
      by_cases h10 : i = 10
      · subst h10
        have HF : Kept (r = (0, 0, 3)) := kept (by rw [← h3]; rfl)
        clear h3 hNe hlt
        go_wp2_with fail
        refine bodyPost_ret (results_tmp3 rfl _ _ _) rfl ⟨?_, HB.out⟩
        rw [HF.out]; rfl
      · have his : i = s.size := by omega
        have hd : (bsOf s).drop i = [] := List.drop_eq_nil_of_le (by rw [length_bsOf]; omega)
        have HF : Kept (r = (0, 0, 2)) := kept (by
          rw [hd, show 10 - i = (9 - i) + 1 by omega] at h3
          rw [← h3]; rfl)
        have hlt10 : s.size < 10 := by omega
        clear h3 hNe hlt hd
        go_wp2_with fail
        refine bodyPost_ret (results_tmp3 rfl _ _ _) rfl ⟨?_, HB.out⟩
        rw [HF.out]; rfl

/-- A number at a place. -/
theorem read_calls (s : ByteArray) (a : Int) (w : World) (hs : s.size ≤ 1000000000000) (r1 r2 r3 : Int) (hr : vgetE s a = (r1, r2, r3)) :
    Calls Try.prog 77 #[.string s, .int .i64 a, .func (.func 78) #[] #[]] w fun e w' => e = .returned (.tuple #[.int .u64 r1, .int .i64 r2, .int .i64 r3]) ∧ Below w.heap.size w w' := by
  by_cases h0 : a < 0
  · have t1 : decide (a < 0) = true := decide_eq_true h0
    have e : vgetE s a = (0, 0, 1) := by unfold vgetE; rw [if_pos (.inl h0)]
    rw [e] at hr
    cases hr
    clear e
    go_enter Try.func77, Try.ntmps77
    go_wp2_with fail
    go_ret3
    exact ⟨rfl, Below.refl _ _⟩
  · have t1 : decide (a < 0) = false := decide_eq_false h0
    by_cases h1 : (s.size : Int) < a
    · have t2 : decide ((s.size : Int) < a) = true := decide_eq_true h1
      have e : vgetE s a = (0, 0, 1) := by unfold vgetE; rw [if_pos (.inr h1)]
      rw [e] at hr
      cases hr
      clear e
      go_enter Try.func77, Try.ntmps77
      go_wp2_with fail
      go_ret3
      exact ⟨rfl, Below.refl _ _⟩
    · have t2 : decide ((s.size : Int) < a) = false := decide_eq_false h1
      obtain ⟨m, rfl⟩ := Int.eq_ofNat_of_zero_le (show 0 ≤ a by omega)
      have hm : m ≤ s.size := by omega
      have hz : (s.extract m s.size).size ≤ 1000000000000 := by simp [ByteArray.size_extract]; omega
      obtain ⟨r, hrr⟩ : ∃ r, r = goV 10 true (bsOf (s.extract m s.size)) := ⟨_, rfl⟩
      have hc := vint_calls (s.extract m s.size) w hz r hrr
      have hbs : bsOf (s.extract m s.size) = (bsOf s).drop m := by
        rw [bsOf_extract, List.take_of_length_le (by rw [length_bsOf]; omega)]
      have he : vgetE s (m : Int) = if r.2.2 = 0 then ((r.1 : Int), (m : Int) + (r.2.1 : Int), 0) else (0, 0, (r.2.2 : Int)) := by
        unfold vgetE
        rw [if_neg (by omega), Int.toNat_natCast, ← hbs, ← hrr]
      rw [hr] at he
      have hsz := goV_size 10 true (bsOf (s.extract m s.size))
      rw [← hrr] at hsz
      obtain ⟨q1, q2, q3⟩ := r
      simp only at hc he hsz
      have HC := kept hc
      have HE := kept he
      clear hc he hrr hbs hz hr h0 h1
      by_cases h3 : q3 = 0
      · subst h3
        obtain ⟨_, _, hq⟩ := hsz rfl
        go_enter Try.func77, Try.ntmps77
        go_wp2_with (first | (go_at_call 78; refine HC.out.mono ?_; rintro e w1 ⟨rfl, hb⟩))
        go_ret3
        have h := HE.out
        rw [if_pos trivial] at h
        simp only [Prod.mk.injEq] at h
        obtain ⟨rfl, rfl, rfl⟩ := h
        exact ⟨by first | rfl | trace_state, hb⟩
      · have t3 : ((q3 : Int) != 0) = true := by rw [bne_iff_ne]; omega
        go_enter Try.func77, Try.ntmps77
        go_wp2_with (first | (go_at_call 78; refine HC.out.mono ?_; rintro e w1 ⟨rfl, hb⟩))
        go_ret3
        have h := HE.out
        rw [if_neg h3] at h
        simp only [Prod.mk.injEq] at h
        obtain ⟨rfl, rfl, rfl⟩ := h
        exact ⟨by first | rfl | trace_state, hb⟩
theorem get_calls (s : ByteArray) (a : Int) (w : World) (hs : s.size ≤ 1000000000000) (r1 r2 r3 : Int) (hr : vgetE s a = (r1, r2, r3)) :
    Calls Try.prog 63 #[.string s, .int .i64 a] w fun e w' => e = .returned (.tuple #[.int .u64 r1, .int .i64 r2, .int .i64 r3]) ∧ Below w.heap.size w w' := by
  have HC := kept (read_calls s a w hs r1 r2 r3 hr)
  clear hr
  go_enter Try.func63, Try.ntmps63
  go_wp2_with (first | (go_at_call 77; refine HC.out.mono ?_; rintro e w1 ⟨rfl, hb⟩))
  go_ret3
  exact ⟨rfl, hb⟩
end Go.Proofs.Yteeegomdaebobaa.VintH

-- ---- Srb
/- The reader of states: opened. Conditions: those that each theorem names. -/
namespace Go.Proofs.Yteeegomdaebobaa.St
set_option maxRecDepth 100000
set_option linter.unusedSimpArgs false
set_option linter.unusedVariables false
open Go.RowKit Mix _root_.Go.Proofs.Yteeegomdaebobaa.Own Bits Nl Sp Vt Np
attribute [local go_sem] Own.max_int Own.min_int

/-- What opening answers. -/
def OpenPost (B : Nat) (w : World) (p : Nat) (tv : Value) (l : List Int) (m : Nat) (R : List (Value × List Nat)) (s : ByteArray) (e : Ending) (w' : World) : Prop :=
  Below B w w' ∧ (((∃ v, e = .returned (.tuple #[.pointer v, .bool false])) ∧ ∀ n, fullG l m n (splitV s) = none) ∨
    ∃ q be br a b st k, e = .returned (.tuple #[.pointer (some ⟨q, 0, none⟩), .bool true]) ∧ RdS B w' q p be br tv l m R a b st k 0 ∧ st < 2 ^ m ∧ k ≤ 8 * a.size ∧ a.size ≤ 1000000000000 ∧ b.size ≤ 1000000000000 ∧
      ∀ n, fullG l m n (splitV s) = doneG b (gets l m a b n st k 0))

section
variable {B : Nat} {w : World} {p : Nat} {tv : Value} {l : List Int} {m : Nat} {R : List (Value × List Nat)} {s : ByteArray}
theorem open_bad (h : Co B w p (coC tv R 0 (.slice none 0 0) (.slice none 0 0)) tv (table l m) R (.slice none 0 0) [] (.slice none 0 0) []) (hs : s.size ≤ 1000000000000) (v u er : Nat) (hg : goV 10 true (bsOf s) = (v, u, er)) (he : er ≠ 0) :
    Calls Try.prog 36 #[.string s, .pointer (some ⟨p, 0, none⟩), .int .i64 (m : Int)] w (OpenPost B w p tv l m R s) := by
  have hv : vgetE s 0 = (0, 0, (er : Int)) := by
    unfold vgetE
    rw [if_neg (by omega)]
    simp only [Int.toNat_zero, List.drop_zero, hg]
    rw [if_neg he]
  have HC := kept (fun w1 => VintH.get_calls s 0 w1 hs 0 0 er hv)
  have hsp : splitV s = none := by unfold splitV; rw [hg]; simp [he]
  have HSp := kept hsp
  have HSz := kept h.sz
  have t1 : ((er : Int) != 0) = true := by rw [bne_iff_ne]; omega
  clear hg hv hsp h hs
  go_enter Try.func36, Try.ntmps36
  go_wp2_with (first | (go_at_call 63; refine (HC.out _).mono ?_; rintro e w1 ⟨rfl, hb⟩; have HB := kept hb; clear hb))
  go_ret2
  exact ⟨HB.out.mono HSz.out, .inl ⟨⟨_, rfl⟩, fun n => by rw [HSp.out]; rfl⟩⟩

theorem open_long (h : Co B w p (coC tv R 0 (.slice none 0 0) (.slice none 0 0)) tv (table l m) R (.slice none 0 0) [] (.slice none 0 0) []) (hs : s.size ≤ 1000000000000) (v u : Nat) (hg : goV 10 true (bsOf s) = (v, u, 0)) (he : ¬ v ≤ s.size - u) :
    Calls Try.prog 36 #[.string s, .pointer (some ⟨p, 0, none⟩), .int .i64 (m : Int)] w (OpenPost B w p tv l m R s) := by
  have hu := goV_size 10 true (bsOf s)
  rw [hg] at hu
  obtain ⟨_, hu2, hu3⟩ := hu rfl
  rw [length_bsOf] at hu2
  simp only at hu2 hu3
  have hv : vgetE s 0 = ((v : Int), (u : Int), 0) := by
    unfold vgetE
    rw [if_neg (by omega)]
    simp only [Int.toNat_zero, List.drop_zero, hg, Int.zero_add]
    simp
  have HC := kept (fun w1 => VintH.get_calls s 0 w1 hs v u 0 hv)
  have hsp : splitV s = none := by unfold splitV; rw [hg]; simp [he]
  have HSp := kept hsp
  have HSz := kept h.sz
  have t0 : wrap64 ((s.size : Int) - (u : Int)) = (s.size : Int) - (u : Int) := by unfold wrap64; omega
  have t1 : IntKind.u64.wrap ((s.size : Int) - (u : Int)) = (s.size : Int) - (u : Int) := by rw [IntKind.wrap_u64]; omega
  have t2 : decide ((s.size : Int) - (u : Int) < (v : Int)) = true := decide_eq_true (by omega)
  clear hg hv hsp h hs hu hu2 hu3 he
  go_enter Try.func36, Try.ntmps36
  go_wp2_with (first | (go_at_call 63; refine (HC.out _).mono ?_; rintro e w1 ⟨rfl, hb⟩; have HB := kept hb; clear hb))
  go_ret2
  exact ⟨HB.out.mono HSz.out, .inl ⟨⟨_, rfl⟩, fun n => by rw [HSp.out]; rfl⟩⟩

theorem open_none (h : Co B w p (coC tv R 0 (.slice none 0 0) (.slice none 0 0)) tv (table l m) R (.slice none 0 0) [] (.slice none 0 0) []) (hs : s.size ≤ 1000000000000) (v u : Nat) (hg : goV 10 true (bsOf s) = (v, u, 0)) (he : v ≤ s.size - u) (h0 : (s.extract u (u + v)).size = 0 ∨ lastB (s.extract u (u + v)) = 0) :
    Calls Try.prog 36 #[.string s, .pointer (some ⟨p, 0, none⟩), .int .i64 (m : Int)] w (OpenPost B w p tv l m R s) := by
  have hu := goV_size 10 true (bsOf s)
  rw [hg] at hu
  obtain ⟨_, hu2, hu3⟩ := hu rfl
  rw [length_bsOf] at hu2
  simp only at hu2 hu3
  have hv : vgetE s 0 = ((v : Int), (u : Int), 0) := by
    unfold vgetE
    rw [if_neg (by omega)]
    simp only [Int.toNat_zero, List.drop_zero, hg, Int.zero_add]
    simp
  have HC := kept (fun w1 => VintH.get_calls s 0 w1 hs v u 0 hv)
  have hsp : ∀ n, fullG l m n (splitV s) = none := fun n => by
    unfold splitV; rw [hg]; simp only
    rw [if_pos ⟨trivial, he⟩]
    show bodyG _ _ _ _ _ = none
    unfold bodyG
    rw [if_pos h0]
  have HSp := kept hsp
  have HF : Kept (∀ w1, Calls Try.prog 64 #[.string (s.extract u (u + v))] w1 fun e w' => e = .returned (.tuple #[.pointer none, .int .i64 3]) ∧ w1 = w') := kept (fun w1 => by
    by_cases hz : (s.extract u (u + v)).size = 0
    · exact bfrom_empty _ w1 hz
    · exact bfrom_zero _ w1 (by omega) (by rw [ByteArray.size_extract]; omega) (h0.resolve_left hz))
  have HSz := kept h.sz
  have t0 : wrap64 ((s.size : Int) - (u : Int)) = (s.size : Int) - (u : Int) := by unfold wrap64; omega
  have t1 : IntKind.u64.wrap ((s.size : Int) - (u : Int)) = (s.size : Int) - (u : Int) := by rw [IntKind.wrap_u64]; omega
  have t2 : decide ((s.size : Int) - (u : Int) < (v : Int)) = false := decide_eq_false (by omega)
  have t3 : wrap64 (v : Int) = (v : Int) := by unfold wrap64; omega
  have t4 : wrap64 ((u : Int) + (v : Int)) = ((u + v : Nat) : Int) := by unfold wrap64; omega
  have t5 : u ≤ u + v := by omega
  have t6 : u + v ≤ s.size := by omega
  obtain ⟨uv, huv⟩ : ∃ uv, uv = u + v := ⟨_, rfl⟩
  rw [← huv] at t4 t5 t6 HF
  clear hg hv hsp h hs hu hu2 hu3 he h0 huv
  go_enter Try.func36, Try.ntmps36
  go_wp2_with (first | (go_at_call 63; refine (HC.out _).mono ?_; rintro e w1 ⟨rfl, hb⟩; have HB := kept hb; clear hb) | (go_at_call 64; refine (HF.out _).mono ?_; rintro e w2 ⟨rfl, rfl⟩))
  go_ret2
  exact ⟨HB.out.mono HSz.out, .inl ⟨⟨_, rfl⟩, HSp.out⟩⟩

set_option maxHeartbeats 4000000 in
theorem open_take (h : Co B w p (coC tv R 0 (.slice none 0 0) (.slice none 0 0)) tv (table l m) R (.slice none 0 0) [] (.slice none 0 0) []) (hM : MayS l m) (hs : s.size ≤ 1000000000000) (v u : Nat) (hg : goV 10 true (bsOf s) = (v, u, 0)) (he : v ≤ s.size - u) (a b : ByteArray) (ha : a = s.extract u (u + v)) (hb : b = s.extract (u + v) s.size) (h1 : 0 < a.size) (h2 : lastB a ≠ 0) (st er2 k' : Nat) (hgE : Go.Proofs.Yteeegomdaebobaa.getE a (topS a) (m : Int) = (st, er2, k')) :
    Calls Try.prog 36 #[.string s, .pointer (some ⟨p, 0, none⟩), .int .i64 (m : Int)] w (OpenPost B w p tv l m R s) := by
  have hu := goV_size 10 true (bsOf s)
  rw [hg] at hu
  obtain ⟨_, hu2, hu3⟩ := hu rfl
  rw [length_bsOf] at hu2
  simp only at hu2 hu3
  have hv : vgetE s 0 = ((v : Int), (u : Int), 0) := by
    unfold vgetE
    rw [if_neg (by omega)]
    simp only [Int.toNat_zero, List.drop_zero, hg, Int.zero_add]
    simp
  have t0 : wrap64 ((s.size : Int) - (u : Int)) = (s.size : Int) - (u : Int) := by unfold wrap64; omega
  have t1 : IntKind.u64.wrap ((s.size : Int) - (u : Int)) = (s.size : Int) - (u : Int) := by rw [IntKind.wrap_u64]; omega
  have t2 : decide ((s.size : Int) - (u : Int) < (v : Int)) = false := decide_eq_false (by omega)
  have t3 : wrap64 (v : Int) = (v : Int) := by unfold wrap64; omega
  have t4 : wrap64 ((u : Int) + (v : Int)) = ((u + v : Nat) : Int) := by unfold wrap64; omega
  have t5 : u ≤ u + v := by omega
  have t6 : u + v ≤ s.size := by omega
  have HC := kept (fun w1 => VintH.get_calls s 0 w1 hs v u 0 hv)
  have haz : a.size ≤ 1000000000000 := by rw [ha, ByteArray.size_extract]; omega
  have hbz : b.size ≤ 1000000000000 := by rw [hb, ByteArray.size_extract]; omega
  have hsp : ∀ n, fullG l m n (splitV s) = bodyG l m a b n := fun n => by
    unfold splitV; rw [hg]; simp only
    rw [if_pos ⟨trivial, he⟩, ← ha, ← hb]
    rfl
  have hlt : st < 2 ^ m := by
    have := getE_lt a (topS a) m
    rw [hgE] at this; exact this
  have hk := getE_left a (topS a) (m : Int)
  rw [hgE] at hk
  have htop := topS_lt a h1 h2
  have hbody : ∀ n, bodyG l m a b n = if er2 ≠ 0 then none else doneG b (gets l m a b n st k' 0) := fun n => by
    unfold bodyG
    rw [if_neg (by rintro (hh | hh); · omega
                   exact h2 hh), hgE]
  have HSp := kept (fun n => (hsp n).trans (hbody n))
  have HF := kept (fun w1 => bfrom_calls a w1 h1 haz h2)
  have HG := kept (fun w1 => from_calls b w1)
  have h12 := hM.hi
  have HTk : Kept (∀ (w1 : World) (q be br : Nat), RdS B w1 q p be br tv l m R a b 0 (topS a) 0 → _) := kept (fun w1 q be br hh => take_calls hh m h12 haz (by omega) st er2 k' hgE)
  have HH := kept h
  have HBd : Kept (st < 2 ^ m ∧ k' ≤ 8 * a.size ∧ a.size ≤ 1000000000000 ∧ b.size ≤ 1000000000000) := kept ⟨hlt, by simp only at hk; omega, haz, hbz⟩
  obtain ⟨uv, huv⟩ : ∃ uv, uv = u + v := ⟨_, rfl⟩
  rw [← huv] at t4 t5 t6 ha hb
  clear hg hv hsp h hs hu hu2 hu3 he huv hbody htop hk hlt hgE h1 h2 haz hbz h12 hM
  subst ha
  subst hb
  go_enter Try.func36, Try.ntmps36
  go_wp2_with (first | (go_at_call 63; refine (HC.out _).mono ?_; rintro e w1 ⟨rfl, hb⟩; have HB := kept hb; clear hb))
  refine (HF.out _).mono ?_
  rintro e w2 ⟨be, rfl, hE2, hb2, hbe⟩
  have HE2 := kept hE2
  have HB2 := kept (HB.out.trans (hb2.mono HB.out.size))
  have HBe : Kept (B ≤ be) := kept (Nat.le_trans (Nat.le_trans HH.out.sz HB.out.size) hbe)
  clear hE2 hb2 hbe
  go_wp2_with fail
  refine (HG.out _).mono ?_
  rintro e w3 ⟨br, rfl, hR3, hb3, hbr⟩
  have HR3 := kept hR3
  have HE3 := kept (IsE.later HE2.out hb3)
  have HB3 := kept (HB2.out.trans (hb3.mono HB2.out.size))
  have HBr : Kept (B ≤ br) := kept (Nat.le_trans (Nat.le_trans HH.out.sz HB2.out.size) hbr)
  clear hR3 hb3 hbr
  go_upto_region 8 with fail
  obtain ⟨w4, hw4⟩ : ∃ w_, w_ = World.alloc w3 (.cells #[.pointer (some ⟨p, 0, none⟩), .pointer (some ⟨be, 0, none⟩), .pointer (some ⟨br, 0, none⟩)] 94) := ⟨_, rfl⟩
  obtain ⟨q, hq⟩ : ∃ q, q = w3.heap.size := ⟨_, rfl⟩
  have hb4 : Below w3.heap.size w3 w4 := by rw [hw4]; exact (Below.refl _ _).alloc (Nat.le_refl _) _
  have HR4 : Kept (RdS B w4 q p be br tv l m R (s.extract u uv) (s.extract uv s.size) 0 (topS (s.extract u uv)) 0) := kept ⟨by rw [hw4, hq]; exact Blk.fresh _ _ _, (HH.out.later HB3.out).later hb4, IsE.later HE3.out hb4, IsRd.later HR3.out hb4, HBe.out, HBr.out⟩
  have HB4 := kept ((HB3.out.mono HH.out.sz).trans (hb4.mono (Nat.le_trans HH.out.sz HB3.out.size)))
  rw [← hw4, ← hq]
  clear hw4 hq hb4 HR3 HE3 HB3
  have HT4 := kept (HTk.out w4 q be br HR4.out)
  go_wp2_with fail
  refine HT4.out.mono ?_
  rintro e w5 ⟨rfl, hR5, hc5⟩
  have HR5 := kept hR5
  have HB5 := kept (HB4.out.trans (hc5.below HR4.out.co.sz (fun k hk e => by have := HBe.out; omega)))
  clear hR5 hc5 HT4 HR4 HB4
  have c0 := HR5.out.self.cell (i := 0) rfl
  have f66 := HR5.out.co.blk.free 66
  have d66 := HR5.out.co.blk.cell (coC_tail (tv := tv) (st := 0) (vv := .slice none 0 0) (lv := .slice none 0 0) HR5.out.co.len).1
  obtain ⟨db, hdb⟩ : ∃ db, db = decide (er2 = 0) := ⟨_, rfl⟩
  have HDb := kept hdb
  rw [← hdb]
  clear hdb
  go_wp2_with fail
  go_ret2
  have hpB := HR5.out.co.pB
  refine ⟨HB5.out.trans ((Chg.setCell w5 ⟨p, 66, none⟩ _).below HR5.out.co.sz (fun k hk e => by simp only at e; omega)), ?_⟩
  by_cases her : er2 = 0
  · refine .inr ⟨q, be, br, s.extract u uv, s.extract uv s.size, st, k', ?_, HR5.out.setS st, HBd.out.1, HBd.out.2.1, HBd.out.2.2.1, HBd.out.2.2.2, fun n => ?_⟩
    · rw [HDb.out, decide_eq_true her]; rfl
    · rw [HSp.out n, if_neg (by omega)]
  · refine .inl ⟨⟨(some ⟨q, 0, none⟩), by rw [HDb.out, decide_eq_false her]; rfl⟩, fun n => ?_⟩
    rw [HSp.out n, if_pos her]
end

theorem opened_calls {B : Nat} {w : World} {p : Nat} {tv : Value} {l : List Int} {m : Nat} {R : List (Value × List Nat)} {s : ByteArray} (h : Co B w p (coC tv R 0 (.slice none 0 0) (.slice none 0 0)) tv (table l m) R (.slice none 0 0) [] (.slice none 0 0) []) (hM : MayS l m) (hs : s.size ≤ 1000000000000) :
    Calls Try.prog 36 #[.string s, .pointer (some ⟨p, 0, none⟩), .int .i64 (m : Int)] w (OpenPost B w p tv l m R s) := by
  obtain ⟨v, u, er, hg⟩ : ∃ v u er, goV 10 true (bsOf s) = (v, u, er) := ⟨_, _, _, rfl⟩
  by_cases he : er = 0
  · subst he
    by_cases hl : v ≤ s.size - u
    · by_cases h0 : (s.extract u (u + v)).size = 0 ∨ lastB (s.extract u (u + v)) = 0
      · exact open_none h hs v u hg hl h0
      · have h1 : ¬ (s.extract u (u + v)).size = 0 := fun x => h0 (.inl x)
        have h2 : ¬ lastB (s.extract u (u + v)) = 0 := fun x => h0 (.inr x)
        exact open_take h hM hs v u hg hl _ _ rfl rfl (by omega) h2 _ _ _ rfl
    · exact open_long h hs v u hg hl
  · exact open_bad h hs v u er hg he
end Go.Proofs.Yteeegomdaebobaa.St

-- ---- Se
/- A class' places, by their states from where on: which one is found. Plain facts; no program in sight. -/
namespace Go.Proofs.Yteeegomdaebobaa.St
set_option maxRecDepth 100000
set_option linter.unusedSimpArgs false
set_option linter.unusedVariables false
open Hp Ol Nl Sp

/-- A class' places, by their states. -/
structure RowS (l : List Int) (m c : Nat) (xs : List Nat) : Prop where
  mem : ∀ x, x ∈ xs ↔ x < 2 ^ m ∧ tC l m x = c
  up : xs.Pairwise fun x y => tS l m x < tS l m y
  len : xs.length ≤ 4096
theorem hit_self (l : List Int) (m j : Nat) : Hit l m (tC l m j) (tS l m j) j := ⟨rfl, Nat.le_refl _, by have := Nat.pow_pos (n := tB l m j) (show 0 < 2 by decide); omega⟩
theorem tS_lt {l : List Int} {m : Nat} (hM : MayS l m) {j : Nat} (hj : j < 2 ^ m) : tS l m j < 2 ^ m := by
  have := (t_bounds hM hj).2.2.1
  have := Nat.pow_pos (n := tB l m j) (show 0 < 2 by decide)
  omega
theorem tS_inj {l : List Int} {m : Nat} (hM : MayS l m) {i j : Nat} (hi : i < 2 ^ m) (hj : j < 2 ^ m) (hc : tC l m i = tC l m j) (hs : tS l m i = tS l m j) : i = j := by
  obtain ⟨b1, _, _, b4, _⟩ := t_bounds hM hj
  obtain ⟨_, _, h3⟩ := fnd_of hM b1 b4 (tS_lt hM hj)
  rw [h3 j hj (hit_self l m j)]
  exact h3 i hi (by have := hit_self l m i; rw [hc, hs] at this; exact this)
theorem row_find {l : List Int} {m : Nat} (hM : MayS l m) {c s : Nat} {xs : List Nat} (hR : RowS l m c xs) (hc : c < 65) (h0 : 0 < l.getD c 0) (hs : s < 2 ^ m) (i : Nat) (hi : i = xs.countP fun x => decide (tS l m x < s)) :
    (i < xs.length ∧ tS l m (xs.getD i 0) = s ∧ xs.getD i 0 = fnd l m c s) ∨ (¬ (i < xs.length ∧ tS l m (xs.getD i 0) = s) ∧ 0 < i ∧ i - 1 < xs.length ∧ xs.getD (i - 1) 0 = fnd l m c s) := by
  obtain ⟨f1, ⟨f2, f3, f4⟩, f5⟩ := fnd_of hM hc h0 hs
  obtain ⟨f, hf⟩ : ∃ f, f = fnd l m c s := ⟨_, rfl⟩
  rw [← hf] at f1 f2 f3 f4 f5 ⊢
  have hmem : f ∈ xs := (hR.mem f).2 ⟨f1, f2⟩
  obtain ⟨a, b, rfl⟩ := List.append_of_mem hmem
  obtain ⟨_, p2, p3⟩ := List.pairwise_append.1 hR.up
  have pa : ∀ x ∈ a, tS l m x < tS l m f := fun x hx => p3 x hx f (by simp)
  have pb : ∀ y ∈ b, s < tS l m y := fun y hy => by
    have h1 : tS l m f < tS l m y := (List.pairwise_cons.1 p2).1 y hy
    obtain ⟨y1, y2⟩ := (hR.mem y).1 (by simp [hy])
    rcases Nat.lt_or_ge s (tS l m y) with h | h
    · exact h
    · exfalso
      obtain ⟨_, _, g3⟩ := fnd_of hM hc h0 (tS_lt hM y1)
      have e1 := g3 y y1 (by have := hit_self l m y; rw [y2] at this; exact this)
      have e2 := g3 f f1 ⟨f2, Nat.le_of_lt h1, by omega⟩
      have : y = f := e1.trans e2.symm
      rw [this] at h1; omega
  have ca : a.countP (fun x => decide (tS l m x < s)) = a.length := List.countP_eq_length.2 fun x hx => by rw [decide_eq_true_eq]; have := pa x hx; omega
  have cb : b.countP (fun x => decide (tS l m x < s)) = 0 := List.countP_eq_zero.2 fun x hx => by rw [decide_eq_true_eq]; have := pb x hx; omega
  rw [List.countP_append, List.countP_cons, ca, cb] at hi
  have gf : (a ++ f :: b).getD a.length 0 = f := by simp [List.getD_eq_getElem?_getD]
  by_cases hlt : tS l m f < s
  · rw [if_pos (by simpa using hlt)] at hi
    refine .inr ⟨?_, by omega, by simp; omega, by rw [show i - 1 = a.length by omega]; exact gf⟩
    rintro ⟨g1, g2⟩
    have ei : i = a.length + 1 := by omega
    cases b with
    | nil => simp at g1; omega
    | cons y t =>
      have gy : (a ++ f :: y :: t).getD i 0 = y := by rw [ei]; simp [List.getD_eq_getElem?_getD, List.getElem?_append_right]
      rw [gy] at g2
      have := pb y (by simp)
      omega
  · rw [if_neg (by simpa using hlt)] at hi
    have ei : i = a.length := by omega
    exact .inl ⟨by simp; omega, by rw [ei, gf]; omega, by rw [ei]; exact gf⟩
end Go.Proofs.Yteeegomdaebobaa.St

-- ---- Shb
/- slices.BinarySearchFunc and its contract at this program: the shelf's own laying, in plain words (printed by a program of this session). -/
namespace Go.Proofs.Yteeegomdaebobaa.Sh
set_option maxRecDepth 100000
set_option linter.unusedVariables false
open Go.Shelf
def searchC_ren : Go.Shelf.Ren := ⟨fun | 14 => 59 | n => n, fun | 22 => 28 | 24 => 3 | 29 => 3 | 32 => 120 | 3 => 3 | 4 => 4 | 35 => 129 | 0 => 0 | n => n, fun | n => n⟩
theorem searchC : Go.Proofs.SlLaysG2.n14 Try.prog searchC_ren := {
  mixed := by kernel_rfl
  f14 := ⟨Try.f59.name, by decide, Try.func59.trans (congrArg some (by kernel_rfl))⟩
  t0 := Try.underlying0
  a0 := Try.isAgg0
  z0 := Try.sizeOf0
  v0 := Try.zeroValue0
  t3 := Try.underlying3
  a3 := Try.isAgg3
  z3 := Try.sizeOf3
  v3 := Try.zeroValue3
  t4 := Try.underlying4
  a4 := Try.isAgg4
  z4 := Try.sizeOf4
  v4 := Try.zeroValue4
  t22 := Try.underlying28
  a22 := Try.isAgg28
  z22 := Try.sizeOf28
  v22 := Try.zeroValue28
  a24 := Try.isAgg3
  z24 := Try.sizeOf3
  a29 := Try.isAgg3
  z29 := Try.sizeOf3
  t32 := Try.underlying120
  a32 := Try.isAgg120
  z32 := Try.sizeOf120
  v32 := Try.zeroValue120
  t35 := Try.underlying129
  a35 := Try.isAgg129
  z35 := Try.sizeOf129
  v35 := Try.zeroValue129 }
end Go.Proofs.Yteeegomdaebobaa.Sh

-- ---- Sf
/- A class' row that the library searches or sorts: how it lies, what stays. Conditions: those that each theorem names. -/
namespace Go.Proofs.Yteeegomdaebobaa.St
set_option maxRecDepth 100000
set_option linter.unusedSimpArgs false
set_option linter.unusedVariables false
open Go.RowKit Mix _root_.Go.Proofs.Yteeegomdaebobaa.Own Nl Sp Go.Sort

/-- Only the row's block turns. -/
theorem sortW_chg {α : Type} [Inhabited α] (enc : α → Value) (w : World) (blk off n : Nat) (d : Array α) (os : Array Obj) : Chg (fun k => k = blk) w (sortWorld enc w blk off n d os) := by
  refine ⟨rfl, rfl, rfl, ?_, fun k hk hn => ?_⟩
  · unfold sortWorld
    show w.heap.size ≤ (grow _ os).heap.size
    simp [grow, putRow, mapBlock, Go.Sort.ahead]
  · unfold sortWorld
    simp only [grow, putRow, mapBlock, Go.Sort.ahead]
    rw [Array.getElem?_append_left (by simpa using hk), Array.getElem?_modify, if_neg (fun e => hn e.symm)]
theorem sortW_same {α : Type} [Inhabited α] (enc : α → Value) (w w' : World) (blk off : Nat) (d : Array α) (hH : Holds enc w blk off d) (h : SW enc w blk off d w') : Below w.heap.size w w' := by
  obtain ⟨n, os, rfl⟩ := h
  have e : sortWorld enc w blk off n d os = grow (Go.Sort.ahead w n) os := by
    unfold sortWorld
    rw [putRow_ahead, putRow_self enc w blk off d hH]
  rw [e]
  refine ⟨rfl, rfl, rfl, by simp [grow, Go.Sort.ahead], fun k hk => ?_⟩
  simp only [grow, Go.Sort.ahead]
  rw [Array.getElem?_append_left hk]

/-- Places as the library sees them: below a bound. -/
def encF (K : Nat) (x : Fin (K + 1)) : Value := .int .i64 (x.val : Int)
def finR (K : Nat) (xs : List Nat) : Array (Fin (K + 1)) := (xs.map fun x => Fin.ofNat (K + 1) x).toArray
theorem size_finR (K : Nat) (xs : List Nat) : (finR K xs).size = xs.length := by simp [finR]
theorem finR_at (K : Nat) (xs : List Nat) (j : Nat) (hj : j < xs.length) (hx : ∀ x ∈ xs, x < K + 1) : ((finR K xs)[j]!).val = xs.getD j 0 := by
  rw [getElem!_pos _ j (by rw [size_finR]; exact hj)]
  have hm : xs[j] < K + 1 := hx _ (List.getElem_mem hj)
  simp [finR, Fin.ofNat, List.getD_eq_getElem?_getD, hj, Nat.mod_eq_of_lt hm]
theorem finR_holds {w : World} {g cap K : Nat} {xs : List Nat} (h : Owns w 3 (.slice (some ⟨g, 0, none⟩) xs.length cap) (nums .i64 xs)) (hx : ∀ x ∈ xs, x < K + 1) : Holds (encF K) w g 0 (finR K xs) := fun j hj => by
  rw [size_finR] at hj
  refine ⟨?_, h.free _⟩
  rw [Nat.zero_add, h.cell (nums_at .i64 xs j hj)]
  unfold encF
  rw [finR_at K xs j hj hx]
theorem one_encF (K : Nat) : OneCell (encF K) := fun x => rfl
end Go.Proofs.Yteeegomdaebobaa.St

-- ---- Sho
/- slices.SortFunc and its contract at this program: the shelf's own laying, in plain words (printed by a program of this session). -/
namespace Go.Proofs.Yteeegomdaebobaa.Sh
set_option maxRecDepth 100000
set_option linter.unusedVariables false
open Go.Shelf
def sortC_ren : Go.Shelf.Ren := ⟨fun | 6 => 55 | 15 => 76 | 14 => 75 | 28 => 92 | 29 => 93 | 20 => 84 | 21 => 85 | 22 => 86 | 23 => 87 | 24 => 88 | 25 => 89 | 26 => 90 | 27 => 91 | 46 => 95 | 47 => 96 | 48 => 97 | 49 => 98 | 50 => 99 | 57 => 100 | n => n, fun | 22 => 28 | 24 => 3 | 25 => 120 | 3 => 3 | 39 => 129 | 0 => 0 | 53 => 171 | 55 => 56 | 4 => 4 | 46 => 165 | 45 => 164 | 50 => 123 | 5 => 5 | 9 => 9 | 66 => 172 | 70 => 175 | 76 => 177 | 77 => 178 | n => n, fun | n => n⟩
theorem sortC : Go.Proofs.SlLaysF.n6 Try.prog sortC_ren := {
  mixed := by kernel_rfl
  f6 := ⟨Try.f55.name, by decide, Try.func55.trans (congrArg some (by kernel_rfl))⟩
  f14 := ⟨Try.f75.name, by decide, Try.func75.trans (congrArg some (by kernel_rfl))⟩
  f15 := Try.func76.trans (congrArg some (by kernel_rfl))
  f20 := ⟨Try.f84.name, by decide, Try.func84.trans (congrArg some (by kernel_rfl))⟩
  f21 := ⟨Try.f85.name, by decide, Try.func85.trans (congrArg some (by kernel_rfl))⟩
  f22 := ⟨Try.f86.name, by decide, Try.func86.trans (congrArg some (by kernel_rfl))⟩
  f23 := ⟨Try.f87.name, by decide, Try.func87.trans (congrArg some (by kernel_rfl))⟩
  f24 := ⟨Try.f88.name, by decide, Try.func88.trans (congrArg some (by kernel_rfl))⟩
  f25 := ⟨Try.f89.name, by decide, Try.func89.trans (congrArg some (by kernel_rfl))⟩
  f26 := ⟨Try.f90.name, by decide, Try.func90.trans (congrArg some (by kernel_rfl))⟩
  f27 := ⟨Try.f91.name, by decide, Try.func91.trans (congrArg some (by kernel_rfl))⟩
  f28 := Try.func92.trans (congrArg some (by kernel_rfl))
  f29 := Try.func93.trans (congrArg some (by kernel_rfl))
  f46 := ⟨Try.f95.name, by decide, Try.func95.trans (congrArg some (by kernel_rfl))⟩
  f47 := Try.func96.trans (congrArg some (by kernel_rfl))
  f48 := Try.func97.trans (congrArg some (by kernel_rfl))
  f49 := ⟨Try.f98.name, by decide, Try.func98.trans (congrArg some (by kernel_rfl))⟩
  f50 := ⟨Try.f99.name, by decide, Try.func99.trans (congrArg some (by kernel_rfl))⟩
  f57 := ⟨Try.f100.name, by decide, Try.func100.trans (congrArg some (by kernel_rfl))⟩
  t0 := Try.underlying0
  a0 := Try.isAgg0
  z0 := Try.sizeOf0
  v0 := Try.zeroValue0
  t3 := Try.underlying3
  a3 := Try.isAgg3
  z3 := Try.sizeOf3
  v3 := Try.zeroValue3
  t4 := Try.underlying4
  a4 := Try.isAgg4
  z4 := Try.sizeOf4
  v4 := Try.zeroValue4
  t5 := Try.underlying5
  a5 := Try.isAgg5
  z5 := Try.sizeOf5
  v5 := Try.zeroValue5
  t9 := Try.underlying9
  a9 := Try.isAgg9
  z9 := Try.sizeOf9
  v9 := Try.zeroValue9
  t22 := Try.underlying28
  a22 := Try.isAgg28
  z22 := Try.sizeOf28
  v22 := Try.zeroValue28
  a24 := Try.isAgg3
  z24 := Try.sizeOf3
  t25 := Try.underlying120
  a25 := Try.isAgg120
  z25 := Try.sizeOf120
  v25 := Try.zeroValue120
  t39 := Try.underlying129
  a39 := Try.isAgg129
  z39 := Try.sizeOf129
  v39 := Try.zeroValue129
  t45 := Try.underlying164
  a45 := Try.isAgg164
  z45 := Try.sizeOf164
  v45 := Try.zeroValue164
  t46 := Try.underlying165
  a46 := Try.isAgg165
  z46 := Try.sizeOf165
  v46 := Try.zeroValue165
  t50 := Try.underlying123
  a50 := Try.isAgg123
  z50 := Try.sizeOf123
  v50 := Try.zeroValue123
  t53 := Try.underlying171
  a53 := Try.isAgg171
  z53 := Try.sizeOf171
  v53 := Try.zeroValue171
  t55 := Try.underlying56
  a55 := Try.isAgg56
  z55 := Try.sizeOf56
  v55 := Try.zeroValue56
  t66 := Try.underlying172
  a66 := Try.isAgg172
  z66 := Try.sizeOf172
  v66 := Try.zeroValue172
  t70 := Try.underlying175
  a70 := Try.isAgg175
  z70 := Try.sizeOf175
  v70 := Try.zeroValue175
  t76 := Try.underlying177
  a76 := Try.isAgg177
  z76 := Try.sizeOf177
  v76 := Try.zeroValue177
  t77 := Try.underlying178
  a77 := Try.isAgg178
  z77 := Try.sizeOf178
  v77 := Try.zeroValue178 }
end Go.Proofs.Yteeegomdaebobaa.Sh

-- ---- Sr
/- A class' places are sorted by their states. Conditions: those that each theorem names. -/
namespace Go.Proofs.Yteeegomdaebobaa.St
set_option maxRecDepth 100000
set_option linter.unusedSimpArgs false
set_option linter.unusedVariables false
open Go.RowKit Mix _root_.Go.Proofs.Yteeegomdaebobaa.Own Nl Sp Go.Sort
attribute [local go_sem] Own.max_int Own.min_int

/-- What the sort's comparison looks at: the table in a box, the places' states. -/
structure LookT (w : World) (bx gt ct N : Nat) (S : Nat → Nat) : Prop where
  box : w.cell? ⟨bx, 0, none⟩ = some (.slice (some ⟨gt, 0, none⟩) N ct)
  at_ : ∀ j, j < N → w.cell? ⟨gt, j * 3 + 2, none⟩ = some (.int .i64 (S j : Int))
theorem LookT.chg {w w' : World} {bx gt ct N : Nat} {S : Nat → Nat} {D : Nat → Prop} (h : LookT w bx gt ct N S) (hc : Chg D w w') (h1 : ¬ D bx) (h3 : ¬ D gt) : LookT w' bx gt ct N S :=
  have f : ∀ (a : Addr) v, w.cell? a = some v → ¬ D a.block → w'.cell? a = some v := fun a v hv hn => (World.cell?_of_block (w := w) (a := a) (hc.block a.block (World.block_lt_of_cell? w a hv) hn)).trans hv
  ⟨f _ _ h.box h1, fun j hj => f _ _ (h.at_ j hj) h3⟩

set_option maxHeartbeats 1000000 in
theorem scmp_calls (bx gt ct N : Nat) (S : Nat → Nat) (x y : Nat) (w : World) (h : LookT w bx gt ct N S) (hx : x < N) (hy : y < N) (hN : N ≤ 4096) (hS : S x ≤ 4096) (hS2 : S y ≤ 4096) :
    Calls Try.prog 56 #[.int .i64 (x : Int), .int .i64 (y : Int), .pointer (some ⟨bx, 0, none⟩)] w fun e w' => e = .returned (.int .i64 ((S x : Int) - (S y : Int))) ∧ ∃ q, w' = w.drewN q := by
  have c1 := h.box
  have c2 := h.at_ x hx
  have c3 := h.at_ y hy
  have ew : wrap64 ((S x : Int) - (S y : Int)) = (S x : Int) - (S y : Int) := by unfold wrap64; omega
  clear h
  go_enter Try.func56, Try.ntmps56
  go_wp2_with fail
  go_quiet (fail)
  go_wp2_with fail
  go_ret
  exact ⟨by first | rfl | rw [ew], nq, rfl⟩
theorem scmp_lays (bx gt ct K m : Nat) (l : List Int) (blk off size : Nat) (w : World) (h : LookT w bx gt ct (K + 1) (tS l m)) (hK : K + 1 = 2 ^ m) (hM : MayS l m) (h1 : bx ≠ blk) (h3 : gt ≠ blk) :
    CmpLays1 Try.prog 56 #[.pointer (some ⟨bx, 0, none⟩)] (encF K) (fun x y => (tS l m x.val : Int) - (tS l m y.val : Int)) blk off size w := fun n os dk _ x y => by
  have h12 : 2 ^ m ≤ 4096 := pow12 m hM.hi
  have hx := x.isLt
  have hy := y.isLt
  have hS := tS_lt hM (show x.val < 2 ^ m by omega)
  have hS2 := tS_lt hM (show y.val < 2 ^ m by omega)
  refine (scmp_calls bx gt ct (K + 1) (tS l m) x.val y.val _ (h.chg (sortW_chg (encF K) w blk off n dk os) h1 h3) hx hy (by omega) (by omega) (by omega)).mono ?_
  rintro e w' ⟨rfl, q, rfl⟩
  exact ⟨rfl, q, #[], by rw [grow_empty]⟩
theorem swo_S (K : Nat) (S : Nat → Nat) : SWO (ltOf fun (x y : Fin (K + 1)) => (S x.val : Int) - (S y.val : Int)) where
  irrefl x := by simp [ltOf]
  trans x y z h1 h2 := by simp only [ltOf, decide_eq_true_eq] at *; omega
  ntrans x y z h1 h2 := by simp only [ltOf, decide_eq_false_iff_not] at *; omega

/-- The row behind the sort. -/
theorem sortW_own {w : World} {g cap K : Nat} {xs : List Nat} (n : Nat) (d : Array (Fin (K + 1))) (os : Array Obj) (h : Owns w 3 (.slice (some ⟨g, 0, none⟩) xs.length cap) (nums .i64 xs)) (hs : d.size = xs.length) :
    Owns (sortWorld (encF K) w g 0 n d os) 3 (.slice (some ⟨g, 0, none⟩) xs.length cap) (nums .i64 (d.toList.map fun x => x.val)) := by
  rcases h.form with ⟨hv, _⟩ | ⟨g', cap', cur, hv, hb, hc, hm, hsz, ht⟩
  · simp at hv
  · simp only [Value.slice.injEq, Option.some.injEq, Addr.mk.injEq, and_true, true_and] at hv
    obtain ⟨rfl, e1, rfl⟩ := hv
    rw [len_nums] at hc
    have hl : (nums .i64 (d.toList.map fun x => x.val)).length = xs.length := by rw [len_nums, List.length_map]; simpa using hs
    have hbk : Blk (sortWorld (encF K) w g 0 n d os) g (putCells (encF K) 0 d cur) 3 := by
      show (sortWorld (encF K) w g 0 n d os).heap[g]? = _
      have hb' : w.heap[g]? = some (.cells cur 3 (0, 0)) := hb
      unfold sortWorld
      simp only [grow, putRow, mapBlock, Go.Sort.ahead]
      rw [Array.getElem?_append_left (by simpa using Blk.lt hb), Array.getElem?_modify, if_pos rfl, hb']
      rfl
    have hps : (putCells (encF K) 0 d cur).size = cap := by rw [← hsz]; simp [putCells]
    have := Owns.mk (xs := nums .i64 (d.toList.map fun x => x.val)) hbk (cap := cap) (by rw [hl]; exact hc) hm hps (by
      rw [hl]
      apply List.ext_getElem?
      intro j
      rw [List.getElem?_take]
      by_cases hj : j < xs.length
      · rw [if_pos hj]
        have hjc : j < cur.size := by omega
        simp only [putCells, Array.getElem?_toList, Array.getElem?_mapIdx, Array.getElem?_eq_getElem hjc, Option.map_some]
        rw [if_pos ⟨Nat.zero_le _, by omega⟩, Nat.sub_zero, getElem!_pos d j (by omega)]
        simp [nums, encF, show j < d.size by omega]
      · rw [if_neg hj, List.getElem?_eq_none (by rw [hl]; omega)])
    rw [hl] at this
    exact this

/-- A class' places, as they come. -/
def placesC (l : List Int) (m c n : Nat) : List Nat := (List.range n).filter fun x => decide (tC l m x = c)
theorem sort_calls (bx gt ct m c : Nat) (v : Value) (l : List Int) (w : World) (hL : LookT w bx gt ct (2 ^ m) (tS l m)) (hM : MayS l m) (hO : Owns w 3 v (nums .i64 (placesC l m c (2 ^ m)))) (h1 : v.ownBlock ≠ some bx) (h3 : v.ownBlock ≠ some gt) :
    Calls Try.prog 55 #[v, .func (.func 56) #[] #[.pointer (some ⟨bx, 0, none⟩)]] w fun e w' => e = .returned (.tuple #[]) ∧ ∃ ys, RowS l m c ys ∧ Owns w' 3 v (nums .i64 ys) ∧ Chg (fun k => some k = v.ownBlock) w w' := by
  obtain ⟨K, hK⟩ : ∃ K, K + 1 = 2 ^ m := ⟨2 ^ m - 1, by have := Nat.pow_pos (n := m) (show 0 < 2 by decide); omega⟩
  have h12 : 2 ^ m ≤ 4096 := pow12 m hM.hi
  obtain ⟨xs, hxs⟩ : ∃ xs, xs = placesC l m c (2 ^ m) := ⟨_, rfl⟩
  have hmem : ∀ x, x ∈ xs ↔ x < 2 ^ m ∧ tC l m x = c := fun x => by rw [hxs]; unfold placesC; rw [List.mem_filter, List.mem_range, decide_eq_true_eq]
  have hnd : xs.Nodup := by rw [hxs]; exact List.Pairwise.filter _ List.nodup_range
  have hxl : xs.length ≤ 4096 := by
    rw [hxs]; unfold placesC
    have := List.length_filter_le (fun x => decide (tC l m x = c)) (List.range (2 ^ m))
    rw [List.length_range] at this; omega
  rw [← hxs] at hO
  clear hxs
  have hxb : ∀ x ∈ xs, x < K + 1 := fun x hx => by have := ((hmem x).1 hx).1; omega
  by_cases hnil : xs = []
  · subst hnil
    obtain ⟨a, cp, rfl, _⟩ := hO.slice
    refine Calls.mono (AnyF.slices_SortFunc_none (P := Try.prog) (ρ := Sh.sortC_ren) { Sh.sortC with } a cp _ w) ?_
    rintro e w' ⟨rfl, rfl⟩
    exact ⟨rfl, [], ⟨hmem, List.Pairwise.nil, by simp⟩, hO, Chg.refl _ _⟩
  · obtain ⟨a, cp, rfl, ha⟩ := hO.slice
    obtain ⟨g, rfl⟩ := ha (fun e => hnil (by have := congrArg List.length e; rw [len_nums] at this; exact List.length_eq_zero_iff.1 this))
    rw [len_nums] at hO h1 h3 ⊢
    have hg1 : bx ≠ g := fun e => h1 (by rw [e]; rfl)
    have hg3 : gt ≠ g := fun e => h3 (by rw [e]; rfl)
    have hH := finR_holds hO hxb
    have hsr := Any.slices_SortFunc Sh.sortC (encF K) (one_encF K) (fun x y => (tS l m x.val : Int) - (tS l m y.val : Int)) (swo_S K (tS l m)) 56 #[.pointer (some ⟨bx, 0, none⟩)] g 0 cp (finR K xs) w
      (enters_of Try.func56 (by kernel_rfl) rfl) (scmp_lays bx gt ct K m l g 0 (finR K xs).size w (by rw [hK]; exact hL) hK hM hg1 hg3) hH (hO.lt g rfl) (by rw [size_finR]; omega)
    rw [size_finR] at hsr
    refine Calls.mono hsr ?_
    rintro e w' ⟨rfl, d', n, os, hp, hso, rfl⟩
    have hds : d'.size = xs.length := by have := hp.1; rwa [size_finR] at this
    have hperm : (d'.toList.map fun x => x.val).Perm xs := by
      have h2 := hp.2.2
      have e1 : (d'.extract 0 xs.length).toList = d'.toList := by rw [← hds]; simp
      have e2 : ((finR K xs).extract 0 xs.length).toList = (finR K xs).toList := by rw [← size_finR K xs]; simp
      rw [e1, e2] at h2
      have h3 := h2.map fun x => x.val
      have e3 : (finR K xs).toList.map (fun x => x.val) = xs := by
        unfold finR
        rw [List.toList_toArray, List.map_map]
        conv => rhs; rw [← List.map_id xs]
        refine List.map_congr_left fun x hx => ?_
        simp [Fin.ofNat, Nat.mod_eq_of_lt (hxb x hx)]
      rwa [e3] at h3
    obtain ⟨ys, hys⟩ : ∃ ys, ys = d'.toList.map fun x => x.val := ⟨_, rfl⟩
    have hown := sortW_own n d' os hO hds
    rw [← hys] at hperm hown
    refine ⟨rfl, ys, ⟨fun x => by rw [hperm.mem_iff]; exact hmem x, ?_, by rw [hperm.length_eq]; exact hxl⟩, hown, (sortW_chg (encF K) w g 0 n d' os).mono fun k _ hk => by rw [hk]; rfl⟩
    refine List.pairwise_iff_getElem.2 fun i j hi hj hij => ?_
    have hyl : ys.length = xs.length := hperm.length_eq
    have hle := hso i j (Nat.zero_le _) hij (by omega)
    have g1 : ∀ k (hk : k < ys.length), (d'[k]!).val = ys[k] := fun k hk => by
      rw [getElem!_pos d' k (by omega)]; simp [hys]
    simp only [ltOf, decide_eq_false_iff_not] at hle
    rw [g1 i hi, g1 j hj] at hle
    have m1 := (hmem _).1 (hperm.mem_iff.1 (List.getElem_mem hi))
    have m2 := (hmem _).1 (hperm.mem_iff.1 (List.getElem_mem hj))
    have hne : ys[i] ≠ ys[j] := fun e => by
      have := (List.getElem_inj (hperm.nodup_iff.2 hnd)).1 e
      omega
    have hne2 : tS l m ys[i] ≠ tS l m ys[j] := fun e => hne (tS_inj hM m1.1 m2.1 (m1.2.trans m2.2.symm) e)
    omega
end Go.Proofs.Yteeegomdaebobaa.St

-- ---- Af
/- 'append' onto a slice that is full (its length is its capacity): the result lies in a block of its own. No program in sight. -/
namespace Go.Proofs.Yteeegomdaebobaa.Own
set_option maxRecDepth 100000
set_option linter.unusedSimpArgs false
set_option linter.unusedVariables false
open Go Go.RowKit

section
variable {P : Program} {w : World}
end
end Go.Proofs.Yteeegomdaebobaa.Own

-- ---- Ro
/- The document's order of places. -/
namespace Go.Proofs.Yteeegomdaebobaa
set_option maxRecDepth 100000
set_option linter.unusedSimpArgs false
set_option linter.unusedVariables false
open Go.RowKit Mix _root_.Go.Proofs.Yteeegomdaebobaa.Own Ol
attribute [local go_sem] max_int min_int

theorem infoI64 : (Try.prog.info? 3).map (fun i => (i.zero, i.size, i.bytes)) = some (some (.int .i64 0), 1, 8) := by kernel_rfl
theorem info_partsI {i : Option TypeInfo} {z : Value} {s b : Nat} (h : i.map (fun i => (i.zero, i.size, i.bytes)) = some (some z, s, b)) : ∃ i0, i = some i0 ∧ i0.zero = some z ∧ i0.size = s ∧ i0.bytes = b := by
  cases i with
  | none => simp at h
  | some i => simp at h; exact ⟨i, rfl, h.1, h.2.1, h.2.2⟩

/-- Places as values. -/
def idx (l : List Nat) : List Value := l.map fun i : Nat => .int .i64 (i : Int)
@[simp] theorem length_idx (l : List Nat) : (idx l).length = l.length := by simp [idx]
/-- What holds of the row of places, on the way. -/
structure RowO (B : Nat) (w wr : World) (v : Value) (l : List Nat) : Prop where
  own : Owns wr 3 v (idx l)
  new : ∀ g, v.ownBlock = some g → B ≤ g
  low : Below B w wr

end Go.Proofs.Yteeegomdaebobaa

-- ---- Len64
/- math/bits.Len64, by the kit's own template: the library's text is walked. -/
namespace Go.Proofs.Yteeegomdaebobaa
set_option maxRecDepth 100000
open Go.RowKit
set_option linter.unusedSimpArgs false
set_option linter.unusedVariables false
set_option maxRecDepth 100000 in
theorem len8tab_size : (Lib.len8tab.size : Int) = 256 := by
  have : Lib.len8tab.size = 256 := by decide
  omega
theorem wrap_add (k a b : Nat) (hk : k ≤ 56) (ha : a ≤ 8) (hb : b = k + a) : RowKit.wrap64 ((k : Int) + RowKit.wrap64 (a : Int)) = (b : Int) := by
  unfold RowKit.wrap64
  omega
theorem wrap_wrap (a : Nat) (ha : a ≤ 8) : RowKit.wrap64 (RowKit.wrap64 (a : Int)) = (a : Int) := by
  unfold RowKit.wrap64
  omega
theorem wrap_one (a : Nat) (ha : a ≤ 8) : RowKit.wrap64 (a : Int) = (a : Int) := by
  unfold RowKit.wrap64
  omega
theorem len8_get (y : Int) (h : y.toNat < Lib.len8tab.size) : ((Lib.len8tab[y.toNat]'h).toNat : Int) = Lib.len8 y := by
  unfold Lib.len8
  rw [getElem?_pos Lib.len8tab y.toNat h]
  rfl

set_option maxHeartbeats 4000000 in
set_option maxRecDepth 100000 in
theorem len64_lib (x : Int) (w : World) (h0 : 0 ≤ x) (h1 : x ≤ 18446744073709551615) :
    Calls Try.prog 93 #[.int .u64 x] w fun e w' => e = .returned (.int .i64 (Lib.bitLen x.toNat)) ∧ w' = w := by
  go_enter Try.func93, Try.ntmps93
  go_wp2
  all_goals first
    | (go_ret; refine ⟨congrArg Ending.returned (congrArg (Value.int IntKind.i64) ?_), rfl⟩; go_light)
    | (exfalso
       go_light
       have hs := len8tab_size
       omega)
  all_goals first
    | (rw [len8_get (x / 4294967296 / 65536 / 256) _, Lib.len8_of (x / 4294967296 / 65536 / 256) (by omega) (by omega)]
       have e : (x / 4294967296 / 65536 / 256).toNat = x.toNat / 72057594037927936 := by omega
       have l := Lib.bitLen_le8' (x / 4294967296 / 65536 / 256) (by omega) (by omega)
       have s := Lib.bitLen_shift56 x.toNat (by omega) (by omega)
       rw [e] at l ⊢
       exact wrap_add 56 _ _ (by decide) l s)
    | (rw [len8_get (x / 4294967296 / 65536) _, Lib.len8_of (x / 4294967296 / 65536) (by omega) (by omega)]
       have e : (x / 4294967296 / 65536).toNat = x.toNat / 281474976710656 := by omega
       have l := Lib.bitLen_le8' (x / 4294967296 / 65536) (by omega) (by omega)
       have s := Lib.bitLen_shift48 x.toNat (by omega) (by omega)
       rw [e] at l ⊢
       exact wrap_add 48 _ _ (by decide) l s)
    | (rw [len8_get (x / 4294967296 / 256) _, Lib.len8_of (x / 4294967296 / 256) (by omega) (by omega)]
       have e : (x / 4294967296 / 256).toNat = x.toNat / 1099511627776 := by omega
       have l := Lib.bitLen_le8' (x / 4294967296 / 256) (by omega) (by omega)
       have s := Lib.bitLen_shift40 x.toNat (by omega) (by omega)
       rw [e] at l ⊢
       exact wrap_add 40 _ _ (by decide) l s)
    | (rw [len8_get (x / 4294967296) _, Lib.len8_of (x / 4294967296) (by omega) (by omega)]
       have e : (x / 4294967296).toNat = x.toNat / 4294967296 := by omega
       have l := Lib.bitLen_le8' (x / 4294967296) (by omega) (by omega)
       have s := Lib.bitLen_shift32 x.toNat (by omega) (by omega)
       rw [e] at l ⊢
       exact wrap_add 32 _ _ (by decide) l s)
    | (rw [len8_get (x / 65536 / 256) _, Lib.len8_of (x / 65536 / 256) (by omega) (by omega)]
       have e : (x / 65536 / 256).toNat = x.toNat / 16777216 := by omega
       have l := Lib.bitLen_le8' (x / 65536 / 256) (by omega) (by omega)
       have s := Lib.bitLen_shift24 x.toNat (by omega) (by omega)
       rw [e] at l ⊢
       exact wrap_add 24 _ _ (by decide) l s)
    | (rw [len8_get (x / 65536) _, Lib.len8_of (x / 65536) (by omega) (by omega)]
       have e : (x / 65536).toNat = x.toNat / 65536 := by omega
       have l := Lib.bitLen_le8' (x / 65536) (by omega) (by omega)
       have s := Lib.bitLen_shift16 x.toNat (by omega) (by omega)
       rw [e] at l ⊢
       exact wrap_add 16 _ _ (by decide) l s)
    | (rw [len8_get (x / 256) _, Lib.len8_of (x / 256) (by omega) (by omega)]
       have e : (x / 256).toNat = x.toNat / 256 := by omega
       have l := Lib.bitLen_le8' (x / 256) (by omega) (by omega)
       have s := Lib.bitLen_shift8 x.toNat (by omega) (by omega)
       rw [e] at l ⊢
       exact wrap_add 8 _ _ (by decide) l s)
    | (rw [len8_get (x) _, Lib.len8_of (x) (by omega) (by omega)]
       have e : (x).toNat = x.toNat := by omega
       have l := Lib.bitLen_le8' (x) (by omega) (by omega)
       rw [e] at l ⊢
       first | exact wrap_wrap _ l | exact wrap_add 0 _ _ (by decide) l (by omega) | exact wrap_one _ l)
end Go.Proofs.Yteeegomdaebobaa

-- ---- Tc
/- A table's next cell: what the call answers, and what it does to the maker. -/
namespace Go.Proofs.Yteeegomdaebobaa
set_option maxRecDepth 100000
set_option linter.unusedSimpArgs false
set_option linter.unusedVariables false
open Go.RowKit Mix _root_.Go.Proofs.Yteeegomdaebobaa.Own Nl Sp
attribute [local go_sem] max_int min_int

theorem bl_log2 (x : Nat) (h0 : 0 < x) (h : x < 2 ^ 64) : Lib.bitLen x = Nat.log2 x + 1 :=
  Zig.bl_eq x (Nat.log2 x) (Nat.log2_self_le (by omega)) Nat.lt_log2_self h
theorem log2_le (x m : Nat) (h0 : 0 < x) (h : x < 2 ^ (m + 1)) : Nat.log2 x ≤ m := by
  have h1 := Nat.log2_self_le (n := x) (by omega)
  rcases Nat.lt_or_ge m (Nat.log2 x) with h2 | h2
  · have : 2 ^ (m + 1) ≤ 2 ^ Nat.log2 x := Nat.pow_le_pow_right (by decide) h2
    omega
  · exact h2

set_option maxHeartbeats 1000000 in
theorem len_calls (x : Nat) (w : World) (h0 : 0 < x) (h1 : x < 9223372036854775808) :
    Calls Try.prog 76 #[.int .u64 (x : Int)] w fun e w' => e = .returned (.int .i64 ((Nat.log2 x + 1 : Nat) : Int)) ∧ w = w' := by
  have hl := len64_lib (x : Int) w (by omega) (by omega)
  rw [Int.toNat_natCast, bl_log2 x h0 (by omega)] at hl
  have HL := kept hl
  clear hl
  go_enter Try.func76, Try.ntmps76
  go_wp2_with (go_at_call 93; refine HL.out.mono ?_; rintro e w' ⟨rfl, rfl⟩)
  go_ret
  exact ⟨rfl, rfl⟩

/-- A maker at block p, the next states of its classes at block g. -/
structure IsMk (w : World) (p g c m : Nat) (nx : List Int) : Prop where
  blk : Blk w p #[.int .i64 ((2 ^ m : Nat) : Int), .int .i64 (m : Int), .slice (some ⟨g, 0, none⟩) 65 c] 150
  row : Owns w 3 (.slice (some ⟨g, 0, none⟩) 65 c) (ints .i64 nx)
theorem IsMk.len {w : World} {p g c m : Nat} {nx : List Int} (h : IsMk w p g c m nx) : nx.length = 65 := by
  have := h.row.length; rw [length_ints] at this; exact this.symm
theorem IsMk.later {w w' : World} {p g c m : Nat} {nx : List Int} (h : IsMk w p g c m nx) (hb : Below w.heap.size w w') : IsMk w' p g c m nx :=
  ⟨(hb.block p h.blk.lt).trans h.blk, h.row.keep fun k _ hk => hb.block k hk⟩
theorem IsMk.ne {w : World} {p g c m : Nat} {nx : List Int} (h : IsMk w p g c m nx) : p ≠ g := fun e => h.row.ne h.blk (by decide) (by simp [Value.ownBlock, e])
theorem IsMk.store {w : World} {p g c m : Nat} {nx : List Int} (h : IsMk w p g c m nx) (j : Nat) (x : Int) : IsMk (w.setCell ⟨g, j, none⟩ (.int .i64 x)) p g c m (nx.set j x) := by
  refine ⟨h.blk.setOther h.ne _, ?_⟩
  have e : ints .i64 (nx.set j x) = (ints .i64 nx).set j (.int .i64 x) := by simp [ints, List.map_set]
  rw [e]; exact h.row.store j (.int .i64 x)
theorem IsMk.other {w : World} {p g c m : Nat} {nx : List Int} (h : IsMk w p g c m nx) {a : Addr} (h1 : a.block ≠ p) (h2 : a.block ≠ g) (v : Value) : IsMk (w.setCell a v) p g c m nx :=
  ⟨h.blk.setOther (fun e => h1 e.symm) v, h.row.setOther (fun e => h2 (by simpa [Value.ownBlock] using e.symm)) v⟩

/-- What a cell's numbers are. -/
theorem cell_nums (m x : Nat) (hm : m ≤ 12) (h0 : 0 < x) (h : x < 2 ^ (m + 1)) : ∃ n : Nat, n = m - Nat.log2 x ∧ n ≤ m ∧ (m : Int) - ((((Nat.log2 x + 1 : Nat)) : Int) - 1) = (n : Int) ∧ x * 2 ^ n < 2 ^ (m + 1) ∧ x * 2 ^ n ≤ 8192 ∧ wrap64 ((x : Int) * 2 ^ n) = ((x * 2 ^ n : Nat) : Int) := by
  have hl := log2_le x m h0 h
  have h1 := Nat.lt_log2_self (n := x)
  have h2 : x * 2 ^ (m - Nat.log2 x) < 2 ^ (m + 1) := by
    have h3 : x * 2 ^ (m - Nat.log2 x) < 2 ^ (Nat.log2 x + 1) * 2 ^ (m - Nat.log2 x) := Nat.mul_lt_mul_of_pos_right h1 (Nat.pow_pos (by decide))
    rw [← Nat.pow_add, show Nat.log2 x + 1 + (m - Nat.log2 x) = m + 1 by omega] at h3
    exact h3
  have h4 : 2 ^ (m + 1) ≤ 2 ^ 13 := Nat.pow_le_pow_right (by decide) (by omega)
  have e13 : (2 : Nat) ^ 13 = 8192 := by decide
  refine ⟨m - Nat.log2 x, rfl, Nat.sub_le _ _, by omega, h2, by omega, ?_⟩
  have e : (x : Int) * 2 ^ (m - Nat.log2 x) = ((x * 2 ^ (m - Nat.log2 x) : Nat) : Int) := by simp
  rw [e]
  generalize x * 2 ^ (m - Nat.log2 x) = z at h2
  unfold wrap64; omega

set_option maxHeartbeats 4000000 in
theorem cell_calls (p g c m : Nat) (nx : List Int) (k x : Nat) (w : World) (hm : m ≤ 12) (h : IsMk w p g c m nx) (hk : k < 65) (hx : nx.getD k 0 = (x : Int)) (h0 : 0 < x) (hx1 : x < 2 ^ (m + 1)) :
    Calls Try.prog 74 #[.pointer (some ⟨p, 0, none⟩), .int .i64 (k : Int)] w fun e w' => e = .returned (.agg #[.int .i64 (cellOf m k x).1, .int .i64 (cellOf m k x).2.1, .int .i64 (cellOf m k x).2.2]) ∧
      IsMk w' p g c m (bump nx k 1) ∧ Chg (fun b => b = g) w w' := by
  obtain ⟨n, hn, hnm, e1, hb1, hb2, e2⟩ := cell_nums m x hm h0 hx1
  have hlen := len_calls x
  have hlog := log2_le x m h0 hx1
  have hpow : 2 ^ m ≤ 4096 := pow12 m hm
  have hxs : x ≤ 8192 := Nat.le_trans (Nat.le_mul_of_pos_right x (Nat.pow_pos (by decide) : 0 < 2 ^ n)) hb2
  have hl65 := h.len
  have hbump : bump nx k 1 = nx.set k ((x : Int) + 1) := by unfold bump; rw [hx]
  have c2 : w.cell? ⟨p, 2, none⟩ = some (.slice (some ⟨g, 0, none⟩) 65 c) := h.blk.cell rfl
  have d0 := h.row.cell (Own.ints_at .i64 nx k (by omega))
  rw [hx] at d0
  have f0 : w.frozen? ⟨g, k, none⟩ = false := h.row.free k
  have hgl : g < w.heap.size := h.row.lt g rfl
  have hpl := h.blk.lt
  have hc65 : 65 ≤ c := by
    rcases h.row.form with ⟨hv, _⟩ | ⟨g', cap', cur, hv, _, h3, h4, _⟩
    · simp at hv
    · simp only [Value.slice.injEq] at hv; rw [hv.2.2]; simp [hl65] at h3; exact h3
  obtain ⟨R, hR⟩ : ∃ R, R = w.heap.size := ⟨_, rfl⟩
  obtain ⟨P, hP⟩ : ∃ P, P = 2 ^ m := ⟨_, rfl⟩
  rw [← hP] at hpow
  have hcell : cellOf m k x = ((k : Int), (n : Int), ((x * 2 ^ n : Nat) : Int) - (P : Int)) := by unfold cellOf; rw [← hn, ← hP]
  obtain ⟨z, hz⟩ : ∃ z, z = x * 2 ^ n := ⟨_, rfl⟩
  rw [← hz] at hb2 e2 hcell
  rw [hcell]
  have H := kept h
  have HLen := kept hlen
  have HBump := kept hbump
  have HP := kept hP
  have HR := kept hR
  have HX0 := kept h0
  have hxi : (x : Int) ≤ 8192 := by omega
  have hxp : (0 : Int) < (x : Int) := by omega
  have hn63 : n < 63 := by omega
  have HE1 := kept e1
  have HE2 := kept e2
  clear h hlen hn hb1 hlog hl65 hbump hx hx1 hcell hz hP h0 e1 e2 hxs hR
  go_enter Try.func74, Try.ntmps74
  go_wp2_with fail
  rw [show w.heap.size = R from HR.out.symm]
  generalize hwb : World.alloc _ _ = wb
  have hsz : (w.setCell ⟨g, k, none⟩ (.int .i64 ((x : Int) + 1))).heap.size = w.heap.size := by simp [World.setCell]
  have HMk2 : Kept (IsMk wb p g c m (bump nx k 1)) := kept (by rw [← hwb, HBump.out]; exact (H.out.store k _).later ((Below.refl _ _).alloc (Nat.le_refl _) _))
  have HG2 : Kept (Blk wb R #[.int .i64 0, .int .i64 0, .int .i64 0] 105) := kept (by
    rw [← hwb]; exact Blk.fresh_at _ _ (by rw [hsz]; exact HR.out) _ _)
  have HC2 : Kept (Chg (fun b => b = g) w wb) := kept (by
    rw [← hwb]; exact (Chg.setCell w ⟨g, k, none⟩ _).trans (Chg.alloc (fun _ => False) _ _) (fun _ _ h => h.elim))
  clear hsz
  clear hwb c2 d0 f0
  have c1 : wb.cell? ⟨p, 1, none⟩ = some (.int .i64 (m : Int)) := HMk2.out.blk.cell rfl
  have l1 := lat_cell c1
  have hcall : ∀ q : Lat wb, Calls Try.prog 76 #[.int .u64 (x : Int)] q.w fun e w' => e = .returned (.int .i64 ((Nat.log2 x + 1 : Nat) : Int)) ∧ q.w = w' := fun q => HLen.out q.w HX0.out (by omega)
  obtain ⟨L, hL⟩ : ∃ L, L = Nat.log2 x + 1 := ⟨_, rfl⟩
  rw [← hL] at hcall HE1
  have hL13 : L ≤ m + 1 := by have := HE1.out; omega
  have e1 := HE1.out
  have HCall := kept hcall
  clear hcall hL
  have hL0 : (0 : Int) ≤ (L : Int) := by omega
  go_wp2_with fail
  refine wp_region_quietL (by kernel_rfl) (by kernel_rfl) ?_
  repeat (go_big_quiet_step ((go_at_call 76; exact lat_call_same (HCall.out _))))
  refine wpQuiet_nil ?_
  intro nq
  have HMk3 := kept (HMk2.out.later nq.below)
  have HG3 : Kept (Blk nq.w R #[.int .i64 0, .int .i64 0, .int .i64 0] 105) := kept (lat_block HG2.out nq)
  have HC3 : Kept (Chg (fun b => b = g) w nq.w) := kept (HC2.out.trans (Chg.of_below (S := fun _ => False) nq.below) (fun _ _ h => h.elim))
  generalize nq.w = w3 at HMk3 HG3 HC3 ⊢
  clear HMk2 HG2 HC2 c1 l1 HCall
  have c0 : w3.cell? ⟨p, 0, none⟩ = some (.int .i64 (P : Int)) := by have h1 : w3.cell? ⟨p, 0, none⟩ = some (.int .i64 ((2 ^ m : Nat) : Int)) := HMk3.out.blk.cell rfl
                                                                     rw [HP.out]; exact h1
  have l0 := lat_cell c0
  clear e1 hL13 hL0
  go_wp2_with fail
  refine wp_region_mixL [] [0,1,2,3,4,5,6,7,8,9] [10,11] (by kernel_rfl) (by kernel_rfl) ?_
  intro K hK
  simp only [pick, List.filterMap_cons, List.filterMap_nil, List.getElem?_cons_zero, List.getElem?_cons_succ]
  refine wpQuiet_nil ?_
  repeat (show wpQuiet _ _ _ _ (_ :: _) _; go_big_quiet_step (fail))
  refine wpQuiet_nil ?_
  show wpList _ _ _ [_, _] _ _
  rw [HE2.out]
  have e3 : wrap64 ((z : Int) - (P : Int)) = (z : Int) - (P : Int) := by unfold wrap64; omega
  rw [e3]
  clear e3
  generalize hwd : World.drew w3 = w4
  have HMk4 : Kept (IsMk w4 p g c m (bump nx k 1)) := kept (by rw [← hwd]; exact HMk3.out.later ((Below.refl _ _).drew))
  have HG4 : Kept (Blk w4 R #[.int .i64 0, .int .i64 0, .int .i64 0] 105) := kept (by rw [← hwd]; exact HG3.out)
  have HC4 : Kept (Chg (fun b => b = g) w w4) := kept (by rw [← hwd]; exact HC3.out.trans (Chg.drew (fun _ => False) _) (fun _ _ h => h.elim))
  clear hwd c0 l0
  have g0 : w4.cell? ⟨R, 0, none⟩ = some (.int .i64 0) := HG4.out.cell rfl
  have g1 : w4.cell? ⟨R, 1, none⟩ = some (.int .i64 0) := HG4.out.cell rfl
  have g2 : w4.cell? ⟨R, 2, none⟩ = some (.int .i64 0) := HG4.out.cell rfl
  have q0 : w4.frozen? ⟨R, 0, none⟩ = false := HG4.out.free 0
  have q1 : w4.frozen? ⟨R, 1, none⟩ = false := HG4.out.free 1
  have q2 : w4.frozen? ⟨R, 2, none⟩ = false := HG4.out.free 2
  go_wp2_with fail
  refine hK _ _ ?_
  go_wp2_with fail
  have hRp : R ≠ p := by have := HR.out; omega
  have hRg : R ≠ g := by have := HR.out; omega
  have hno : ∀ b, b < w.heap.size → b = R → b = g := fun b hb e => by have := HR.out; omega
  refine bodyPost_ret (results_cell_row rfl _ _ R 105 #[.int .i64 (k : Int), .int .i64 (n : Int), .int .i64 ((z : Int) - (P : Int))] (0, 0) _ rfl (((HG4.out.set 0 _).set 1 _).set 2 _) Try.underlying105 rfl (by kernel_rfl)) rfl ⟨rfl, ?_, ?_⟩
  · exact ((HMk4.out.other (a := ⟨R, 0, none⟩) hRp hRg _).other (a := ⟨R, 1, none⟩) hRp hRg _).other (a := ⟨R, 2, none⟩) hRp hRg _
  · exact ((HC4.out.trans (Chg.setCell w4 ⟨R, 0, none⟩ _) hno).trans (Chg.setCell _ ⟨R, 1, none⟩ _) hno).trans (Chg.setCell _ ⟨R, 2, none⟩ _) hno
end Go.Proofs.Yteeegomdaebobaa

-- ---- Kd
/- Between the print's words for rows and those of this claim's own texts. No program in sight. -/
namespace Go.Proofs.Yteeegomdaebobaa.Own
set_option maxRecDepth 100000
set_option linter.unusedSimpArgs false
set_option linter.unusedVariables false
open Go Go.RowKit Go.Proofs.YteeegomdaebobaaW.PrintWords

theorem rd_of_C {k : IntKind} {w : World} {A : Option Addr} {n : Nat} {xs : List Int} (h : Kd.C (Kd.int k) w A n xs) : Rd w (.slice A n n) (ints k xs) := by
  obtain ⟨h1, h2, h3⟩ := h
  subst h1
  refine ⟨A, xs.length, by rw [length_ints], by rw [length_ints]; exact Nat.le_refl _, h2, fun i u hu => ?_⟩
  have hi : i < xs.length := by have := (List.getElem?_eq_some_iff.1 hu).1; rwa [length_ints] at this
  obtain ⟨ad, rfl, hc⟩ := h3 (by omega)
  obtain ⟨c, hcl, hK, hcell⟩ := hc i _ (List.getElem?_eq_getElem hi)
  refine ⟨ad, rfl, ?_⟩
  have hK2 : c = [.int k xs[i]] := hK
  have := hcell 0 (.int k xs[i]) (by rw [hK2]; rfl)
  have e : u = .int k xs[i] := by
    unfold ints at hu; rw [List.getElem?_map, List.getElem?_eq_getElem hi] at hu; simp at hu; exact hu.symm
  rw [e]; simpa [Kd.int, Kd.scalar] using this

theorem own_low {w : World} {base e size n : Nat} {v : Value} {xs : List Value} (h : w.ownsRow 0 e size v n xs) (hb : ∀ g, v.ownBlock = some g → base ≤ g) : w.ownsRow base e size v n xs := by
  refine ⟨h.1, ?_⟩
  rcases h.2 with hn | ⟨g, cap, cur, rfl, _, r⟩
  · exact .inl hn
  · exact .inr ⟨g, cap, cur, rfl, hb g rfl, r⟩

/-- A row of elements, their cells one behind the other. -/
theorem R_of_flat {α : Type} (d : Kd α) (enc : α → List Value) {e : Nat} {w : World} {base : Nat} {v : Value} {xs : List α} (hM : ∀ ok x, d.M w base ok x (enc x)) (hl : ∀ x, (enc x).length = d.sz)
    (h : w.ownsRow 0 e d.sz v xs.length (xs.flatMap enc)) (hb : ∀ g, v.ownBlock = some g → base ≤ g) : Kd.R d e w base (fun _ => True) v xs := by
  refine ⟨fun _ _ => trivial, xs.flatMap enc, own_low h hb, ?_⟩
  have key : ∀ (xs : List α), (xs.flatMap enc).length = xs.length * d.sz ∧ ∀ j p, xs[j]? = some p → ((xs.flatMap enc).drop (j * d.sz)).take d.sz = enc p := by
    intro xs
    induction xs with
    | nil => exact ⟨by simp, fun j p hj => by simp at hj⟩
    | cons a t ih =>
      have ha := hl a
      refine ⟨by rw [List.flatMap_cons, List.length_append, ih.1, ha, List.length_cons, Nat.succ_mul]; omega, fun j p hj => ?_⟩
      rw [List.flatMap_cons]
      cases j with
      | zero => simp at hj; subst hj; rw [Nat.zero_mul, List.drop_zero]; exact List.take_left' ha
      | succ j =>
        have e2 : (j + 1) * d.sz = (enc a).length + j * d.sz := by rw [ha, Nat.succ_mul]; omega
        rw [e2, ← List.drop_drop, List.drop_left]
        exact ih.2 j p (by simpa using hj)
  exact ⟨(key xs).1, fun j p hj => by rw [(key xs).2 j p hj]; exact hM _ p⟩

theorem owns_of_R {k : IntKind} {e : Nat} {w : World} {base : Nat} {ok : Nat → Prop} {v : Value} {xs : List Int} (h : Kd.R (Kd.int k) e w base ok v xs) : Owns w e v (ints k xs) ∧ ∀ g, v.ownBlock = some g → base ≤ g := by
  obtain ⟨_, inner, ho, hl, hr⟩ := h
  have e1 : inner = ints k xs := by
    apply List.ext_getElem
    · rw [length_ints, hl]; simp [Kd.int, Kd.scalar]
    · intro i h1 h2
      rw [length_ints] at h2
      have h3 := hr i _ (List.getElem?_eq_getElem h2)
      have h4 : (inner.drop (i * 1)).take 1 = [Value.int k xs[i]] := h3
      rw [Nat.mul_one, List.drop_eq_getElem_cons h1] at h4
      simp only [List.take_succ_cons, List.take_zero, List.cons.injEq, and_true] at h4
      rw [h4]; simp [ints]
  subst e1
  refine ⟨?_, fun g hg => (World.ownsRow.lt ho g hg).1⟩
  have h2 : w.ownsRow base e 1 v xs.length (ints k xs) := ho
  refine ⟨by simp, ?_⟩
  rcases h2.2 with ⟨hv, hn⟩ | ⟨g, cap, cur, hv, _, r⟩
  · left; exact ⟨hv, by simpa using hn⟩
  · right; exact ⟨g, cap, cur, by simpa using hv, Nat.zero_le _, by simpa using r⟩
end Go.Proofs.Yteeegomdaebobaa.Own

-- ---- Ub
/- Words of the print's plain functions: small facts. No program in sight. -/
namespace Go.Proofs.Yteeegomdaebobaa.PA
set_option maxRecDepth 100000
set_option linter.unusedVariables false
set_option linter.unusedSimpArgs false
open Go.RowKit Go.Proofs.YteeegomdaebobaaW.PrintWords Go.Proofs.YteeegomdaebobaaW.PrintLast Go.Proofs.YteeegomdaebobaaW.PrintMore

theorem w64 {x : Int} (h1 : -9223372036854775808 ≤ x) (h2 : x ≤ 9223372036854775807) : wrap64 x = x := by unfold wrap64; omega
theorem rd_nat (xs : List Int) (i : Nat) : rd xs (i : Int) = xs.getD i 0 := by unfold rd; rw [Int.toNat_natCast]
theorem pow2_le (k m : Nat) (h : k ≤ m) : 2 ^ k ≤ 2 ^ m := Nat.pow_le_pow_right (by decide) h
theorem i64_wrap_nat (n : Nat) (h : n < 9223372036854775808) : IntKind.i64.wrap (n : Int) = (n : Int) := by
  simp [IntKind.wrap, IntKind.bits, IntKind.signed]; omega
theorem shl_nat (x k : Nat) (hk : k ≤ 62) (h : x * 2 ^ k < 9223372036854775808) : shl .i64 (x : Int) (k : Int) = ((x * 2 ^ k : Nat) : Int) := by
  unfold shl
  have e : min ((k : Int).toNat) (IntKind.bits .i64) = k := by simp [IntKind.bits]; omega
  rw [e]
  have e2 : (x : Int) * 2 ^ k = ((x * 2 ^ k : Nat) : Int) := by simp
  rw [e2, i64_wrap_nat _ h]
theorem shl_1 (k : Nat) (hk : k ≤ 62) : shl .i64 1 (k : Int) = ((2 ^ k : Nat) : Int) := by
  have h := shl_nat 1 k hk (by have := pow2_le k 62 hk; rw [Nat.one_mul]; have e : 2 ^ 62 = 4611686018427387904 := by decide
                               omega)
  rw [Nat.one_mul] at h; exact h
theorem shr_nat (x k : Nat) (hk : k ≤ 64) : shr .i64 (x : Int) (k : Int) = ((x / 2 ^ k : Nat) : Int) := by
  unfold shr
  have e : min ((k : Int).toNat) (IntKind.bits .i64) = k := by simp [IntKind.bits]; omega
  rw [e]; simp
theorem tdiv_nat (a b : Nat) : Int.tdiv (a : Int) (b : Int) = ((a / b : Nat) : Int) := by
  rw [Int.tdiv_eq_ediv_of_nonneg (by omega)]; simp
theorem tmod_nat (a b : Nat) : Int.tmod (a : Int) (b : Int) = ((a % b : Nat) : Int) := by
  rw [Int.tmod_eq_emod_of_nonneg (by omega)]; simp

/-- What a loop comes to, from some number of rounds on: by what is left to do. -/
theorem evq {α : Type} {g : Nat → Option α} {r s : α} (e : r = s) (h : Ev g r) : Ev g s := e ▸ h
/-- A call whose answer needs no rounds. -/
theorem Ev.bind0 {α β : Type} {x : Option α} {f : Nat → α → Option β} {a : α} {r : β} (h : x = some a) (k : Ev (fun n => f n a) r) : Ev (fun n => x.bind (f n)) r := by
  subst h; exact k
theorem Ev.ite_pos {α : Type} {c : Prop} [Decidable c] {f g : Nat → Option α} {r : α} (h : c) (k : Ev f r) : Ev (fun n => if c then f n else g n) r := by
  simpa only [if_pos h] using k
theorem Ev.ite_neg {α : Type} {c : Prop} [Decidable c] {f g : Nat → Option α} {r : α} (h : ¬ c) (k : Ev g r) : Ev (fun n => if c then f n else g n) r := by
  simpa only [if_neg h] using k
theorem Ev.ofSome {α : Type} {r s : α} (h : r = s) : Ev (fun _ => some r) s := by subst h; exact Ev.now r
end Go.Proofs.Yteeegomdaebobaa.PA

-- ---- PAx0

namespace Go.Proofs.Yteeegomdaebobaa.PA
open Go.RowKit Go.Proofs.YteeegomdaebobaaW.PrintWords Go.Proofs.YteeegomdaebobaaW.PrintLast Go.Proofs.YteeegomdaebobaaW.PrintMore
attribute [local go_sem] max2_int min2_int max_two min_two max_three min_three max_four min_four   -- for this text's walks alone
set_option linter.unusedVariables false
set_option linter.unusedSimpArgs false



def errW : Option Int → Value
  | none => .nilIface
  | some c => .iface 0 (.int .i64 c)
theorem errW_none : errW none = .nilIface := rfl
theorem errW_some (c : Int) : errW (some c) = .iface 0 (.int .i64 c) := rfl

theorem info3 : (Try.prog.info? 3).map (fun i => (i.zero, i.size, i.bytes)) = some (some (.int .i64 0), 1, 8) := by kernel_rfl
theorem info5 : (Try.prog.info? 5).map (fun i => (i.zero, i.size, i.bytes)) = some (some (.int .u8 0), 1, 1) := by kernel_rfl
theorem info105 : (Try.prog.info? 105).map (fun i => (i.zero, i.size, i.bytes)) = some (some (.agg #[(.int .i64 0), (.int .i64 0), (.int .i64 0)]), 3, 24) := by kernel_rfl
-- the values' own types
/-! #### struct type 105 -/
structure S105 where
  f0 : Int
  f1 : Int
  f2 : Int
def k105 : Kd S105 := Kd.iso (Kd.pair (Kd.int .i64) (Kd.pair (Kd.int .i64) (Kd.int .i64))) (fun x : S105 => (x.f0, x.f1, x.f2))
theorem k105_openM {w : World} {base : Nat} {ok : Nat → Prop} {x : S105} {cs : List Value} (h : k105.M w base ok x cs) : cs = [.int .i64 x.f0, .int .i64 x.f1, .int .i64 x.f2] := by
  obtain ⟨_, _, rfl, rfl, ⟨_, _, rfl, rfl, rfl⟩⟩ := h
  exact rfl
theorem k105_mkM (w : World) (base : Nat) (ok : Nat → Prop) (x : S105)  : k105.M w base ok x [.int .i64 x.f0, .int .i64 x.f1, .int .i64 x.f2] := ⟨[.int .i64 x.f0], [.int .i64 x.f1, .int .i64 x.f2], rfl, rfl, ⟨[.int .i64 x.f1], [.int .i64 x.f2], rfl, rfl, rfl⟩⟩
/-! #### struct type 58 -/
structure S58 where
  f0 : Int
  f1 : Int
def z58 : S58 := ⟨(0 : Int), (0 : Int)⟩
def k58 : Kd S58 := Kd.iso (Kd.pair (Kd.int .i64) (Kd.int .u64)) (fun x : S58 => (x.f0, x.f1))
theorem k58_open {w : World} {x : S58} {cs : List Value} (h : k58.K w x cs) : cs = [.int .i64 x.f0, .int .u64 x.f1] := by
  obtain ⟨_, _, rfl, rfl, rfl⟩ := h
  exact rfl
theorem k58_mk (w : World) (x : S58)  : k58.K w x [.int .i64 x.f0, .int .u64 x.f1] := ⟨[.int .i64 x.f0], [.int .u64 x.f1], rfl, rfl, rfl⟩
theorem k58_mkM (w : World) (base : Nat) (ok : Nat → Prop) (x : S58)  : k58.M w base ok x [.int .i64 x.f0, .int .u64 x.f1] := ⟨[.int .i64 x.f0], [.int .u64 x.f1], rfl, rfl, rfl⟩
def rd_T58 (xs : List S58) (i : Int) : S58 := xs.getD i.toNat z58
theorem at_T58 {w : World} {A : Option Addr} {n : Nat} {xs : List S58} (h : Kd.C k58 w A n xs) (i : Int) (h0 : 0 ≤ i) (h1 : i < n) : ∃ ad , A = some ad ∧ w.cell? (ad.add (i.toNat * 2)) = some (.int .i64 (rd_T58 xs i).f0) ∧ w.cell? ⟨(ad.add (i.toNat * 2)).block, (ad.add (i.toNat * 2)).off + 1, none⟩ = some (.int .u64 (rd_T58 xs i).f1) := by
  obtain ⟨ad, c, e, _, hK, hc0⟩ := Kd.C_get h z58 i h0 h1
  have hc : ∀ j u, c[j]? = some u → w.cell? (ad.add (i.toNat * 2 + j)) = some u := hc0
  obtain rfl := k58_open hK
  exact ⟨ad, e, hc 0 _ rfl, by rw [← add_field _ _ 1 (by omega)]; exact hc 1 _ rfl⟩

end Go.Proofs.Yteeegomdaebobaa.PA

-- ---- PAx2

namespace Go.Proofs.Yteeegomdaebobaa.PA
open Go.RowKit Go.Proofs.YteeegomdaebobaaW.PrintWords Go.Proofs.YteeegomdaebobaaW.PrintLast Go.Proofs.YteeegomdaebobaaW.PrintMore
attribute [local go_sem] max2_int min2_int max_two min_two max_three min_three max_four min_four   -- for this text's walks alone
set_option linter.unusedVariables false
set_option linter.unusedSimpArgs false

/-! ### norm_mayLog: function 94 -/
def norm_mayLog.f (a0 : Int) : Option (Bool) := if a0 ≥ 7 then (some (decide (a0 ≤ 12))) else (some false)
set_option maxHeartbeats 8000000 in
set_option maxRecDepth 100000 in
theorem norm_mayLog.calls (a0 : Int) (r : Bool) (w : World) (h : norm_mayLog.f a0 = some r) :
    Calls Try.prog 94 #[.int .i64 a0] w fun e w' => e = .returned (.bool r) ∧ Drawn0 w w' := by
  have H : (if a0 ≥ 7 then (some (decide (a0 ≤ 12))) else (some false)) = some r := h
  clear h
  by_cases c2 : a0 ≥ 7
  · rw [if_pos c2] at H
    have c2b0 : decide (7 ≤ a0) = true := decide_eq_true c2
    clear c2
    obtain rfl := Option.some.inj H
    go_enter Try.func94, Try.ntmps94
    go_wp2
    go_ret
    exact ⟨by first | rfl | (simp; done) | (simp [*]; done), by repeat (first | exact Drawn0.refl _ | apply Drawn0.step)⟩
  · rw [if_neg c2] at H
    have c2b0 : decide (7 ≤ a0) = false := decide_eq_false c2
    clear c2
    obtain rfl := Option.some.inj H
    go_enter Try.func94, Try.ntmps94
    go_wp2
    go_ret
    exact ⟨by first | rfl | (simp; done) | (simp [*]; done), by repeat (first | exact Drawn0.refl _ | apply Drawn0.step)⟩

end Go.Proofs.Yteeegomdaebobaa.PA

-- ---- PAx3

namespace Go.Proofs.Yteeegomdaebobaa.PA
open Go.RowKit Go.Proofs.YteeegomdaebobaaW.PrintWords Go.Proofs.YteeegomdaebobaaW.PrintLast Go.Proofs.YteeegomdaebobaaW.PrintMore
attribute [local go_sem] max2_int min2_int max_two min_two max_three min_three max_four min_four   -- for this text's walks alone
set_option linter.unusedVariables false
set_option linter.unusedSimpArgs false

/-! ### norm_May: function 83 -/
mutual
def norm_May.j0 : Nat → List Int → Int → Bool → Option (Bool)
  | 0, _, _, _ => none
  | k + 1, x0, x1, x16 => if x16 = true then (some false) else (if 0 ≤ x1 then (norm_May.l0 k (shl .i64 1 x1) 0 x0 (x0.length : Int) 0) else (none))
def norm_May.l0 : Nat → Int → Int → List Int → Int → Int → Option (Bool)
  | 0, _, _, _, _, _ => none
  | k + 1, x5, x6, x19, x20, x21 => if x21 < x20 then (if 0 ≤ x21 then (if x21 < (x19.length : Int) then (if (rd x19 x21) < 0 then (some false) else (if (rd x19 x21) > x5 then (some false) else (norm_May.l0 k x5 (wrap64 (x6 + (rd x19 x21))) x19 x20 (wrap64 (x21 + 1))))) else (none)) else (none)) else (some (x6 == x5))
end
def norm_May.f (k : Nat) (l0 : List Int) (a1 : Int) : Option (Bool) := (norm_mayLog.f a1).bind fun t101 => (if t101 = true then (norm_May.j0 k l0 a1 ((l0.length : Int) != 65)) else (norm_May.j0 k l0 a1 true))
theorem norm_May.mono_l : ∀ k, (∀ y0 y1 y2, LeO (norm_May.j0 k y0 y1 y2) (norm_May.j0 (k + 1) y0 y1 y2)) ∧ (∀ y0 y1 y2 y3 y4, LeO (norm_May.l0 k y0 y1 y2 y3 y4) (norm_May.l0 (k + 1) y0 y1 y2 y3 y4))
  | 0 => ⟨fun _ _ _ r h => by simp [norm_May.j0] at h, fun _ _ _ _ _ r h => by simp [norm_May.l0] at h⟩
  | k + 1 => by
    obtain ⟨ih0, ih1⟩ := norm_May.mono_l k
    refine ⟨?_, ?_⟩
    · intro y0 y1 y2
      unfold norm_May.j0
      repeat' first
      | (with_reducible exact ih0 _ _ _)
      | (with_reducible exact ih1 _ _ _ _ _)
      | (with_reducible exact LeO.refl _)
      | (with_reducible exact LeO.none _)
      | (with_reducible refine LeO.ite ?_ ?_)
      | (with_reducible refine LeO.bind ?_ (fun _ => ?_))
      | exact ih0 _ _ _
      | exact ih1 _ _ _ _ _
      | exact LeO.none _
      | refine LeO.ite ?_ ?_
      | refine LeO.bind ?_ (fun _ => ?_)
    · intro y0 y1 y2 y3 y4
      unfold norm_May.l0
      repeat' first
      | (with_reducible exact ih0 _ _ _)
      | (with_reducible exact ih1 _ _ _ _ _)
      | (with_reducible exact LeO.refl _)
      | (with_reducible exact LeO.none _)
      | (with_reducible refine LeO.ite ?_ ?_)
      | (with_reducible refine LeO.bind ?_ (fun _ => ?_))
      | exact ih0 _ _ _
      | exact ih1 _ _ _ _ _
      | exact LeO.none _
      | refine LeO.ite ?_ ?_
      | refine LeO.bind ?_ (fun _ => ?_)
theorem norm_May.mono : ∀ a0 a1 k, LeO (norm_May.f k a0 a1) (norm_May.f (k + 1) a0 a1) := by
  intro a0 a1 k
  obtain ⟨ih0, ih1⟩ := norm_May.mono_l k
  unfold norm_May.f
  repeat' first
      | (with_reducible exact ih0 _ _ _)
      | (with_reducible exact ih1 _ _ _ _ _)
      | (with_reducible exact LeO.refl _)
      | (with_reducible exact LeO.none _)
      | (with_reducible refine LeO.ite ?_ ?_)
      | (with_reducible refine LeO.bind ?_ (fun _ => ?_))
      | exact ih0 _ _ _
      | exact ih1 _ _ _ _ _
      | exact LeO.none _
      | refine LeO.ite ?_ ?_
      | refine LeO.bind ?_ (fun _ => ?_)
set_option maxHeartbeats 8000000 in
set_option maxRecDepth 100000 in
theorem norm_May.calls (k : Nat) (A0 : Option Addr) (c0 : Nat) (l0 : List Int) (a1 : Int) (r : Bool) (w : World) (hr0 : Kd.C (Kd.int .i64) w A0 l0.length l0) (hc0 : l0.length ≤ c0) (h : norm_May.f k l0 a1 = some r) :
    Calls Try.prog 83 #[.slice A0 l0.length c0, .int .i64 a1] w fun e w' => e = .returned (.bool r) ∧ Drawn0 w w' := by
  have HR0 := Aside0.mk hr0
  have HC0 := Aside0.mk hc0
  clear hr0 hc0
  have H : ((norm_mayLog.f a1).bind fun t101 => (if t101 = true then (norm_May.j0 k l0 a1 ((l0.length : Int) != 65)) else (norm_May.j0 k l0 a1 true))) = some r := h
  clear h
  have HC3 := Aside0.mk H
  clear H
  go_enter Try.func83, Try.ntmps83
  go_upto_region 1 with (fail)
  go_cut [16] (fun v16 wc => ∃ (kq : Nat) (x16_2 : Bool), v16 = .bool x16_2 ∧ Aside0 (norm_May.j0 kq l0 a1 x16_2 = some r) ∧ Aside0 (kq ≤ k) ∧ Drawn0 w wc)
  case first =>
    have H := HC3.out
    clear HC3
    replace H := Option.bind_eq_some_iff.mp H
    obtain ⟨t101, A40, H⟩ := H
    replace H : (if t101 = true then (norm_May.j0 k l0 a1 ((l0.length : Int) != 65)) else (norm_May.j0 k l0 a1 true)) = some r := H
    have A4 := Aside0.mk A40
    clear A40
    by_cases c5 : t101 = true
    · subst c5
      have H1 : (norm_May.j0 k l0 a1 ((l0.length : Int) != 65)) = some r := by rw [if_pos rfl] at H; exact H
      clear H
      have H := H1
      clear H1
      have H' := Aside0.mk H
      clear H
      go_wp2_with (first | ((with_reducible refine gate_callee (f := 94) rfl ?_); refine goesL_ (some 10) rfl rfl Try.func94 (by kernel_rfl) rfl #[.int .i64 a1] rfl (by (try simp only [List.map_toArray, List.map_cons, List.map_nil]); first | done | rfl | (simp only [List.length_drop, List.length_take]; rfl)) ?_; (with_reducible refine (norm_mayLog.calls a1 true _ A4.out).mono ?_); rintro e w' ⟨rfl, ⟨nd, rfl⟩⟩; refine ⟨_, rfl, ?_⟩))
      go_meet
      case rel => exact ⟨_, (((l0.length : Int) != 65)), (by first | rfl | (simp; done) | (simp [*]; done)), H', ⟨by first | omega | exact Nat.le_refl _⟩, by repeat (first | exact Drawn0.refl _ | apply Drawn0.step)⟩
    · replace c5 := Bool.eq_false_iff.mpr c5
      subst c5
      have H1 : (norm_May.j0 k l0 a1 true) = some r := by rw [if_neg (show ¬ (false = true) by decide)] at H; exact H
      clear H
      have H := H1
      clear H1
      have H' := Aside0.mk H
      clear H
      go_wp2_with (first | ((with_reducible refine gate_callee (f := 94) rfl ?_); refine goesL_ (some 10) rfl rfl Try.func94 (by kernel_rfl) rfl #[.int .i64 a1] rfl (by (try simp only [List.map_toArray, List.map_cons, List.map_nil]); first | done | rfl | (simp only [List.length_drop, List.length_take]; rfl)) ?_; (with_reducible refine (norm_mayLog.calls a1 false _ A4.out).mono ?_); rintro e w' ⟨rfl, ⟨nd, rfl⟩⟩; refine ⟨_, rfl, ?_⟩))
      go_meet
      case rel => exact ⟨_, (true), (by first | rfl | (simp; done) | (simp [*]; done)), H', ⟨by first | omega | exact Nat.le_refl _⟩, by repeat (first | exact Drawn0.refl _ | apply Drawn0.step)⟩
  case rest =>
    clear HC3
    try clear p2
    try clear c5
    obtain ⟨kq, x16_2, rfl, HA, HJ2, ⟨mc2, rfl⟩⟩ := hcut
    cases kq with
    | zero => exact absurd HA.out (by simp [norm_May.j0])
    | succ kj2 =>
      have H := HA.out
      clear HA
      simp only [norm_May.j0] at H
      by_cases c6 : x16_2 = true
      · subst c6
        have H1 : (some false) = some r := by rw [if_pos rfl] at H; exact H
        clear H
        have H := H1
        clear H1
        obtain rfl := Option.some.inj H
        go_wp2
        go_ret
        exact ⟨by first | rfl | (simp; done) | (simp [*]; done), by repeat (first | exact Drawn0.refl _ | apply Drawn0.step)⟩
      · replace c6 := Bool.eq_false_iff.mpr c6
        subst c6
        have H1 : (if 0 ≤ a1 then (norm_May.l0 kj2 (shl .i64 1 a1) 0 l0 (l0.length : Int) 0) else (none)) = some r := by rw [if_neg (show ¬ (false = true) by decide)] at H; exact H
        clear H
        have H := H1
        clear H1
        by_cases c7 : 0 ≤ a1
        · rw [if_pos c7] at H
          have c7b0 := eq_true c7
          have c7b1 : decide (0 ≤ a1) = true := decide_eq_true c7
          clear c7
          obtain ⟨ji8, hji8⟩ : ∃ j_ : Int, (shl .i64 1 a1) = j_ := ⟨_, rfl⟩
          replace H : (norm_May.l0 kj2 ji8 0 l0 (l0.length : Int) 0) = some r := by first | (rw [hji8] at H; exact H) | (simp only [hji8] at H ⊢; exact H)
          have hji8_ : (IntKind.i64.wrap (1 * 2 ^ min a1.toNat 64)) = ji8 := hji8
          have hji8z : a1 ≤ 64 → (IntKind.i64.wrap (1 * 2 ^ a1.toNat)) = ji8 := shl_small hji8
          have hji8u : (IntKind.i64.wrap (2 ^ min a1.toNat 64)) = ji8 := by have h_ := hji8_; rw [Int.one_mul] at h_; exact h_
          have hji8v : a1 ≤ 64 → (IntKind.i64.wrap (2 ^ a1.toNat)) = ji8 := fun hle_ => by have h_ := hji8z hle_; rw [Int.one_mul] at h_; exact h_
          have hji8y : (wrap64 (1 * 2 ^ min a1.toNat 64)) = ji8 := (i64_w _).symm.trans hji8_
          have hji8x : a1 ≤ 64 → (wrap64 (1 * 2 ^ a1.toNat)) = ji8 := fun h_ => (i64_w _).symm.trans (hji8z h_)
          have H' := Aside0.mk H
          clear H
          go_wp2
          go_loopg [6, 21] kj2 (fun kq v6 v21 w' => ∃ (x6_2 : Int) (x21_2 : Int), v6 = .int .i64 x6_2 ∧ v21 = .int .i64 x21_2 ∧ Aside0 (norm_May.l0 kq ji8 x6_2 l0 (l0.length : Int) x21_2 = some r) ∧ Aside0 (kq ≤ kj2) ∧ Drawn0 w w')
          case atStart => exact ⟨(0), (0), (by first | rfl | (simp; done) | (simp [*]; done)), (by first | rfl | (simp; done) | (simp [*]; done)), H', ⟨Nat.le_refl _⟩, by repeat (first | exact Drawn0.refl _ | apply Drawn0.step)⟩
          case round =>
            clear H'
            try clear c2
            try clear p2
            try clear c5
            try clear c6
            try clear p6
            try clear c7
            try clear c7b0
            try clear c7b1
            try clear c8
            try clear p2
            obtain ⟨x6_2, x21_2, rfl, rfl, HA, HK2, ⟨m2, rfl⟩⟩ := hrel
            cases gk with
            | zero => exact absurd HA.out (by simp [norm_May.l0])
            | succ k2 =>
              have H := HA.out
              clear HA
              simp only [norm_May.l0] at H
              by_cases c9 : x21_2 < (l0.length : Int)
              · rw [if_pos c9] at H
                have c9b0 : decide (x21_2 < (l0.length : Int)) = true := decide_eq_true c9
                clear c9
                by_cases c10 : 0 ≤ x21_2
                · rw [if_pos c10] at H
                  have c10b0 : decide (0 ≤ x21_2) = true := decide_eq_true c10
                  clear c10
                  by_cases c11 : x21_2 < (l0.length : Int)
                  · rw [if_pos c11] at H
                    have c11b0 : decide (x21_2 < (l0.length : Int)) = true := decide_eq_true c11
                    clear c11
                    by_cases c12 : (rd l0 x21_2) < 0
                    · rw [if_pos c12] at H
                      have c12b0 : decide ((rd l0 x21_2) < 0) = true := decide_eq_true c12
                      clear c12
                      obtain rfl := Option.some.inj H
                      have p102 : 0 ≤ (x21_2 : Int) := of_decide_eq_true (by first | (with_reducible assumption) | assumption)
                      have q102 : x21_2 < (l0.length : Int) := of_decide_eq_true (by first | (with_reducible assumption) | assumption)
                      obtain ⟨ad102, e102, hx102_0⟩ := Kd.at_int HR0.out x21_2 p102 q102
                      cases e102
                      replace p102 := eq_true p102
                      replace q102 := eq_true q102
                      go_wp2
                      go_ret
                      exact ⟨by first | rfl | (simp; done) | (simp only [← hji8] <;> (first | rfl | simp)) | (simp [*]; done), by repeat (first | exact Drawn0.refl _ | apply Drawn0.step)⟩
                    · rw [if_neg c12] at H
                      have c12b0 : decide ((rd l0 x21_2) < 0) = false := decide_eq_false c12
                      clear c12
                      by_cases c13 : (rd l0 x21_2) > ji8
                      · rw [if_pos c13] at H
                        have c13b0 : decide (ji8 < (rd l0 x21_2)) = true := decide_eq_true c13
                        clear c13
                        obtain rfl := Option.some.inj H
                        have p102 : 0 ≤ (x21_2 : Int) := of_decide_eq_true (by first | (with_reducible assumption) | assumption)
                        have q102 : x21_2 < (l0.length : Int) := of_decide_eq_true (by first | (with_reducible assumption) | assumption)
                        obtain ⟨ad102, e102, hx102_0⟩ := Kd.at_int HR0.out x21_2 p102 q102
                        cases e102
                        replace p102 := eq_true p102
                        replace q102 := eq_true q102
                        go_wp2
                        go_ret
                        exact ⟨by first | rfl | (simp; done) | (simp only [← hji8] <;> (first | rfl | simp)) | (simp [*]; done), by repeat (first | exact Drawn0.refl _ | apply Drawn0.step)⟩
                      · rw [if_neg c13] at H
                        have c13b0 : decide (ji8 < (rd l0 x21_2)) = false := decide_eq_false c13
                        clear c13
                        have H' := Aside0.mk H
                        clear H
                        have p102 : 0 ≤ (x21_2 : Int) := of_decide_eq_true (by first | (with_reducible assumption) | assumption)
                        have q102 : x21_2 < (l0.length : Int) := of_decide_eq_true (by first | (with_reducible assumption) | assumption)
                        obtain ⟨ad102, e102, hx102_0⟩ := Kd.at_int HR0.out x21_2 p102 q102
                        cases e102
                        replace p102 := eq_true p102
                        replace q102 := eq_true q102
                        go_wp2
                        go_roundg k2
                        case measure => have := HJ2.out; have := HK2.out; omega
                        case rel => exact ⟨(wrap64 (x6_2 + (rd l0 x21_2))), (wrap64 (x21_2 + 1)), (by first | rfl | (simp; done) | (simp [*]; done)), (by first | rfl | (simp; done) | (simp [*]; done)), H', ⟨by have := HJ2.out; have := HK2.out; omega⟩, by repeat (first | exact Drawn0.refl _ | apply Drawn0.step)⟩
                  · rw [if_neg c11] at H
                    exact absurd H (by simp)
                · rw [if_neg c10] at H
                  exact absurd H (by simp)
              · rw [if_neg c9] at H
                have c9b0 : decide (x21_2 < (l0.length : Int)) = false := decide_eq_false c9
                clear c9
                obtain rfl := Option.some.inj H
                go_wp2
                go_ret
                exact ⟨by first | rfl | (simp; done) | (simp only [← hji8] <;> (first | rfl | simp)) | (simp [*]; done), by repeat (first | exact Drawn0.refl _ | apply Drawn0.step)⟩
        · rw [if_neg c7] at H
          exact absurd H (by simp)

end Go.Proofs.Yteeegomdaebobaa.PA

-- ---- PAx51

namespace Go.Proofs.Yteeegomdaebobaa.PA
open Go.RowKit Go.Proofs.YteeegomdaebobaaW.PrintWords Go.Proofs.YteeegomdaebobaaW.PrintLast Go.Proofs.YteeegomdaebobaaW.PrintMore
attribute [local go_sem] max2_int min2_int max_two min_two max_three min_three max_four min_four   -- for this text's walks alone
set_option linter.unusedVariables false
set_option linter.unusedSimpArgs false

/-! ### wringerref7_isLog: function 24 -/
def wringerref7_isLog.f (a0 : Int) : Option (Bool) := if a0 ≥ 7 then (some (decide (a0 ≤ 12))) else (some false)
set_option maxHeartbeats 8000000 in
set_option maxRecDepth 100000 in
theorem wringerref7_isLog.calls (a0 : Int) (r : Bool) (w : World) (h : wringerref7_isLog.f a0 = some r) :
    Calls Try.prog 24 #[.int .i64 a0] w fun e w' => e = .returned (.bool r) ∧ Drawn0 w w' := by
  have H : (if a0 ≥ 7 then (some (decide (a0 ≤ 12))) else (some false)) = some r := h
  clear h
  by_cases c2 : a0 ≥ 7
  · rw [if_pos c2] at H
    have c2b0 : decide (7 ≤ a0) = true := decide_eq_true c2
    clear c2
    obtain rfl := Option.some.inj H
    go_enter Try.func24, Try.ntmps24
    go_wp2
    go_ret
    exact ⟨by first | rfl | (simp; done) | (simp [*]; done), by repeat (first | exact Drawn0.refl _ | apply Drawn0.step)⟩
  · rw [if_neg c2] at H
    have c2b0 : decide (7 ≤ a0) = false := decide_eq_false c2
    clear c2
    obtain rfl := Option.some.inj H
    go_enter Try.func24, Try.ntmps24
    go_wp2
    go_ret
    exact ⟨by first | rfl | (simp; done) | (simp [*]; done), by repeat (first | exact Drawn0.refl _ | apply Drawn0.step)⟩

end Go.Proofs.Yteeegomdaebobaa.PA

-- ---- PAx52

namespace Go.Proofs.Yteeegomdaebobaa.PA
open Go.RowKit Go.Proofs.YteeegomdaebobaaW.PrintWords Go.Proofs.YteeegomdaebobaaW.PrintLast Go.Proofs.YteeegomdaebobaaW.PrintMore
attribute [local go_sem] max2_int min2_int max_two min_two max_three min_three max_four min_four   -- for this text's walks alone
set_option linter.unusedVariables false
set_option linter.unusedSimpArgs false

/-! ### wringerref7_MayNorm: function 82 -/
mutual
def wringerref7_MayNorm.j0 : Nat → List Int → Int → Bool → Option (Bool)
  | 0, _, _, _ => none
  | k + 1, x0, x1, x14 => if x14 = true then (some false) else (wringerref7_MayNorm.l0 k x0 x1 0 0)
def wringerref7_MayNorm.l0 : Nat → List Int → Int → Int → Int → Option (Bool)
  | 0, _, _, _, _ => none
  | k + 1, x0, x1, x5, x6 => if x6 < (x0.length : Int) then (if 0 ≤ x6 then (if (rd x0 x6) < 0 then (some false) else (if 0 ≤ x1 then (if (rd x0 x6) > (shl .i64 1 x1) then (some false) else (wringerref7_MayNorm.l0 k x0 x1 (wrap64 (x5 + (rd x0 x6))) (wrap64 (x6 + 1)))) else (none))) else (none)) else (if 0 ≤ x1 then (some (x5 == (shl .i64 1 x1))) else (none))
end
def wringerref7_MayNorm.f (k : Nat) (l0 : List Int) (a1 : Int) : Option (Bool) := (wringerref7_isLog.f a1).bind fun t162 => (if t162 = true then (wringerref7_MayNorm.j0 k l0 a1 ((l0.length : Int) != 65)) else (wringerref7_MayNorm.j0 k l0 a1 true))
theorem wringerref7_MayNorm.mono_l : ∀ k, (∀ y0 y1 y2, LeO (wringerref7_MayNorm.j0 k y0 y1 y2) (wringerref7_MayNorm.j0 (k + 1) y0 y1 y2)) ∧ (∀ y0 y1 y2 y3, LeO (wringerref7_MayNorm.l0 k y0 y1 y2 y3) (wringerref7_MayNorm.l0 (k + 1) y0 y1 y2 y3))
  | 0 => ⟨fun _ _ _ r h => by simp [wringerref7_MayNorm.j0] at h, fun _ _ _ _ r h => by simp [wringerref7_MayNorm.l0] at h⟩
  | k + 1 => by
    obtain ⟨ih0, ih1⟩ := wringerref7_MayNorm.mono_l k
    refine ⟨?_, ?_⟩
    · intro y0 y1 y2
      unfold wringerref7_MayNorm.j0
      repeat' first
      | (with_reducible exact ih0 _ _ _)
      | (with_reducible exact ih1 _ _ _ _)
      | (with_reducible exact LeO.refl _)
      | (with_reducible exact LeO.none _)
      | (with_reducible refine LeO.ite ?_ ?_)
      | (with_reducible refine LeO.bind ?_ (fun _ => ?_))
      | exact ih0 _ _ _
      | exact ih1 _ _ _ _
      | exact LeO.none _
      | refine LeO.ite ?_ ?_
      | refine LeO.bind ?_ (fun _ => ?_)
    · intro y0 y1 y2 y3
      unfold wringerref7_MayNorm.l0
      repeat' first
      | (with_reducible exact ih0 _ _ _)
      | (with_reducible exact ih1 _ _ _ _)
      | (with_reducible exact LeO.refl _)
      | (with_reducible exact LeO.none _)
      | (with_reducible refine LeO.ite ?_ ?_)
      | (with_reducible refine LeO.bind ?_ (fun _ => ?_))
      | exact ih0 _ _ _
      | exact ih1 _ _ _ _
      | exact LeO.none _
      | refine LeO.ite ?_ ?_
      | refine LeO.bind ?_ (fun _ => ?_)
theorem wringerref7_MayNorm.mono : ∀ a0 a1 k, LeO (wringerref7_MayNorm.f k a0 a1) (wringerref7_MayNorm.f (k + 1) a0 a1) := by
  intro a0 a1 k
  obtain ⟨ih0, ih1⟩ := wringerref7_MayNorm.mono_l k
  unfold wringerref7_MayNorm.f
  repeat' first
      | (with_reducible exact ih0 _ _ _)
      | (with_reducible exact ih1 _ _ _ _)
      | (with_reducible exact LeO.refl _)
      | (with_reducible exact LeO.none _)
      | (with_reducible refine LeO.ite ?_ ?_)
      | (with_reducible refine LeO.bind ?_ (fun _ => ?_))
      | exact ih0 _ _ _
      | exact ih1 _ _ _ _
      | exact LeO.none _
      | refine LeO.ite ?_ ?_
      | refine LeO.bind ?_ (fun _ => ?_)
set_option maxHeartbeats 8000000 in
set_option maxRecDepth 100000 in
theorem wringerref7_MayNorm.calls (k : Nat) (A0 : Option Addr) (c0 : Nat) (l0 : List Int) (a1 : Int) (r : Bool) (w : World) (hr0 : Kd.C (Kd.int .i64) w A0 l0.length l0) (hc0 : l0.length ≤ c0) (h : wringerref7_MayNorm.f k l0 a1 = some r) :
    Calls Try.prog 82 #[.slice A0 l0.length c0, .int .i64 a1] w fun e w' => e = .returned (.bool r) ∧ Drawn0 w w' := by
  have HR0 := Aside0.mk hr0
  have HC0 := Aside0.mk hc0
  clear hr0 hc0
  have H : ((wringerref7_isLog.f a1).bind fun t162 => (if t162 = true then (wringerref7_MayNorm.j0 k l0 a1 ((l0.length : Int) != 65)) else (wringerref7_MayNorm.j0 k l0 a1 true))) = some r := h
  clear h
  have HC3 := Aside0.mk H
  clear H
  go_enter Try.func82, Try.ntmps82
  go_upto_region 1 with (fail)
  repeat (go_quiet (fail); go_upto_region 1 with (fail))
  go_cut [14] (fun v14 wc => ∃ (kq : Nat) (x14_2 : Bool), v14 = .bool x14_2 ∧ Aside0 (wringerref7_MayNorm.j0 kq l0 a1 x14_2 = some r) ∧ Aside0 (kq ≤ k) ∧ Drawn0 w wc)
  case first =>
    have H := HC3.out
    clear HC3
    replace H := Option.bind_eq_some_iff.mp H
    obtain ⟨t162, A40, H⟩ := H
    replace H : (if t162 = true then (wringerref7_MayNorm.j0 k l0 a1 ((l0.length : Int) != 65)) else (wringerref7_MayNorm.j0 k l0 a1 true)) = some r := H
    have A4 := Aside0.mk A40
    clear A40
    by_cases c5 : t162 = true
    · subst c5
      have H1 : (wringerref7_MayNorm.j0 k l0 a1 ((l0.length : Int) != 65)) = some r := by rw [if_pos rfl] at H; exact H
      clear H
      have H := H1
      clear H1
      have H' := Aside0.mk H
      clear H
      go_wp2_with (first | (go_at_call 24; (with_reducible refine (wringerref7_isLog.calls a1 true _ A4.out).mono ?_); rintro e w' ⟨rfl, ⟨nd, rfl⟩⟩; (try first | exact ⟨rfl, _, World.drewN_drewN _ _ _⟩ | exact ⟨rfl, _, Eq.trans (World.drewN_drewN _ _ _) (congrArg (World.drewN _) (Nat.add_assoc _ _ _))⟩)))
      repeat (go_quiet (first | (go_at_call 24; (with_reducible refine (wringerref7_isLog.calls a1 true _ A4.out).mono ?_); rintro e w' ⟨rfl, ⟨nd, rfl⟩⟩; (try first | exact ⟨rfl, _, World.drewN_drewN _ _ _⟩ | exact ⟨rfl, _, Eq.trans (World.drewN_drewN _ _ _) (congrArg (World.drewN _) (Nat.add_assoc _ _ _))⟩))); try go_wp2_with (first | (go_at_call 24; (with_reducible refine (wringerref7_isLog.calls a1 true _ A4.out).mono ?_); rintro e w' ⟨rfl, ⟨nd, rfl⟩⟩; (try first | exact ⟨rfl, _, World.drewN_drewN _ _ _⟩ | exact ⟨rfl, _, Eq.trans (World.drewN_drewN _ _ _) (congrArg (World.drewN _) (Nat.add_assoc _ _ _))⟩))))
      go_meet
      case rel => exact ⟨_, (((l0.length : Int) != 65)), (by first | rfl | (simp; done) | (simp [*]; done)), H', ⟨by first | omega | exact Nat.le_refl _⟩, by repeat (first | exact Drawn0.refl _ | apply Drawn0.step)⟩
    · replace c5 := Bool.eq_false_iff.mpr c5
      subst c5
      have H1 : (wringerref7_MayNorm.j0 k l0 a1 true) = some r := by rw [if_neg (show ¬ (false = true) by decide)] at H; exact H
      clear H
      have H := H1
      clear H1
      have H' := Aside0.mk H
      clear H
      go_wp2_with (first | (go_at_call 24; (with_reducible refine (wringerref7_isLog.calls a1 false _ A4.out).mono ?_); rintro e w' ⟨rfl, ⟨nd, rfl⟩⟩; (try first | exact ⟨rfl, _, World.drewN_drewN _ _ _⟩ | exact ⟨rfl, _, Eq.trans (World.drewN_drewN _ _ _) (congrArg (World.drewN _) (Nat.add_assoc _ _ _))⟩)))
      repeat (go_quiet (first | (go_at_call 24; (with_reducible refine (wringerref7_isLog.calls a1 false _ A4.out).mono ?_); rintro e w' ⟨rfl, ⟨nd, rfl⟩⟩; (try first | exact ⟨rfl, _, World.drewN_drewN _ _ _⟩ | exact ⟨rfl, _, Eq.trans (World.drewN_drewN _ _ _) (congrArg (World.drewN _) (Nat.add_assoc _ _ _))⟩))); try go_wp2_with (first | (go_at_call 24; (with_reducible refine (wringerref7_isLog.calls a1 false _ A4.out).mono ?_); rintro e w' ⟨rfl, ⟨nd, rfl⟩⟩; (try first | exact ⟨rfl, _, World.drewN_drewN _ _ _⟩ | exact ⟨rfl, _, Eq.trans (World.drewN_drewN _ _ _) (congrArg (World.drewN _) (Nat.add_assoc _ _ _))⟩))))
      go_meet
      case rel => exact ⟨_, (true), (by first | rfl | (simp; done) | (simp [*]; done)), H', ⟨by first | omega | exact Nat.le_refl _⟩, by repeat (first | exact Drawn0.refl _ | apply Drawn0.step)⟩
  case rest =>
    clear HC3
    try clear p2
    try clear c5
    obtain ⟨kq, x14_2, rfl, HA, HJ2, ⟨mc2, rfl⟩⟩ := hcut
    cases kq with
    | zero => exact absurd HA.out (by simp [wringerref7_MayNorm.j0])
    | succ kj2 =>
      have H := HA.out
      clear HA
      simp only [wringerref7_MayNorm.j0] at H
      by_cases c6 : x14_2 = true
      · subst c6
        have H1 : (some false) = some r := by rw [if_pos rfl] at H; exact H
        clear H
        have H := H1
        clear H1
        obtain rfl := Option.some.inj H
        go_wp2
        repeat (go_quiet (fail); try go_wp2)
        go_ret
        exact ⟨by first | rfl | (simp; done) | (simp [*]; done), by repeat (first | exact Drawn0.refl _ | apply Drawn0.step)⟩
      · replace c6 := Bool.eq_false_iff.mpr c6
        subst c6
        have H1 : (wringerref7_MayNorm.l0 kj2 l0 a1 0 0) = some r := by rw [if_neg (show ¬ (false = true) by decide)] at H; exact H
        clear H
        have H := H1
        clear H1
        have H' := Aside0.mk H
        clear H
        go_wp2
        repeat (go_quiet (fail); try go_wp2)
        go_loopg [5, 6] kj2 (fun kq v5 v6 w' => ∃ (x5_2 : Int) (x6_2 : Int), v5 = .int .i64 x5_2 ∧ v6 = .int .i64 x6_2 ∧ Aside0 (wringerref7_MayNorm.l0 kq l0 a1 x5_2 x6_2 = some r) ∧ Aside0 (kq ≤ kj2) ∧ Drawn0 w w')
        case atStart => exact ⟨(0), (0), (by first | rfl | (simp; done) | (simp [*]; done)), (by first | rfl | (simp; done) | (simp [*]; done)), H', ⟨Nat.le_refl _⟩, by repeat (first | exact Drawn0.refl _ | apply Drawn0.step)⟩
        case round =>
          clear H'
          try clear c2
          try clear p2
          try clear c5
          try clear c6
          try clear p2
          obtain ⟨x5_2, x6_2, rfl, rfl, HA, HK2, ⟨m2, rfl⟩⟩ := hrel
          cases gk with
          | zero => exact absurd HA.out (by simp [wringerref7_MayNorm.l0])
          | succ k2 =>
            have H := HA.out
            clear HA
            simp only [wringerref7_MayNorm.l0] at H
            by_cases c7 : x6_2 < (l0.length : Int)
            · rw [if_pos c7] at H
              have c7b0 : decide (x6_2 < (l0.length : Int)) = true := decide_eq_true c7
              clear c7
              by_cases c8 : 0 ≤ x6_2
              · rw [if_pos c8] at H
                have c8b0 : decide (0 ≤ x6_2) = true := decide_eq_true c8
                clear c8
                by_cases c9 : (rd l0 x6_2) < 0
                · rw [if_pos c9] at H
                  have c9b0 : decide ((rd l0 x6_2) < 0) = true := decide_eq_true c9
                  clear c9
                  obtain rfl := Option.some.inj H
                  have p163 : 0 ≤ (x6_2 : Int) := of_decide_eq_true (by first | (with_reducible assumption) | assumption)
                  have q163 : x6_2 < (l0.length : Int) := of_decide_eq_true (by first | (with_reducible assumption) | assumption)
                  obtain ⟨ad163, e163, hx163_0⟩ := Kd.at_int HR0.out x6_2 p163 q163
                  cases e163
                  replace p163 := eq_true p163
                  replace q163 := eq_true q163
                  go_wp2
                  repeat (go_quiet (fail); try go_wp2)
                  go_ret
                  exact ⟨by first | rfl | (simp; done) | (simp [*]; done), by repeat (first | exact Drawn0.refl _ | apply Drawn0.step)⟩
                · rw [if_neg c9] at H
                  have c9b0 : decide ((rd l0 x6_2) < 0) = false := decide_eq_false c9
                  clear c9
                  by_cases c10 : 0 ≤ a1
                  · rw [if_pos c10] at H
                    have c10b0 := eq_true c10
                    have c10b1 : decide (0 ≤ a1) = true := decide_eq_true c10
                    clear c10
                    obtain ⟨ji11, hji11⟩ : ∃ j_ : Int, (shl .i64 1 a1) = j_ := ⟨_, rfl⟩
                    replace H : (if (rd l0 x6_2) > (ji11) then (some false) else (wringerref7_MayNorm.l0 k2 l0 a1 (wrap64 (x5_2 + (rd l0 x6_2))) (wrap64 (x6_2 + 1)))) = some r := by first | (rw [hji11] at H; exact H) | (simp only [hji11] at H ⊢; exact H)
                    have hji11_ : (IntKind.i64.wrap (1 * 2 ^ min a1.toNat 64)) = ji11 := hji11
                    have hji11z : a1 ≤ 64 → (IntKind.i64.wrap (1 * 2 ^ a1.toNat)) = ji11 := shl_small hji11
                    have hji11u : (IntKind.i64.wrap (2 ^ min a1.toNat 64)) = ji11 := by have h_ := hji11_; rw [Int.one_mul] at h_; exact h_
                    have hji11v : a1 ≤ 64 → (IntKind.i64.wrap (2 ^ a1.toNat)) = ji11 := fun hle_ => by have h_ := hji11z hle_; rw [Int.one_mul] at h_; exact h_
                    have hji11y : (wrap64 (1 * 2 ^ min a1.toNat 64)) = ji11 := (i64_w _).symm.trans hji11_
                    have hji11x : a1 ≤ 64 → (wrap64 (1 * 2 ^ a1.toNat)) = ji11 := fun h_ => (i64_w _).symm.trans (hji11z h_)
                    by_cases c12 : (rd l0 x6_2) > (ji11)
                    · rw [if_pos c12] at H
                      have c12b0 : decide ((ji11) < (rd l0 x6_2)) = true := decide_eq_true c12
                      clear c12
                      obtain rfl := Option.some.inj H
                      have p163 : 0 ≤ (x6_2 : Int) := of_decide_eq_true (by first | (with_reducible assumption) | assumption)
                      have q163 : x6_2 < (l0.length : Int) := of_decide_eq_true (by first | (with_reducible assumption) | assumption)
                      obtain ⟨ad163, e163, hx163_0⟩ := Kd.at_int HR0.out x6_2 p163 q163
                      cases e163
                      replace p163 := eq_true p163
                      replace q163 := eq_true q163
                      have p164 : 0 ≤ (x6_2 : Int) := of_decide_eq_true (by first | (with_reducible assumption) | assumption)
                      have q164 : x6_2 < (l0.length : Int) := of_decide_eq_true (by first | (with_reducible assumption) | assumption)
                      obtain ⟨ad164, e164, hx164_0⟩ := Kd.at_int HR0.out x6_2 p164 q164
                      obtain rfl : ad163 = ad164 := (by injection e164)
                      replace p164 := eq_true p164
                      replace q164 := eq_true q164
                      go_wp2
                      repeat (go_quiet (fail); try go_wp2)
                      go_ret
                      exact ⟨by first | rfl | (simp; done) | (simp only [← hji11] <;> (first | rfl | simp)) | (simp [*]; done), by repeat (first | exact Drawn0.refl _ | apply Drawn0.step)⟩
                    · rw [if_neg c12] at H
                      have c12b0 : decide ((ji11) < (rd l0 x6_2)) = false := decide_eq_false c12
                      clear c12
                      have H' := Aside0.mk H
                      clear H
                      have p163 : 0 ≤ (x6_2 : Int) := of_decide_eq_true (by first | (with_reducible assumption) | assumption)
                      have q163 : x6_2 < (l0.length : Int) := of_decide_eq_true (by first | (with_reducible assumption) | assumption)
                      obtain ⟨ad163, e163, hx163_0⟩ := Kd.at_int HR0.out x6_2 p163 q163
                      cases e163
                      replace p163 := eq_true p163
                      replace q163 := eq_true q163
                      have p164 : 0 ≤ (x6_2 : Int) := of_decide_eq_true (by first | (with_reducible assumption) | assumption)
                      have q164 : x6_2 < (l0.length : Int) := of_decide_eq_true (by first | (with_reducible assumption) | assumption)
                      obtain ⟨ad164, e164, hx164_0⟩ := Kd.at_int HR0.out x6_2 p164 q164
                      obtain rfl : ad163 = ad164 := (by injection e164)
                      replace p164 := eq_true p164
                      replace q164 := eq_true q164
                      have p165 : 0 ≤ (x6_2 : Int) := of_decide_eq_true (by first | (with_reducible assumption) | assumption)
                      have q165 : x6_2 < (l0.length : Int) := of_decide_eq_true (by first | (with_reducible assumption) | assumption)
                      obtain ⟨ad165, e165, hx165_0⟩ := Kd.at_int HR0.out x6_2 p165 q165
                      obtain rfl : ad163 = ad165 := (by injection e165)
                      replace p165 := eq_true p165
                      replace q165 := eq_true q165
                      go_wp2
                      repeat (go_quiet (fail); try go_wp2)
                      go_roundg k2
                      case measure => have := HJ2.out; have := HK2.out; omega
                      case rel => exact ⟨(wrap64 (x5_2 + (rd l0 x6_2))), (wrap64 (x6_2 + 1)), (by first | rfl | (simp; done) | (simp [*]; done)), (by first | rfl | (simp; done) | (simp [*]; done)), H', ⟨by have := HJ2.out; have := HK2.out; omega⟩, by repeat (first | exact Drawn0.refl _ | apply Drawn0.step)⟩
                  · rw [if_neg c10] at H
                    exact absurd H (by simp)
              · rw [if_neg c8] at H
                exact absurd H (by simp)
            · rw [if_neg c7] at H
              have c7b0 : decide (x6_2 < (l0.length : Int)) = false := decide_eq_false c7
              clear c7
              by_cases c13 : 0 ≤ a1
              · rw [if_pos c13] at H
                have c13b0 := eq_true c13
                have c13b1 : decide (0 ≤ a1) = true := decide_eq_true c13
                clear c13
                obtain ⟨ji14, hji14⟩ : ∃ j_ : Int, (shl .i64 1 a1) = j_ := ⟨_, rfl⟩
                replace H : (some (x5_2 == (ji14))) = some r := by first | (rw [hji14] at H; exact H) | (simp only [hji14] at H ⊢; exact H)
                have hji14_ : (IntKind.i64.wrap (1 * 2 ^ min a1.toNat 64)) = ji14 := hji14
                have hji14z : a1 ≤ 64 → (IntKind.i64.wrap (1 * 2 ^ a1.toNat)) = ji14 := shl_small hji14
                have hji14u : (IntKind.i64.wrap (2 ^ min a1.toNat 64)) = ji14 := by have h_ := hji14_; rw [Int.one_mul] at h_; exact h_
                have hji14v : a1 ≤ 64 → (IntKind.i64.wrap (2 ^ a1.toNat)) = ji14 := fun hle_ => by have h_ := hji14z hle_; rw [Int.one_mul] at h_; exact h_
                have hji14y : (wrap64 (1 * 2 ^ min a1.toNat 64)) = ji14 := (i64_w _).symm.trans hji14_
                have hji14x : a1 ≤ 64 → (wrap64 (1 * 2 ^ a1.toNat)) = ji14 := fun h_ => (i64_w _).symm.trans (hji14z h_)
                obtain rfl := Option.some.inj H
                go_wp2
                repeat (go_quiet (fail); try go_wp2)
                go_ret
                exact ⟨by first | rfl | (simp; done) | (simp only [← hji14] <;> (first | rfl | simp)) | (simp [*]; done), by repeat (first | exact Drawn0.refl _ | apply Drawn0.step)⟩
              · rw [if_neg c13] at H
                exact absurd H (by simp)

end Go.Proofs.Yteeegomdaebobaa.PA

-- ---- Um
/- Which numbers may be: what both functions come to. -/
namespace Go.Proofs.Yteeegomdaebobaa.PA
set_option maxRecDepth 100000
set_option linter.unusedVariables false
set_option linter.unusedSimpArgs false
open Go.RowKit Go.Proofs.YteeegomdaebobaaW.PrintWords Go.Proofs.YteeegomdaebobaaW.PrintLast Go.Proofs.YteeegomdaebobaaW.PrintMore Nl Sp

theorem mayLog_is (a : Int) : norm_mayLog.f a = some (decide (7 ≤ a ∧ a ≤ 12)) := by
  unfold norm_mayLog.f
  by_cases h : a ≥ 7
  · rw [if_pos h]; congr 1; simp; omega
  · rw [if_neg h]; congr 1; simp; omega
theorem isLog_is (a : Int) : wringerref7_isLog.f a = some (decide (7 ≤ a ∧ a ≤ 12)) := by
  unfold wringerref7_isLog.f
  by_cases h : a ≥ 7
  · rw [if_pos h]; congr 1; simp; omega
  · rw [if_neg h]; congr 1; simp; omega

theorem drop_getD (l : List Int) (i : Nat) (h : i < l.length) : l.drop i = l.getD i 0 :: l.drop (i + 1) := by
  rw [List.drop_eq_getElem_cons h]; simp [List.getD_eq_getElem?_getD, h]

theorem may_l0 (P : Nat) (hP : P ≤ 4096) (l : List Int) (hl : l.length ≤ 100) : ∀ (d i : Nat) (t : Int), i + d = l.length → 0 ≤ t → t ≤ 4096 * (i : Int) →
    Ev (fun k => norm_May.l0 k (P : Int) t l (l.length : Int) (i : Int)) (decide ((∀ x ∈ l.drop i, 0 ≤ x ∧ x ≤ (P : Int)) ∧ t + (l.drop i).sum = (P : Int))) := by
  intro d
  induction d with
  | zero =>
    intro i t hi h0 h1
    refine Ev.step (f := fun _ => some (t == (P : Int))) (fun k => by simp only [norm_May.l0]; rw [if_neg (by omega)]) (Ev.ofSome ?_)
    rw [List.drop_eq_nil_of_le (by omega), Bool.eq_iff_iff]; simp
  | succ d ih =>
    intro i t hi h0 h1
    have hil : i < l.length := by omega
    rw [drop_getD l i hil]
    generalize hy : l.getD i 0 = y
    by_cases hy0 : y < 0
    · refine Ev.step (f := fun _ => some false) (fun k => by simp only [norm_May.l0]; rw [if_pos (by omega), if_pos (by omega), if_pos (by omega), rd_nat, hy, if_pos hy0]) (Ev.ofSome ?_)
      symm; rw [decide_eq_false_iff_not]; intro h; have := h.1 y (by simp); omega
    · by_cases hyP : y > (P : Int)
      · refine Ev.step (f := fun _ => some false) (fun k => by simp only [norm_May.l0]; rw [if_pos (by omega), if_pos (by omega), if_pos (by omega), rd_nat, hy, if_neg hy0, if_pos hyP]) (Ev.ofSome ?_)
        symm; rw [decide_eq_false_iff_not]; intro h; have := h.1 y (by simp); omega
      · refine evq ?_ (Ev.step (f := fun k => norm_May.l0 k (P : Int) (t + y) l (l.length : Int) ((i + 1 : Nat) : Int)) (fun k => by simp only [norm_May.l0]; rw [if_pos (by omega), if_pos (by omega), if_pos (by omega), rd_nat, hy, if_neg hy0, if_neg hyP, w64 (by omega) (by omega), w64 (by omega) (by omega)]; rfl) (ih (i + 1) (t + y) (by omega) (by omega) (by omega)))
        congr 1
        simp only [List.mem_cons, forall_eq_or_imp, List.sum_cons, eq_iff_iff]
        constructor
        · rintro ⟨a, b⟩; exact ⟨⟨⟨by omega, by omega⟩, a⟩, by omega⟩
        · rintro ⟨⟨_, a⟩, b⟩; exact ⟨a, by omega⟩

theorem may_is (l : List Int) (a : Int) : Ev (fun k => norm_May.f k l a) (mayN l a) := by
  unfold norm_May.f
  refine Ev.bind0 (mayLog_is a) ?_
  by_cases hlog : 7 ≤ a ∧ a ≤ 12
  · obtain ⟨m, rfl⟩ := Int.eq_ofNat_of_zero_le (show 0 ≤ a by omega)
    have hp : 2 ^ m ≤ 4096 := by have := pow2_le m 12 (by omega); omega
    refine Ev.ite_pos (by simpa using hlog) ?_
    by_cases h65 : l.length = 65
    · refine evq ?_ (Ev.step (f := fun k => norm_May.l0 k ((2 ^ m : Nat) : Int) 0 l (l.length : Int) ((0 : Nat) : Int)) (fun k => by simp only [norm_May.j0]; rw [if_neg (by simp; omega), if_pos (by omega), shl_1 m (by omega)]; rfl) (may_l0 (2 ^ m) hp l (by omega) l.length 0 0 (by omega) (by omega) (by omega)))
      unfold mayN
      rw [Int.toNat_natCast, List.drop_zero]
      congr 1
      rw [eq_iff_iff]
      constructor
      · rintro ⟨x, y⟩; exact ⟨by omega, by omega, h65, x, by omega⟩
      · rintro ⟨_, _, _, x, y⟩; exact ⟨x, by omega⟩
    · refine Ev.step (f := fun _ => some false) (fun k => by simp only [norm_May.j0]; rw [if_pos (by simp; omega)]) (Ev.ofSome ?_)
      symm; unfold mayN; rw [decide_eq_false_iff_not]; rintro ⟨_, _, h, _⟩; exact h65 h
  · refine Ev.ite_neg (by simpa using hlog) ?_
    refine Ev.step (f := fun _ => some false) (fun k => by simp only [norm_May.j0]; rfl) (Ev.ofSome ?_)
    symm; unfold mayN; rw [decide_eq_false_iff_not]; rintro ⟨h1, h2, _⟩; exact hlog ⟨h1, h2⟩

theorem rmay_l0 (m : Nat) (hm : m ≤ 12) (l : List Int) (hl : l.length ≤ 100) : ∀ (d i : Nat) (t : Int), i + d = l.length → 0 ≤ t → t ≤ 4096 * (i : Int) →
    Ev (fun k => wringerref7_MayNorm.l0 k l (m : Int) t (i : Int)) (decide ((∀ x ∈ l.drop i, 0 ≤ x ∧ x ≤ ((2 ^ m : Nat) : Int)) ∧ t + (l.drop i).sum = ((2 ^ m : Nat) : Int))) := by
  have hP : 2 ^ m ≤ 4096 := by have := pow2_le m 12 hm; omega
  have hs := shl_1 m (by omega)
  generalize 2 ^ m = P at hP hs
  intro d
  induction d with
  | zero =>
    intro i t hi h0 h1
    refine Ev.step (f := fun _ => some (t == (P : Int))) (fun k => by simp only [wringerref7_MayNorm.l0]; rw [if_neg (by omega), if_pos (by omega), hs]) (Ev.ofSome ?_)
    rw [List.drop_eq_nil_of_le (by omega), Bool.eq_iff_iff]; simp
  | succ d ih =>
    intro i t hi h0 h1
    have hil : i < l.length := by omega
    rw [drop_getD l i hil]
    generalize hy : l.getD i 0 = y
    by_cases hy0 : y < 0
    · refine Ev.step (f := fun _ => some false) (fun k => by simp only [wringerref7_MayNorm.l0]; rw [if_pos (by omega), if_pos (by omega), rd_nat, hy, if_pos hy0]) (Ev.ofSome ?_)
      symm; rw [decide_eq_false_iff_not]; intro h; have := h.1 y (by simp); omega
    · by_cases hyP : y > (P : Int)
      · refine Ev.step (f := fun _ => some false) (fun k => by simp only [wringerref7_MayNorm.l0]; rw [if_pos (by omega), if_pos (by omega), rd_nat, hy, if_neg hy0, if_pos (by omega), hs, if_pos hyP]) (Ev.ofSome ?_)
        symm; rw [decide_eq_false_iff_not]; intro h; have := h.1 y (by simp); omega
      · refine evq ?_ (Ev.step (f := fun k => wringerref7_MayNorm.l0 k l (m : Int) (t + y) ((i + 1 : Nat) : Int)) (fun k => by simp only [wringerref7_MayNorm.l0]; rw [if_pos (by omega), if_pos (by omega), rd_nat, hy, if_neg hy0, if_pos (by omega), hs, if_neg hyP, w64 (by omega) (by omega), w64 (by omega) (by omega)]; rfl) (ih (i + 1) (t + y) (by omega) (by omega) (by omega)))
        congr 1
        simp only [List.mem_cons, forall_eq_or_imp, List.sum_cons, eq_iff_iff]
        constructor
        · rintro ⟨a, b⟩; exact ⟨⟨⟨by omega, by omega⟩, a⟩, by omega⟩
        · rintro ⟨⟨_, a⟩, b⟩; exact ⟨a, by omega⟩

theorem rmay_is (l : List Int) (a : Int) : Ev (fun k => wringerref7_MayNorm.f k l a) (mayN l a) := by
  unfold wringerref7_MayNorm.f
  refine Ev.bind0 (isLog_is a) ?_
  by_cases hlog : 7 ≤ a ∧ a ≤ 12
  · obtain ⟨m, rfl⟩ := Int.eq_ofNat_of_zero_le (show 0 ≤ a by omega)
    refine Ev.ite_pos (by simpa using hlog) ?_
    by_cases h65 : l.length = 65
    · refine evq ?_ (Ev.step (f := fun k => wringerref7_MayNorm.l0 k l (m : Int) 0 ((0 : Nat) : Int)) (fun k => by simp only [wringerref7_MayNorm.j0]; rw [if_neg (by simp; omega)]; rfl) (rmay_l0 m (by omega) l (by omega) l.length 0 0 (by omega) (by omega) (by omega)))
      unfold mayN
      rw [Int.toNat_natCast, List.drop_zero]
      congr 1
      rw [eq_iff_iff]
      constructor
      · rintro ⟨x, y⟩; exact ⟨by omega, by omega, h65, x, by omega⟩
      · rintro ⟨_, _, _, x, y⟩; exact ⟨x, by omega⟩
    · refine Ev.step (f := fun _ => some false) (fun k => by simp only [wringerref7_MayNorm.j0]; rw [if_pos (by simp; omega)]) (Ev.ofSome ?_)
      symm; unfold mayN; rw [decide_eq_false_iff_not]; rintro ⟨_, _, h, _⟩; exact h65 h
  · refine Ev.ite_neg (by simpa using hlog) ?_
    refine Ev.step (f := fun _ => some false) (fun k => by simp only [wringerref7_MayNorm.j0]; rfl) (Ev.ofSome ?_)
    symm; unfold mayN; rw [decide_eq_false_iff_not]; rintro ⟨h1, h2, _⟩; exact hlog ⟨h1, h2⟩

/-- What those that may be are. -/
structure May (l : List Int) (m : Nat) : Prop where
  lo : 7 ≤ m
  hi : m ≤ 12
  len : l.length = 65
  each : ∀ x ∈ l, 0 ≤ x ∧ x ≤ ((2 ^ m : Nat) : Int)
  sum : l.sum = ((2 ^ m : Nat) : Int)
theorem may_iff (l : List Int) (a : Int) : mayN l a = true ↔ ∃ m : Nat, a = (m : Int) ∧ May l m := by
  unfold mayN
  rw [decide_eq_true_eq]
  constructor
  · rintro ⟨h1, h2, h3, h4, h5⟩
    exact ⟨a.toNat, by omega, by omega, by omega, h3, h4, h5⟩
  · rintro ⟨m, rfl, h⟩
    exact ⟨by have := h.lo; omega, by have := h.hi; omega, h.len, by rw [Int.toNat_natCast]; exact h.each, by rw [Int.toNat_natCast]; exact h.sum⟩
end Go.Proofs.Yteeegomdaebobaa.PA

-- ---- PAx4

namespace Go.Proofs.Yteeegomdaebobaa.PA
open Go.RowKit Go.Proofs.YteeegomdaebobaaW.PrintWords Go.Proofs.YteeegomdaebobaaW.PrintLast Go.Proofs.YteeegomdaebobaaW.PrintMore
attribute [local go_sem] max2_int min2_int max_two min_two max_three min_three max_four min_four   -- for this text's walks alone
set_option linter.unusedVariables false
set_option linter.unusedSimpArgs false

/-! ### spread_Spread: function 73 -/
mutual
def spread_Spread.l0 : Nat → Int → List Int → Int → List Int → Int → Int → Option (List Int × Int)
  | 0, _, _, _, _, _, _ => none
  | k + 1, x6, x7, x8, x19, x20, x21 => if x21 < x20 then (if 0 ≤ x21 then (if x21 < (x19.length : Int) then (spread_Spread.l1 k x6 x7 x8 x21 x19 x20 x21 (rd x19 x21) 0) else (none)) else (none)) else (some (x7, 0))
def spread_Spread.l1 : Nat → Int → List Int → Int → Int → List Int → Int → Int → Int → Int → Option (List Int × Int)
  | 0, _, _, _, _, _, _, _, _, _ => none
  | k + 1, x6, x7, x8, x9, x19, x20, x21, x26, x27 => if x27 < x26 then (if 0 ≤ x8 then (if x8 < (x7.length : Int) then (if x6 = 0 then (none) else (spread_Spread.l1 k x6 (x7.set (x8 : Int).toNat x9) (Int.tmod (wrap64 ((wrap64 ((wrap64 (x8 + (wrap64 (Int.tdiv x6 2)))) + (wrap64 (Int.tdiv x6 8)))) + 3)) x6) x9 x19 x20 x21 x26 (wrap64 (x27 + 1)))) else (none)) else (none)) else (spread_Spread.l0 k x6 x7 x8 x19 x20 (wrap64 (x21 + 1)))
end
def spread_Spread.f (k : Nat) (l0 : List Int) (a1 : Int) : Option (List Int × Int) := (norm_May.f k l0 a1).bind fun t103 => (if t103 = true then (if 0 ≤ a1 then (if 0 ≤ (shl .i64 1 a1) then (if (shl .i64 1 a1 : Int).toNat ≤ 35184372088832 then (spread_Spread.l0 k (shl .i64 1 a1) (List.replicate (shl .i64 1 a1 : Int).toNat 0) 0 l0 (l0.length : Int) 0) else (none)) else (none)) else (none)) else (some (([] : List Int), 3)))
theorem spread_Spread.mono_l : ∀ k, (∀ y0 y1 y2 y3 y4 y5, LeO (spread_Spread.l0 k y0 y1 y2 y3 y4 y5) (spread_Spread.l0 (k + 1) y0 y1 y2 y3 y4 y5)) ∧ (∀ y0 y1 y2 y3 y4 y5 y6 y7 y8, LeO (spread_Spread.l1 k y0 y1 y2 y3 y4 y5 y6 y7 y8) (spread_Spread.l1 (k + 1) y0 y1 y2 y3 y4 y5 y6 y7 y8))
  | 0 => ⟨fun _ _ _ _ _ _ r h => by simp [spread_Spread.l0] at h, fun _ _ _ _ _ _ _ _ _ r h => by simp [spread_Spread.l1] at h⟩
  | k + 1 => by
    obtain ⟨ih0, ih1⟩ := spread_Spread.mono_l k
    refine ⟨?_, ?_⟩
    · intro y0 y1 y2 y3 y4 y5
      unfold spread_Spread.l0
      repeat' first
      | (with_reducible exact ih0 _ _ _ _ _ _)
      | (with_reducible exact ih1 _ _ _ _ _ _ _ _ _)
      | (with_reducible exact norm_May.mono _ _ _)
      | (with_reducible exact LeO.refl _)
      | (with_reducible exact LeO.none _)
      | (with_reducible refine LeO.ite ?_ ?_)
      | (with_reducible refine LeO.bind ?_ (fun _ => ?_))
      | exact ih0 _ _ _ _ _ _
      | exact ih1 _ _ _ _ _ _ _ _ _
      | exact norm_May.mono _ _ _
      | exact LeO.none _
      | refine LeO.ite ?_ ?_
      | refine LeO.bind ?_ (fun _ => ?_)
    · intro y0 y1 y2 y3 y4 y5 y6 y7 y8
      unfold spread_Spread.l1
      repeat' first
      | (with_reducible exact ih0 _ _ _ _ _ _)
      | (with_reducible exact ih1 _ _ _ _ _ _ _ _ _)
      | (with_reducible exact norm_May.mono _ _ _)
      | (with_reducible exact LeO.refl _)
      | (with_reducible exact LeO.none _)
      | (with_reducible refine LeO.ite ?_ ?_)
      | (with_reducible refine LeO.bind ?_ (fun _ => ?_))
      | exact ih0 _ _ _ _ _ _
      | exact ih1 _ _ _ _ _ _ _ _ _
      | exact norm_May.mono _ _ _
      | exact LeO.none _
      | refine LeO.ite ?_ ?_
      | refine LeO.bind ?_ (fun _ => ?_)
theorem spread_Spread.mono : ∀ a0 a1 k, LeO (spread_Spread.f k a0 a1) (spread_Spread.f (k + 1) a0 a1) := by
  intro a0 a1 k
  obtain ⟨ih0, ih1⟩ := spread_Spread.mono_l k
  unfold spread_Spread.f
  repeat' first
      | (with_reducible exact ih0 _ _ _ _ _ _)
      | (with_reducible exact ih1 _ _ _ _ _ _ _ _ _)
      | (with_reducible exact norm_May.mono _ _ _)
      | (with_reducible exact LeO.refl _)
      | (with_reducible exact LeO.none _)
      | (with_reducible refine LeO.ite ?_ ?_)
      | (with_reducible refine LeO.bind ?_ (fun _ => ?_))
      | exact ih0 _ _ _ _ _ _
      | exact ih1 _ _ _ _ _ _ _ _ _
      | exact norm_May.mono _ _ _
      | exact LeO.none _
      | refine LeO.ite ?_ ?_
      | refine LeO.bind ?_ (fun _ => ?_)
set_option maxHeartbeats 8000000 in
set_option maxRecDepth 100000 in
theorem spread_Spread.calls (k : Nat) (A0 : Option Addr) (c0 : Nat) (l0 : List Int) (a1 : Int) (r1 : List Int) (r2 : Int) (w : World) (hr0 : Kd.C (Kd.int .i64) w A0 l0.length l0) (hc0 : l0.length ≤ c0) (h : spread_Spread.f k l0 a1 = some (r1, r2)) :
    Calls Try.prog 73 #[.slice A0 l0.length c0, .int .i64 a1] w fun e w' => ∃ v0_ : Value, e = .returned (.tuple #[v0_, .int .i64 r2]) ∧ Kd.R (Kd.int .i64) 3 w' w.heap.size (fun _ => True) v0_ r1 ∧ Below w.heap.size w w' := by
  have HR0 := Aside0.mk hr0
  have HC0 := Aside0.mk hc0
  clear hr0 hc0
  have HB := Aside0.mk (Below.refl w.heap.size w)
  have H : ((norm_May.f k l0 a1).bind fun t103 => (if t103 = true then (if 0 ≤ a1 then (if 0 ≤ (shl .i64 1 a1) then (if (shl .i64 1 a1 : Int).toNat ≤ 35184372088832 then (spread_Spread.l0 k (shl .i64 1 a1) (List.replicate (shl .i64 1 a1 : Int).toNat 0) 0 l0 (l0.length : Int) 0) else (none)) else (none)) else (none)) else (some (([] : List Int), 3)))) = some (r1, r2) := h
  clear h
  replace H := Option.bind_eq_some_iff.mp H
  obtain ⟨t103, A30, H⟩ := H
  replace H : (if t103 = true then (if 0 ≤ a1 then (if 0 ≤ (shl .i64 1 a1) then (if (shl .i64 1 a1 : Int).toNat ≤ 35184372088832 then (spread_Spread.l0 k (shl .i64 1 a1) (List.replicate (shl .i64 1 a1 : Int).toNat 0) 0 l0 (l0.length : Int) 0) else (none)) else (none)) else (none)) else (some (([] : List Int), 3))) = some (r1, r2) := H
  have A3 := Aside0.mk A30
  clear A30
  by_cases c4 : t103 = true
  · subst c4
    have H1 : (if 0 ≤ a1 then (if 0 ≤ (shl .i64 1 a1) then (if (shl .i64 1 a1 : Int).toNat ≤ 35184372088832 then (spread_Spread.l0 k (shl .i64 1 a1) (List.replicate (shl .i64 1 a1 : Int).toNat 0) 0 l0 (l0.length : Int) 0) else (none)) else (none)) else (none)) = some (r1, r2) := by rw [if_pos rfl] at H; exact H
    clear H
    have H := H1
    clear H1
    by_cases c5 : 0 ≤ a1
    · rw [if_pos c5] at H
      have c5b0 := eq_true c5
      have c5b1 : decide (0 ≤ a1) = true := decide_eq_true c5
      clear c5
      obtain ⟨ji6, hji6⟩ : ∃ j_ : Int, (shl .i64 1 a1) = j_ := ⟨_, rfl⟩
      replace H : (if 0 ≤ (ji6) then (if (ji6 : Int).toNat ≤ 35184372088832 then (spread_Spread.l0 k ji6 (List.replicate (ji6 : Int).toNat 0) 0 l0 (l0.length : Int) 0) else (none)) else (none)) = some (r1, r2) := by first | (rw [hji6] at H; exact H) | (simp only [hji6] at H ⊢; exact H)
      (try rw [hji6] at A3)
      have hji6_ : (IntKind.i64.wrap (1 * 2 ^ min a1.toNat 64)) = ji6 := hji6
      have hji6z : a1 ≤ 64 → (IntKind.i64.wrap (1 * 2 ^ a1.toNat)) = ji6 := shl_small hji6
      have hji6u : (IntKind.i64.wrap (2 ^ min a1.toNat 64)) = ji6 := by have h_ := hji6_; rw [Int.one_mul] at h_; exact h_
      have hji6v : a1 ≤ 64 → (IntKind.i64.wrap (2 ^ a1.toNat)) = ji6 := fun hle_ => by have h_ := hji6z hle_; rw [Int.one_mul] at h_; exact h_
      have hji6y : (wrap64 (1 * 2 ^ min a1.toNat 64)) = ji6 := (i64_w _).symm.trans hji6_
      have hji6x : a1 ≤ 64 → (wrap64 (1 * 2 ^ a1.toNat)) = ji6 := fun h_ => (i64_w _).symm.trans (hji6z h_)
      by_cases c7 : 0 ≤ (ji6)
      · rw [if_pos c7] at H
        have c7b0 := eq_true c7
        have c7b1 : decide (0 ≤ (ji6)) = true := decide_eq_true c7
        clear c7
        by_cases c8 : (ji6 : Int).toNat ≤ 35184372088832
        · rw [if_pos c8] at H
          have c8b0 := eq_true c8
          have c8b1 : decide ((ji6 : Int).toNat ≤ 35184372088832) = true := decide_eq_true c8
          clear c8
          obtain ⟨y104, hy104⟩ : ∃ y_ : List Int, y_ = (List.replicate (ji6 : Int).toNat 0) := ⟨_, rfl⟩
          replace H : (spread_Spread.l0 k ji6 y104 0 l0 (l0.length : Int) 0) = some (r1, r2) := by first | (rw [hy104]; with_reducible exact H) | (have H2_ := (Option.bind_some _ _).symm.trans H; rw [hy104]; with_reducible exact H2_) | (have H2_ := (Option.bind_some _ _).symm.trans H; with_reducible exact H2_) | with_reducible exact H | (rw [hy104]; exact H) | exact H
          have Ny104 := Aside0.mk hy104
          clear hy104
          have H' := Aside0.mk H
          clear H
          go_enter Try.func73, Try.ntmps73
          go_wp2_with (first | ((with_reducible refine gate_callee (f := 83) rfl ?_); refine goesL_ (some 13) rfl rfl Try.func83 (by kernel_rfl) rfl #[.slice A0 l0.length c0, .int .i64 a1] rfl (by (try simp only [List.map_toArray, List.map_cons, List.map_nil]); first | done | rfl | (simp only [List.length_drop, List.length_take]; rfl)) ?_; (with_reducible refine (norm_May.calls k _ _ l0 a1 true _ ?side1 ?side2 A3.out).mono ?_); (case side1 => repeat (first | exact HR0.out | (with_reducible refine Kd.C_alloc ?_ _) | (with_reducible refine Kd.C_drewN ?_ _) | (with_reducible refine Kd.C_drew ?_))); (case side2 => exact HC0.out); rintro e w' ⟨rfl, ⟨nd, rfl⟩⟩; refine ⟨_, rfl, ?_⟩) | ((with_reducible refine gate_dst (N := 18) rfl ?_); refine Kd.R_make (Kd.int .i64) _ 3 rfl (N := 18) rfl 28 _ _ rfl ji6 rfl rfl Try.underlying28 (.int .i64 0) 8 info3 rfl (by decide) (by omega) 0 (ok := fun _ => True) (okp := fun _ => True) rfl (fun _ hk => hk) trivial (of_decide_eq_true (by first | (with_reducible assumption) | assumption)) (Nat.le_trans (Nat.mul_le_mul_right _ (of_decide_eq_true (by first | (with_reducible assumption) | assumption) : ji6.toNat ≤ 35184372088832)) (by omega)) (Below.refl _ _) (Nat.le_refl _) ?_; intro v105 w9 ho10 hb hg_ hnew_; clear hg_ hnew_; (first | rw [← Ny104.out] at ho10 | (simp only [Int.reduceToNat] at ho10; rw [← Ny104.out] at ho10)); have n0_ := Aside0.mk (Kd.R_lower ho10 (below_size (by repeat (first | (with_reducible first | exact HB.out | apply below_alloc | apply pw_below_drewN | apply below_drew1) | exact HB.out)))); have n1_ := Aside0.mk (below_step (by repeat (first | (with_reducible first | exact HB.out | apply below_alloc | apply pw_below_drewN | apply below_drew1) | exact HB.out)) hb); clear HB; have HO106 := n0_; have HB := n1_; clear n0_ n1_; clear hb ho10))
          go_loopg [8, 21] k (fun kq v8 v21 w' => ∃ (x7_1 : List Int) (x8_1 : Int) (x21_1 : Int), v8 = .int .i64 x8_1 ∧ v21 = .int .i64 x21_1 ∧ Aside0 (spread_Spread.l0 kq ji6 x7_1 x8_1 l0 (l0.length : Int) x21_1 = some (r1, r2)) ∧ Aside0 (kq ≤ k) ∧ Aside0 (Kd.R (Kd.int .i64) 3 w' w.heap.size (fun _ => True) v105 x7_1) ∧ Aside0 (Below w.heap.size w w'))
          case atStart => exact ⟨(y104), (0), (0), (by first | rfl | (simp; done) | (simp [*]; done)), (by first | rfl | (simp; done) | (simp [*]; done)), H', ⟨Nat.le_refl _⟩, ⟨by (with_reducible repeat (first | apply Kd.R_alloc | apply Kd.R_drewN | apply Kd.R_drew)); exact HO106.out⟩, ⟨by repeat (first | (with_reducible first | exact HB.out | apply below_alloc | apply pw_below_drewN | apply below_drew1) | exact HB.out)⟩⟩
          case round =>
            clear H'
            try clear p2
            try clear c4
            try clear c5
            try clear c5b0
            try clear c5b1
            try clear p6
            try clear c7
            try clear c7b0
            try clear c7b1
            try clear c8
            try clear c8b0
            try clear c8b1
            obtain ⟨x7_1, x8_1, x21_1, rfl, rfl, HA, HK1, HO_7, HB⟩ := hrel
            cases gk with
            | zero => exact absurd HA.out (by simp [spread_Spread.l0])
            | succ k1 =>
              have H := HA.out
              clear HA
              simp only [spread_Spread.l0] at H
              by_cases c11 : x21_1 < (l0.length : Int)
              · rw [if_pos c11] at H
                have c11b0 : decide (x21_1 < (l0.length : Int)) = true := decide_eq_true c11
                clear c11
                by_cases c12 : 0 ≤ x21_1
                · rw [if_pos c12] at H
                  have c12b0 : decide (0 ≤ x21_1) = true := decide_eq_true c12
                  clear c12
                  by_cases c13 : x21_1 < (l0.length : Int)
                  · rw [if_pos c13] at H
                    have c13b0 : decide (x21_1 < (l0.length : Int)) = true := decide_eq_true c13
                    clear c13
                    have H' := Aside0.mk H
                    clear H
                    have p107 : 0 ≤ (x21_1 : Int) := of_decide_eq_true (by first | (with_reducible assumption) | assumption)
                    have q107 : x21_1 < (l0.length : Int) := of_decide_eq_true (by first | (with_reducible assumption) | assumption)
                    obtain ⟨ad107, e107, hx107_0⟩ := Kd.at_int HR0.out x21_1 p107 q107
                    cases e107
                    replace hx107_0 := (HB.out.cell (World.block_lt_of_cell? w _ hx107_0)).trans hx107_0
                    replace p107 := eq_true p107
                    replace q107 := eq_true q107
                    go_wp2
                    go_loopg [8, 27] k1 (fun kq v8 v27 w' => ∃ (x7_2 : List Int) (x8_2 : Int) (x27_2 : Int), v8 = .int .i64 x8_2 ∧ v27 = .int .i64 x27_2 ∧ Aside0 (spread_Spread.l1 kq ji6 x7_2 x8_2 x21_1 l0 (l0.length : Int) x21_1 (rd l0 x21_1) x27_2 = some (r1, r2)) ∧ Aside0 (kq ≤ k1) ∧ Aside0 (Kd.R (Kd.int .i64) 3 w' w.heap.size (fun _ => True) v105 x7_2) ∧ Aside0 (Below w.heap.size w w'))
                    case atStart => exact ⟨(x7_1), (x8_1), (0), (by first | rfl | (simp; done) | (simp [*]; done)), (by first | rfl | (simp; done) | (simp [*]; done)), H', ⟨Nat.le_refl _⟩, ⟨by (with_reducible repeat (first | apply Kd.R_alloc | apply Kd.R_drewN | apply Kd.R_drew)); exact HO_7.out⟩, ⟨by repeat (first | (with_reducible first | exact HB.out | apply below_alloc | apply pw_below_drewN | apply below_drew1) | exact HB.out)⟩⟩
                    case round =>
                      clear H'
                      try clear c1
                      try clear p1
                      try clear q1
                      try clear hx1
                      try clear p2
                      try clear c4
                      try clear c5
                      try clear c5b0
                      try clear c5b1
                      try clear p6
                      try clear c7
                      try clear c7b0
                      try clear c7b1
                      try clear c8
                      try clear c8b0
                      try clear c8b1
                      try clear p10
                      try clear q10
                      try clear hx10
                      try clear c11
                      try clear c11b0
                      try clear c12
                      try clear c12b0
                      try clear c13
                      try clear c13b0
                      try clear hx107_0
                      try clear p107
                      try clear p2
                      try clear p6
                      try clear q107
                      obtain ⟨x7_2, x8_2, x27_2, rfl, rfl, HA, HK2, HO_7, HB⟩ := hrel
                      cases gk with
                      | zero => exact absurd HA.out (by simp [spread_Spread.l1])
                      | succ k2 =>
                        have H := HA.out
                        clear HA
                        simp only [spread_Spread.l1] at H
                        by_cases c14 : x27_2 < (rd l0 x21_1)
                        · rw [if_pos c14] at H
                          have c14b0 : decide (x27_2 < (rd l0 x21_1)) = true := decide_eq_true c14
                          clear c14
                          by_cases c15 : 0 ≤ x8_2
                          · rw [if_pos c15] at H
                            have c15b0 : decide (0 ≤ x8_2) = true := decide_eq_true c15
                            clear c15
                            by_cases c16 : x8_2 < (x7_2.length : Int)
                            · rw [if_pos c16] at H
                              have c16b0 : decide (x8_2 < (x7_2.length : Int)) = true := decide_eq_true c16
                              clear c16
                              obtain ⟨y108, hy108⟩ : ∃ y_ : List Int, y_ = (x7_2.set (x8_2 : Int).toNat x21_1) := ⟨_, rfl⟩
                              replace H : (if ji6 = 0 then (none) else (spread_Spread.l1 k2 ji6 y108 (Int.tmod (wrap64 ((wrap64 ((wrap64 (x8_2 + (wrap64 (Int.tdiv ji6 2)))) + (wrap64 (Int.tdiv ji6 8)))) + 3)) ji6) x21_1 l0 (l0.length : Int) x21_1 (rd l0 x21_1) (wrap64 (x27_2 + 1)))) = some (r1, r2) := by first | (rw [hy108]; with_reducible exact H) | (have H2_ := (Option.bind_some _ _).symm.trans H; rw [hy108]; with_reducible exact H2_) | (have H2_ := (Option.bind_some _ _).symm.trans H; with_reducible exact H2_) | with_reducible exact H | (rw [hy108]; exact H) | exact H
                              have Ny108 := Aside0.mk hy108
                              clear hy108
                              by_cases c18 : ji6 = 0
                              · rw [if_pos c18] at H
                                exact absurd H (by simp)
                              · rw [if_neg c18] at H
                                have c18b0 : (ji6 == 0) = false := beq_eq_false_iff_ne.mpr c18
                                have c18b1 : (ji6 != 0) = true := bne_iff_ne.mpr c18
                                have H' := Aside0.mk H
                                clear H
                                have p17 : 0 ≤ (x8_2 : Int) := of_decide_eq_true (by first | (with_reducible assumption) | assumption)
                                have q17 : (x8_2 : Int) < ((x7_2.length : Int) : Int) := of_decide_eq_true (by first | (with_reducible assumption) | assumption)
                                obtain ⟨go17, co17, eo17, gb17, gl17, cl17, HG17⟩ := Kd.R_form HO_7.out (by omega)
                                (first | cases eo17 | (injection eo17 with ea_ en_ ec_; (first | subst ea_ | (injection ea_ with ea_; subst ea_)); subst ec_; clear en_))
                                have GB17 := Aside0.mk gb17
                                have GG17 := Aside0.mk HG17
                                clear gb17 gl17 HG17
                                obtain ⟨hx17_0, hf17_0⟩ := Kd.R_celln 0 HO_7.out (x8_2 : Int) p17 q17
                                replace p17 := eq_true p17
                                replace q17 := eq_true q17
                                have HP19 := Kd.R_putg HO_7.out (x8_2 : Int) x21_1
                                go_wp2_with (first | ((with_reducible refine gate_store (t := 3) (p := 32) rfl ?_); refine store_event (t := 3) (p := 32) (v := ?vo_w20) (w1 := (wr.setCell ⟨go17, (x8_2 : Int).toNat, none⟩ (.int .i64 x21_1))) ?hg ?ho ?hn ?hr ?_; (case ho => rfl); (case hg => rfl); (case hn => rfl); (case hr => first | (go_simp; done) | (go_simp; rfl)); intro w20 hw; have hg : wr.grownBy w20 (some go17) := (by rw [hw]; exact HP19.2); have hp_ : Kd.R (Kd.int .i64) 3 w20 w.heap.size (fun _ => True) (.slice (some ⟨go17, 0, none⟩) x7_2.length co17) y108 := (by rw [hw, Ny108.out]; exact HP19.1); clear HP19; have n0_ := Aside0.mk (hp_); have n1_ := Aside0.mk ((by rw [hw]; exact below_set (HB.out) GB17.out : Below w.heap.size w w20)); clear HO_7; clear HB; have HO_7 := n0_; have HB := n1_; clear n0_ n1_; clear hg hw hp_))
                                go_roundg k2
                                case measure => have := HK1.out; have := HK2.out; omega
                                case rel => exact ⟨(y108), (Int.tmod (wrap64 ((wrap64 ((wrap64 (x8_2 + (wrap64 (Int.tdiv ji6 2)))) + (wrap64 (Int.tdiv ji6 8)))) + 3)) ji6), (wrap64 (x27_2 + 1)), (by first | rfl | (simp; done) | (simp only [← hji6] <;> (first | rfl | simp)) | (simp [*]; done)), (by first | rfl | (simp; done) | (simp [*]; done)), H', ⟨by have := HK1.out; have := HK2.out; omega⟩, ⟨by (with_reducible repeat (first | apply Kd.R_alloc | apply Kd.R_drewN | apply Kd.R_drew)); exact HO_7.out⟩, ⟨by repeat (first | (with_reducible first | exact HB.out | apply below_alloc | apply pw_below_drewN | apply below_drew1) | exact HB.out)⟩⟩
                            · rw [if_neg c16] at H
                              exact absurd H (by simp)
                          · rw [if_neg c15] at H
                            exact absurd H (by simp)
                        · rw [if_neg c14] at H
                          have c14b0 : decide (x27_2 < (rd l0 x21_1)) = false := decide_eq_false c14
                          clear c14
                          have H' := Aside0.mk H
                          clear H
                          go_wp2
                          go_roundg k2
                          case measure => have := HK1.out; have := HK2.out; omega
                          case rel => exact ⟨(x7_2), (x8_2), (wrap64 (x21_1 + 1)), (by first | rfl | (simp; done) | (simp [*]; done)), (by first | rfl | (simp; done) | (simp [*]; done)), H', ⟨by have := HK1.out; have := HK2.out; omega⟩, ⟨by (with_reducible repeat (first | apply Kd.R_alloc | apply Kd.R_drewN | apply Kd.R_drew)); exact HO_7.out⟩, ⟨by repeat (first | (with_reducible first | exact HB.out | apply below_alloc | apply pw_below_drewN | apply below_drew1) | exact HB.out)⟩⟩
                  · rw [if_neg c13] at H
                    exact absurd H (by simp)
                · rw [if_neg c12] at H
                  exact absurd H (by simp)
              · rw [if_neg c11] at H
                have c11b0 : decide (x21_1 < (l0.length : Int)) = false := decide_eq_false c11
                clear c11
                simp only [Option.some.injEq, Prod.mk.injEq] at H
                obtain ⟨rfl, rfl⟩ := H
                go_wp2
                go_ret2
                exact ⟨_, by first | rfl | (simp [errW_none, errW_some] <;> rfl) | (simp only [← hji6]; first | rfl | (simp [errW_none, errW_some] <;> rfl)) | (simp [*, errW_none, errW_some] <;> rfl), by (with_reducible repeat (first | apply Kd.R_alloc | apply Kd.R_drewN | apply Kd.R_drew)); exact HO_7.out, by repeat (first | (with_reducible first | exact HB.out | apply below_alloc | apply pw_below_drewN | apply below_drew1) | exact HB.out)⟩
        · rw [if_neg c8] at H
          exact absurd H (by simp)
      · rw [if_neg c7] at H
        exact absurd H (by simp)
    · rw [if_neg c5] at H
      exact absurd H (by simp)
  · replace c4 := Bool.eq_false_iff.mpr c4
    subst c4
    have H1 : (some (([] : List Int), 3)) = some (r1, r2) := by rw [if_neg (show ¬ (false = true) by decide)] at H; exact H
    clear H
    have H := H1
    clear H1
    simp only [Option.some.injEq, Prod.mk.injEq] at H
    obtain ⟨rfl, rfl⟩ := H
    go_enter Try.func73, Try.ntmps73
    go_wp2_with (first | ((with_reducible refine gate_callee (f := 83) rfl ?_); refine goesL_ (some 13) rfl rfl Try.func83 (by kernel_rfl) rfl #[.slice A0 l0.length c0, .int .i64 a1] rfl (by (try simp only [List.map_toArray, List.map_cons, List.map_nil]); first | done | rfl | (simp only [List.length_drop, List.length_take]; rfl)) ?_; (with_reducible refine (norm_May.calls k _ _ l0 a1 false _ ?side1 ?side2 A3.out).mono ?_); (case side1 => repeat (first | exact HR0.out | (with_reducible refine Kd.C_alloc ?_ _) | (with_reducible refine Kd.C_drewN ?_ _) | (with_reducible refine Kd.C_drew ?_))); (case side2 => exact HC0.out); rintro e w' ⟨rfl, ⟨nd, rfl⟩⟩; refine ⟨_, rfl, ?_⟩))
    go_ret2
    exact ⟨_, by first | rfl | (simp [errW_none, errW_some] <;> rfl) | (simp [*, errW_none, errW_some] <;> rfl), by first | exact Kd.R_nil _ _ _ _ _ | exact Kd.N_nil _ _ _ _ _ | exact Kd.V_nil _ _ _ _ _ | exact Kd.Q_nil _ _ _ _ _ | exact Kd.S_nil _ _ _ _ _, by repeat (first | (with_reducible first | exact HB.out | apply below_alloc | apply pw_below_drewN | apply below_drew1) | exact HB.out)⟩

end Go.Proofs.Yteeegomdaebobaa.PA

-- ---- PAx53

namespace Go.Proofs.Yteeegomdaebobaa.PA
open Go.RowKit Go.Proofs.YteeegomdaebobaaW.PrintWords Go.Proofs.YteeegomdaebobaaW.PrintLast Go.Proofs.YteeegomdaebobaaW.PrintMore
attribute [local go_sem] max2_int min2_int max_two min_two max_three min_three max_four min_four   -- for this text's walks alone
set_option linter.unusedVariables false
set_option linter.unusedSimpArgs false

/-! ### wringerref7_Spread: function 69 -/
mutual
def wringerref7_Spread.l0 : Nat → List Int → Int → List Int → Int → Int → Option (List Int × Int)
  | 0, _, _, _, _, _ => none
  | k + 1, x0, x5, x6, x7, x8 => if x8 < (x0.length : Int) then (wringerref7_Spread.l1 k x0 x5 x6 x7 x8 0) else (some (x6, 0))
def wringerref7_Spread.l1 : Nat → List Int → Int → List Int → Int → Int → Int → Option (List Int × Int)
  | 0, _, _, _, _, _, _ => none
  | k + 1, x0, x5, x6, x7, x8, x9 => if 0 ≤ x8 then (if x8 < (x0.length : Int) then (if x9 < (rd x0 x8) then (if 0 ≤ x7 then (if x7 < (x6.length : Int) then (if x5 = 0 then (none) else (wringerref7_Spread.l1 k x0 x5 (x6.set (x7 : Int).toNat x8) (Int.tmod (wrap64 ((wrap64 ((wrap64 (x7 + (wrap64 (Int.tdiv x5 2)))) + (wrap64 (Int.tdiv x5 8)))) + 3)) x5) x8 (wrap64 (x9 + 1)))) else (none)) else (none)) else (wringerref7_Spread.l0 k x0 x5 x6 x7 (wrap64 (x8 + 1)))) else (none)) else (none)
end
def wringerref7_Spread.f (k : Nat) (l0 : List Int) (a1 : Int) : Option (List Int × Int) := (wringerref7_MayNorm.f k l0 a1).bind fun t167 => (if t167 = true then (if 0 ≤ a1 then (if 0 ≤ (shl .i64 1 a1) then (if (shl .i64 1 a1 : Int).toNat ≤ 35184372088832 then (wringerref7_Spread.l0 k l0 (shl .i64 1 a1) (List.replicate (shl .i64 1 a1 : Int).toNat 0) 0 0) else (none)) else (none)) else (none)) else (some (([] : List Int), 3)))
theorem wringerref7_Spread.mono_l : ∀ k, (∀ y0 y1 y2 y3 y4, LeO (wringerref7_Spread.l0 k y0 y1 y2 y3 y4) (wringerref7_Spread.l0 (k + 1) y0 y1 y2 y3 y4)) ∧ (∀ y0 y1 y2 y3 y4 y5, LeO (wringerref7_Spread.l1 k y0 y1 y2 y3 y4 y5) (wringerref7_Spread.l1 (k + 1) y0 y1 y2 y3 y4 y5))
  | 0 => ⟨fun _ _ _ _ _ r h => by simp [wringerref7_Spread.l0] at h, fun _ _ _ _ _ _ r h => by simp [wringerref7_Spread.l1] at h⟩
  | k + 1 => by
    obtain ⟨ih0, ih1⟩ := wringerref7_Spread.mono_l k
    refine ⟨?_, ?_⟩
    · intro y0 y1 y2 y3 y4
      unfold wringerref7_Spread.l0
      repeat' first
      | (with_reducible exact ih0 _ _ _ _ _)
      | (with_reducible exact ih1 _ _ _ _ _ _)
      | (with_reducible exact wringerref7_MayNorm.mono _ _ _)
      | (with_reducible exact LeO.refl _)
      | (with_reducible exact LeO.none _)
      | (with_reducible refine LeO.ite ?_ ?_)
      | (with_reducible refine LeO.bind ?_ (fun _ => ?_))
      | exact ih0 _ _ _ _ _
      | exact ih1 _ _ _ _ _ _
      | exact wringerref7_MayNorm.mono _ _ _
      | exact LeO.none _
      | refine LeO.ite ?_ ?_
      | refine LeO.bind ?_ (fun _ => ?_)
    · intro y0 y1 y2 y3 y4 y5
      unfold wringerref7_Spread.l1
      repeat' first
      | (with_reducible exact ih0 _ _ _ _ _)
      | (with_reducible exact ih1 _ _ _ _ _ _)
      | (with_reducible exact wringerref7_MayNorm.mono _ _ _)
      | (with_reducible exact LeO.refl _)
      | (with_reducible exact LeO.none _)
      | (with_reducible refine LeO.ite ?_ ?_)
      | (with_reducible refine LeO.bind ?_ (fun _ => ?_))
      | exact ih0 _ _ _ _ _
      | exact ih1 _ _ _ _ _ _
      | exact wringerref7_MayNorm.mono _ _ _
      | exact LeO.none _
      | refine LeO.ite ?_ ?_
      | refine LeO.bind ?_ (fun _ => ?_)
theorem wringerref7_Spread.mono : ∀ a0 a1 k, LeO (wringerref7_Spread.f k a0 a1) (wringerref7_Spread.f (k + 1) a0 a1) := by
  intro a0 a1 k
  obtain ⟨ih0, ih1⟩ := wringerref7_Spread.mono_l k
  unfold wringerref7_Spread.f
  repeat' first
      | (with_reducible exact ih0 _ _ _ _ _)
      | (with_reducible exact ih1 _ _ _ _ _ _)
      | (with_reducible exact wringerref7_MayNorm.mono _ _ _)
      | (with_reducible exact LeO.refl _)
      | (with_reducible exact LeO.none _)
      | (with_reducible refine LeO.ite ?_ ?_)
      | (with_reducible refine LeO.bind ?_ (fun _ => ?_))
      | exact ih0 _ _ _ _ _
      | exact ih1 _ _ _ _ _ _
      | exact wringerref7_MayNorm.mono _ _ _
      | exact LeO.none _
      | refine LeO.ite ?_ ?_
      | refine LeO.bind ?_ (fun _ => ?_)
set_option maxHeartbeats 8000000 in
set_option maxRecDepth 100000 in
theorem wringerref7_Spread.calls (k : Nat) (A0 : Option Addr) (c0 : Nat) (l0 : List Int) (a1 : Int) (r1 : List Int) (r2 : Int) (w : World) (hr0 : Kd.C (Kd.int .i64) w A0 l0.length l0) (hc0 : l0.length ≤ c0) (h : wringerref7_Spread.f k l0 a1 = some (r1, r2)) :
    Calls Try.prog 69 #[.slice A0 l0.length c0, .int .i64 a1] w fun e w' => ∃ v0_ : Value, e = .returned (.agg #[v0_, .int .i64 r2]) ∧ Kd.R (Kd.int .i64) 3 w' w.heap.size (fun _ => True) v0_ r1 ∧ Below w.heap.size w w' := by
  have hu31 := Try.underlying31
  have HR0 := Aside0.mk hr0
  have HC0 := Aside0.mk hc0
  clear hr0 hc0
  have HB := Aside0.mk (Below.refl w.heap.size w)
  have H : ((wringerref7_MayNorm.f k l0 a1).bind fun t167 => (if t167 = true then (if 0 ≤ a1 then (if 0 ≤ (shl .i64 1 a1) then (if (shl .i64 1 a1 : Int).toNat ≤ 35184372088832 then (wringerref7_Spread.l0 k l0 (shl .i64 1 a1) (List.replicate (shl .i64 1 a1 : Int).toNat 0) 0 0) else (none)) else (none)) else (none)) else (some (([] : List Int), 3)))) = some (r1, r2) := h
  clear h
  replace H := Option.bind_eq_some_iff.mp H
  obtain ⟨t167, A30, H⟩ := H
  replace H : (if t167 = true then (if 0 ≤ a1 then (if 0 ≤ (shl .i64 1 a1) then (if (shl .i64 1 a1 : Int).toNat ≤ 35184372088832 then (wringerref7_Spread.l0 k l0 (shl .i64 1 a1) (List.replicate (shl .i64 1 a1 : Int).toNat 0) 0 0) else (none)) else (none)) else (none)) else (some (([] : List Int), 3))) = some (r1, r2) := H
  have A3 := Aside0.mk A30
  clear A30
  by_cases c4 : t167 = true
  · subst c4
    have H1 : (if 0 ≤ a1 then (if 0 ≤ (shl .i64 1 a1) then (if (shl .i64 1 a1 : Int).toNat ≤ 35184372088832 then (wringerref7_Spread.l0 k l0 (shl .i64 1 a1) (List.replicate (shl .i64 1 a1 : Int).toNat 0) 0 0) else (none)) else (none)) else (none)) = some (r1, r2) := by rw [if_pos rfl] at H; exact H
    clear H
    have H := H1
    clear H1
    by_cases c5 : 0 ≤ a1
    · rw [if_pos c5] at H
      have c5b0 := eq_true c5
      have c5b1 : decide (0 ≤ a1) = true := decide_eq_true c5
      clear c5
      obtain ⟨ji6, hji6⟩ : ∃ j_ : Int, (shl .i64 1 a1) = j_ := ⟨_, rfl⟩
      replace H : (if 0 ≤ (ji6) then (if (ji6 : Int).toNat ≤ 35184372088832 then (wringerref7_Spread.l0 k l0 ji6 (List.replicate (ji6 : Int).toNat 0) 0 0) else (none)) else (none)) = some (r1, r2) := by first | (rw [hji6] at H; exact H) | (simp only [hji6] at H ⊢; exact H)
      (try rw [hji6] at A3)
      have hji6_ : (IntKind.i64.wrap (1 * 2 ^ min a1.toNat 64)) = ji6 := hji6
      have hji6z : a1 ≤ 64 → (IntKind.i64.wrap (1 * 2 ^ a1.toNat)) = ji6 := shl_small hji6
      have hji6u : (IntKind.i64.wrap (2 ^ min a1.toNat 64)) = ji6 := by have h_ := hji6_; rw [Int.one_mul] at h_; exact h_
      have hji6v : a1 ≤ 64 → (IntKind.i64.wrap (2 ^ a1.toNat)) = ji6 := fun hle_ => by have h_ := hji6z hle_; rw [Int.one_mul] at h_; exact h_
      have hji6y : (wrap64 (1 * 2 ^ min a1.toNat 64)) = ji6 := (i64_w _).symm.trans hji6_
      have hji6x : a1 ≤ 64 → (wrap64 (1 * 2 ^ a1.toNat)) = ji6 := fun h_ => (i64_w _).symm.trans (hji6z h_)
      by_cases c7 : 0 ≤ (ji6)
      · rw [if_pos c7] at H
        have c7b0 := eq_true c7
        have c7b1 : decide (0 ≤ (ji6)) = true := decide_eq_true c7
        clear c7
        by_cases c8 : (ji6 : Int).toNat ≤ 35184372088832
        · rw [if_pos c8] at H
          have c8b0 := eq_true c8
          have c8b1 : decide ((ji6 : Int).toNat ≤ 35184372088832) = true := decide_eq_true c8
          clear c8
          obtain ⟨y168, hy168⟩ : ∃ y_ : List Int, y_ = (List.replicate (ji6 : Int).toNat 0) := ⟨_, rfl⟩
          replace H : (wringerref7_Spread.l0 k l0 ji6 y168 0 0) = some (r1, r2) := by first | (rw [hy168]; with_reducible exact H) | (have H2_ := (Option.bind_some _ _).symm.trans H; rw [hy168]; with_reducible exact H2_) | (have H2_ := (Option.bind_some _ _).symm.trans H; with_reducible exact H2_) | with_reducible exact H | (rw [hy168]; exact H) | exact H
          have Ny168 := Aside0.mk hy168
          clear hy168
          have H' := Aside0.mk H
          clear H
          go_enter Try.func69, Try.ntmps69
          go_wp2_with (first | ((with_reducible refine gate_dst (N := 4) rfl ?_); refine box_event ?hg (N := 4) ?hd (cs := #[.slice none 0 0, .int .i64 0]) (t := 31) ?hr ?_; (case hd => rfl); (case hg => rfl); (case hr => first | (go_simp; done) | (go_simp; rfl)); intro gb166 hg w9 hbox hb; have n0_ := Aside0.mk (below_step (by repeat (first | (with_reducible first | exact HB.out | apply below_alloc | apply pw_below_drewN | apply below_drew1) | exact HB.out)) hb); have n1_ := Aside0.mk (hbox); have n2_ := Aside0.mk ((by rw [hg]; exact (below_size (by repeat (first | (with_reducible first | exact HB.out | apply below_alloc | apply pw_below_drewN | apply below_drew1) | exact HB.out))) : w.heap.size ≤ gb166)); have n3_ := Aside0.mk ((by rw [hg]; exact (below_size (by repeat (first | (with_reducible first | exact HB.out | apply below_alloc | apply pw_below_drewN | apply below_drew1) | exact HB.out))) : w.heap.size ≤ gb166)); clear HB; have HB := n0_; have BK166 := n1_; have GW166 := n2_; have GE166 := n3_; clear n0_ n1_ n2_ n3_; clear hb hbox hg) | ((with_reducible refine gate_callee (f := 82) rfl ?_); refine goesL_ (some 12) rfl rfl Try.func82 (by kernel_rfl) rfl #[.slice A0 l0.length c0, .int .i64 a1] rfl (by (try simp only [List.map_toArray, List.map_cons, List.map_nil]); first | done | rfl | (simp only [List.length_drop, List.length_take]; rfl)) ?_; (with_reducible refine (wringerref7_MayNorm.calls k _ _ l0 a1 true _ ?side1 ?side2 A3.out).mono ?_); (case side1 => repeat (first | exact (Kd.C_below HR0.out HB.out) | (with_reducible refine Kd.C_alloc ?_ _) | (with_reducible refine Kd.C_drewN ?_ _) | (with_reducible refine Kd.C_drew ?_))); (case side2 => exact HC0.out); rintro e w' ⟨rfl, ⟨nd, rfl⟩⟩; refine ⟨_, rfl, ?_⟩) | ((with_reducible refine gate_dst (N := 18) rfl ?_); refine Kd.R_make (Kd.int .i64) _ 3 rfl (N := 18) rfl 28 _ _ rfl ji6 rfl rfl Try.underlying28 (.int .i64 0) 8 info3 rfl (by decide) (by omega) 0 (ok := fun _ => True) (okp := fun _ => True) rfl (fun _ hk => hk) trivial (of_decide_eq_true (by first | (with_reducible assumption) | assumption)) (Nat.le_trans (Nat.mul_le_mul_right _ (of_decide_eq_true (by first | (with_reducible assumption) | assumption) : ji6.toNat ≤ 35184372088832)) (by omega)) (Below.refl _ _) (Nat.le_refl _) ?_; intro v169 w10 ho11 hb hg_ hnew_; clear hg_ hnew_; (first | rw [← Ny168.out] at ho11 | (simp only [Int.reduceToNat] at ho11; rw [← Ny168.out] at ho11)); have n0_ := Aside0.mk (Kd.R_lower ho11 (below_size (by repeat (first | (with_reducible first | exact HB.out | apply below_alloc | apply pw_below_drewN | apply below_drew1 | refine below_set ?_ GE166.out) | exact HB.out)))); have n1_ := Aside0.mk (blk_below (g := gb166) (o := .cells #[.slice none 0 0, .int .i64 0] 31 (0, 0)) (by (with_reducible repeat (first | refine blk_drewN ?_ _ | refine blk_drew ?_ | refine blk_alloc ?_ _)); exact BK166.out) hb); have n2_ := Aside0.mk (below_step (by repeat (first | (with_reducible first | exact HB.out | apply below_alloc | apply pw_below_drewN | apply below_drew1 | refine below_set ?_ GE166.out) | exact HB.out)) hb); clear BK166; clear HB; have HO170 := n0_; have BK166 := n1_; have HB := n2_; clear n0_ n1_ n2_; clear hb ho11))
          go_loopg [7, 8] k (fun kq v7 v8 w' => ∃ (x6_1 : List Int) (x7_1 : Int) (x8_1 : Int), v7 = .int .i64 x7_1 ∧ v8 = .int .i64 x8_1 ∧ Aside0 (wringerref7_Spread.l0 kq l0 ji6 x6_1 x7_1 x8_1 = some (r1, r2)) ∧ Aside0 (kq ≤ k) ∧ Aside0 (Kd.R (Kd.int .i64) 3 w' w.heap.size (fun _ => True) v169 x6_1) ∧ Aside0 (w'.heap[gb166]? = some (.cells #[(.slice none 0 0), .int .i64 0] 31 (0, 0))) ∧ Aside0 (Below w.heap.size w w'))
          case atStart => exact ⟨(y168), (0), (0), (by first | rfl | (simp; done) | (simp [*]; done)), (by first | rfl | (simp; done) | (simp [*]; done)), H', ⟨Nat.le_refl _⟩, ⟨by (with_reducible repeat (first | apply Kd.R_alloc | apply Kd.R_drewN | apply Kd.R_drew)); exact HO170.out⟩, ⟨by (with_reducible repeat (first | refine blk_drewN ?_ _ | refine blk_drew ?_ | refine blk_alloc ?_ _)); exact BK166.out⟩, ⟨by repeat (first | (with_reducible first | exact HB.out | apply below_alloc | apply pw_below_drewN | apply below_drew1 | refine below_set ?_ GE166.out) | exact HB.out)⟩⟩
          case round =>
            clear H'
            try clear p2
            try clear c4
            try clear c5
            try clear c5b0
            try clear c5b1
            try clear c6
            try clear p6
            try clear c7
            try clear c7b0
            try clear c7b1
            try clear c8
            try clear c8b0
            try clear c8b1
            obtain ⟨x6_1, x7_1, x8_1, rfl, rfl, HA, HK1, HO_6, BK166, HB⟩ := hrel
            cases gk with
            | zero => exact absurd HA.out (by simp [wringerref7_Spread.l0])
            | succ k1 =>
              have H := HA.out
              clear HA
              simp only [wringerref7_Spread.l0] at H
              by_cases c12 : x8_1 < (l0.length : Int)
              · rw [if_pos c12] at H
                have c12b0 : decide (x8_1 < (l0.length : Int)) = true := decide_eq_true c12
                clear c12
                have H' := Aside0.mk H
                clear H
                go_wp2
                go_loopg [7, 9] k1 (fun kq v7 v9 w' => ∃ (x6_2 : List Int) (x7_2 : Int) (x9_2 : Int), v7 = .int .i64 x7_2 ∧ v9 = .int .i64 x9_2 ∧ Aside0 (wringerref7_Spread.l1 kq l0 ji6 x6_2 x7_2 x8_1 x9_2 = some (r1, r2)) ∧ Aside0 (kq ≤ k1) ∧ Aside0 (Kd.R (Kd.int .i64) 3 w' w.heap.size (fun _ => True) v169 x6_2) ∧ Aside0 (w'.heap[gb166]? = some (.cells #[(.slice none 0 0), .int .i64 0] 31 (0, 0))) ∧ Aside0 (Below w.heap.size w w'))
                case atStart => exact ⟨(x6_1), (x7_1), (0), (by first | rfl | (simp; done) | (simp [*]; done)), (by first | rfl | (simp; done) | (simp [*]; done)), H', ⟨Nat.le_refl _⟩, ⟨by (with_reducible repeat (first | apply Kd.R_alloc | apply Kd.R_drewN | apply Kd.R_drew)); exact HO_6.out⟩, ⟨by (with_reducible repeat (first | refine blk_drewN ?_ _ | refine blk_drew ?_ | refine blk_alloc ?_ _)); exact BK166.out⟩, ⟨by repeat (first | (with_reducible first | exact HB.out | apply below_alloc | apply pw_below_drewN | apply below_drew1 | refine below_set ?_ GE166.out) | exact HB.out)⟩⟩
                case round =>
                  clear H'
                  try clear c1
                  try clear p2
                  try clear c4
                  try clear c5
                  try clear c5b0
                  try clear c5b1
                  try clear c6
                  try clear p6
                  try clear c7
                  try clear c7b0
                  try clear c7b1
                  try clear c8
                  try clear c8b0
                  try clear c8b1
                  try clear c12
                  try clear c12b0
                  try clear p2
                  try clear p6
                  obtain ⟨x6_2, x7_2, x9_2, rfl, rfl, HA, HK2, HO_6, BK166, HB⟩ := hrel
                  cases gk with
                  | zero => exact absurd HA.out (by simp [wringerref7_Spread.l1])
                  | succ k2 =>
                    have H := HA.out
                    clear HA
                    simp only [wringerref7_Spread.l1] at H
                    by_cases c13 : 0 ≤ x8_1
                    · rw [if_pos c13] at H
                      have c13b0 : decide (0 ≤ x8_1) = true := decide_eq_true c13
                      clear c13
                      by_cases c14 : x8_1 < (l0.length : Int)
                      · rw [if_pos c14] at H
                        have c14b0 : decide (x8_1 < (l0.length : Int)) = true := decide_eq_true c14
                        clear c14
                        by_cases c15 : x9_2 < (rd l0 x8_1)
                        · rw [if_pos c15] at H
                          have c15b0 : decide (x9_2 < (rd l0 x8_1)) = true := decide_eq_true c15
                          clear c15
                          by_cases c16 : 0 ≤ x7_2
                          · rw [if_pos c16] at H
                            have c16b0 : decide (0 ≤ x7_2) = true := decide_eq_true c16
                            clear c16
                            by_cases c17 : x7_2 < (x6_2.length : Int)
                            · rw [if_pos c17] at H
                              have c17b0 : decide (x7_2 < (x6_2.length : Int)) = true := decide_eq_true c17
                              clear c17
                              obtain ⟨y172, hy172⟩ : ∃ y_ : List Int, y_ = (x6_2.set (x7_2 : Int).toNat x8_1) := ⟨_, rfl⟩
                              replace H : (if ji6 = 0 then (none) else (wringerref7_Spread.l1 k2 l0 ji6 y172 (Int.tmod (wrap64 ((wrap64 ((wrap64 (x7_2 + (wrap64 (Int.tdiv ji6 2)))) + (wrap64 (Int.tdiv ji6 8)))) + 3)) ji6) x8_1 (wrap64 (x9_2 + 1)))) = some (r1, r2) := by first | (rw [hy172]; with_reducible exact H) | (have H2_ := (Option.bind_some _ _).symm.trans H; rw [hy172]; with_reducible exact H2_) | (have H2_ := (Option.bind_some _ _).symm.trans H; with_reducible exact H2_) | with_reducible exact H | (rw [hy172]; exact H) | exact H
                              have Ny172 := Aside0.mk hy172
                              clear hy172
                              by_cases c19 : ji6 = 0
                              · rw [if_pos c19] at H
                                exact absurd H (by simp)
                              · rw [if_neg c19] at H
                                have c19b0 : (ji6 == 0) = false := beq_eq_false_iff_ne.mpr c19
                                have c19b1 : (ji6 != 0) = true := bne_iff_ne.mpr c19
                                have H' := Aside0.mk H
                                clear H
                                have p171 : 0 ≤ (x8_1 : Int) := of_decide_eq_true (by first | (with_reducible assumption) | assumption)
                                have q171 : x8_1 < (l0.length : Int) := of_decide_eq_true (by first | (with_reducible assumption) | assumption)
                                obtain ⟨ad171, e171, hx171_0⟩ := Kd.at_int HR0.out x8_1 p171 q171
                                cases e171
                                replace hx171_0 := (HB.out.cell (World.block_lt_of_cell? w _ hx171_0)).trans hx171_0
                                replace p171 := eq_true p171
                                replace q171 := eq_true q171
                                have p18 : 0 ≤ (x7_2 : Int) := of_decide_eq_true (by first | (with_reducible assumption) | assumption)
                                have q18 : (x7_2 : Int) < ((x6_2.length : Int) : Int) := of_decide_eq_true (by first | (with_reducible assumption) | assumption)
                                obtain ⟨go18, co18, eo18, gb18, gl18, cl18, HG18⟩ := Kd.R_form HO_6.out (by omega)
                                (first | cases eo18 | (injection eo18 with ea_ en_ ec_; (first | subst ea_ | (injection ea_ with ea_; subst ea_)); subst ec_; clear en_))
                                have GB18 := Aside0.mk gb18
                                have GG18 := Aside0.mk HG18
                                clear gb18 gl18 HG18
                                obtain ⟨hx18_0, hf18_0⟩ := Kd.R_celln 0 HO_6.out (x7_2 : Int) p18 q18
                                replace p18 := eq_true p18
                                replace q18 := eq_true q18
                                have HP20 := Kd.R_putg HO_6.out (x7_2 : Int) x8_1
                                go_wp2_with (first | ((with_reducible refine gate_store (t := 3) (p := 36) rfl ?_); refine store_event (t := 3) (p := 36) (v := ?vo_w21) (w1 := (wr.setCell ⟨go18, (x7_2 : Int).toNat, none⟩ (.int .i64 x8_1))) ?hg ?ho ?hn ?hr ?_; (case ho => rfl); (case hg => rfl); (case hn => rfl); (case hr => first | (go_simp; done) | (go_simp; rfl)); intro w21 hw; have hg : wr.grownBy w21 (some go18) := (by rw [hw]; exact HP20.2); have hp_ : Kd.R (Kd.int .i64) 3 w21 w.heap.size (fun _ => True) (.slice (some ⟨go18, 0, none⟩) x6_2.length co18) y172 := (by rw [hw, Ny172.out]; exact HP20.1); clear HP20; have n0_ := Aside0.mk (hp_); have n1_ := Aside0.mk (blk_grown (g := gb166) (o := .cells #[.slice none 0 0, .int .i64 0] 31 (0, 0)) (by (with_reducible repeat (first | refine blk_drewN ?_ _ | refine blk_drew ?_ | refine blk_alloc ?_ _)); exact BK166.out) hg (Kd.R_ne HO_6.out BK166.out (by decide))); have n2_ := Aside0.mk ((by rw [hw]; exact below_set (HB.out) GB18.out : Below w.heap.size w w21)); clear HO_6; clear BK166; clear HB; have HO_6 := n0_; have BK166 := n1_; have HB := n2_; clear n0_ n1_ n2_; clear hg hw hp_))
                                go_roundg k2
                                case measure => have := HK1.out; have := HK2.out; omega
                                case rel => exact ⟨(y172), (Int.tmod (wrap64 ((wrap64 ((wrap64 (x7_2 + (wrap64 (Int.tdiv ji6 2)))) + (wrap64 (Int.tdiv ji6 8)))) + 3)) ji6), (wrap64 (x9_2 + 1)), (by first | rfl | (simp; done) | (simp only [← hji6] <;> (first | rfl | simp)) | (simp [*]; done)), (by first | rfl | (simp; done) | (simp [*]; done)), H', ⟨by have := HK1.out; have := HK2.out; omega⟩, ⟨by (with_reducible repeat (first | apply Kd.R_alloc | apply Kd.R_drewN | apply Kd.R_drew)); exact HO_6.out⟩, ⟨by (with_reducible repeat (first | refine blk_drewN ?_ _ | refine blk_drew ?_ | refine blk_alloc ?_ _)); exact BK166.out⟩, ⟨by repeat (first | (with_reducible first | exact HB.out | apply below_alloc | apply pw_below_drewN | apply below_drew1 | refine below_set ?_ GE166.out) | exact HB.out)⟩⟩
                            · rw [if_neg c17] at H
                              exact absurd H (by simp)
                          · rw [if_neg c16] at H
                            exact absurd H (by simp)
                        · rw [if_neg c15] at H
                          have c15b0 : decide (x9_2 < (rd l0 x8_1)) = false := decide_eq_false c15
                          clear c15
                          have H' := Aside0.mk H
                          clear H
                          have p171 : 0 ≤ (x8_1 : Int) := of_decide_eq_true (by first | (with_reducible assumption) | assumption)
                          have q171 : x8_1 < (l0.length : Int) := of_decide_eq_true (by first | (with_reducible assumption) | assumption)
                          obtain ⟨ad171, e171, hx171_0⟩ := Kd.at_int HR0.out x8_1 p171 q171
                          cases e171
                          replace hx171_0 := (HB.out.cell (World.block_lt_of_cell? w _ hx171_0)).trans hx171_0
                          replace p171 := eq_true p171
                          replace q171 := eq_true q171
                          go_wp2
                          go_roundg k2
                          case measure => have := HK1.out; have := HK2.out; omega
                          case rel => exact ⟨(x6_2), (x7_2), (wrap64 (x8_1 + 1)), (by first | rfl | (simp; done) | (simp [*]; done)), (by first | rfl | (simp; done) | (simp [*]; done)), H', ⟨by have := HK1.out; have := HK2.out; omega⟩, ⟨by (with_reducible repeat (first | apply Kd.R_alloc | apply Kd.R_drewN | apply Kd.R_drew)); exact HO_6.out⟩, ⟨by (with_reducible repeat (first | refine blk_drewN ?_ _ | refine blk_drew ?_ | refine blk_alloc ?_ _)); exact BK166.out⟩, ⟨by repeat (first | (with_reducible first | exact HB.out | apply below_alloc | apply pw_below_drewN | apply below_drew1 | refine below_set ?_ GE166.out) | exact HB.out)⟩⟩
                      · rw [if_neg c14] at H
                        exact absurd H (by simp)
                    · rw [if_neg c13] at H
                      exact absurd H (by simp)
              · rw [if_neg c12] at H
                have c12b0 : decide (x8_1 < (l0.length : Int)) = false := decide_eq_false c12
                clear c12
                simp only [Option.some.injEq, Prod.mk.injEq] at H
                obtain ⟨rfl, rfl⟩ := H
                obtain ⟨Ao22, co22, eo22⟩ := Kd.R_slice HO_6.out
                subst eo22
                have hcz23_0 : wr.cell? ⟨gb166, 0, none⟩ = some (.slice none 0 0) := (blk_cell BK166.out 0).trans rfl
                have hcz23_1 : wr.cell? ⟨gb166, 1, none⟩ = some (.int .i64 0) := (blk_cell BK166.out 1).trans rfl
                have hfz23_0 := blk_frozen BK166.out 0
                have hfz23_1 := blk_frozen BK166.out 1
                go_wp2
                refine bodyPost_ret (results_cell_row rfl _ _ gb166 31 #[.slice Ao22 x6_1.length co22, .int .i64 0] (0, 0) _ rfl (by (with_reducible repeat (first | refine blk_drewN ?_ _ | refine blk_drew ?_ | refine blk_alloc ?_ _)); refine blk_put (cs := #[.slice Ao22 x6_1.length co22, .int .i64 0]) ?_ 1 _ rfl; (with_reducible repeat (first | refine blk_drewN ?_ _ | refine blk_drew ?_ | refine blk_alloc ?_ _)); refine blk_put (cs := #[.slice none 0 0, .int .i64 0]) ?_ 0 _ rfl; (with_reducible repeat (first | refine blk_drewN ?_ _ | refine blk_drew ?_ | refine blk_alloc ?_ _)); exact BK166.out) Try.underlying31 rfl (by kernel_rfl)) rfl ?_
                exact ⟨_, by first | rfl | (simp [errW_none, errW_some] <;> rfl) | (simp only [← hji6]; first | rfl | (simp [errW_none, errW_some] <;> rfl)) | (simp [*, errW_none, errW_some] <;> rfl), by (with_reducible repeat (first | apply Kd.R_alloc | apply Kd.R_drewN | apply Kd.R_drew)); exact Kd.R_mono (Kd.R_far (p := ⟨gb166, 1, none⟩) (Kd.R_far (p := ⟨gb166, 0, none⟩) (Kd.R_types HO_6.out BK166.out (by decide)) (fun _ hk => hk.2) (.slice Ao22 x6_1.length co22)) (fun _ hk => hk.2) (.int .i64 0)) (fun _ hk => trivial), by repeat (first | (with_reducible first | exact HB.out | apply below_alloc | apply pw_below_drewN | apply below_drew1 | refine below_set ?_ GE166.out) | exact HB.out)⟩
        · rw [if_neg c8] at H
          exact absurd H (by simp)
      · rw [if_neg c7] at H
        exact absurd H (by simp)
    · rw [if_neg c5] at H
      exact absurd H (by simp)
  · replace c4 := Bool.eq_false_iff.mpr c4
    subst c4
    have H1 : (some (([] : List Int), 3)) = some (r1, r2) := by rw [if_neg (show ¬ (false = true) by decide)] at H; exact H
    clear H
    have H := H1
    clear H1
    simp only [Option.some.injEq, Prod.mk.injEq] at H
    obtain ⟨rfl, rfl⟩ := H
    go_enter Try.func69, Try.ntmps69
    go_wp2_with (first | ((with_reducible refine gate_dst (N := 4) rfl ?_); refine box_event ?hg (N := 4) ?hd (cs := #[.slice none 0 0, .int .i64 0]) (t := 31) ?hr ?_; (case hd => rfl); (case hg => rfl); (case hr => first | (go_simp; done) | (go_simp; rfl)); intro gb166 hg w24 hbox hb; have n0_ := Aside0.mk (below_step (by repeat (first | (with_reducible first | exact HB.out | apply below_alloc | apply pw_below_drewN | apply below_drew1) | exact HB.out)) hb); have n1_ := Aside0.mk (hbox); have n2_ := Aside0.mk ((by rw [hg]; exact (below_size (by repeat (first | (with_reducible first | exact HB.out | apply below_alloc | apply pw_below_drewN | apply below_drew1) | exact HB.out))) : w.heap.size ≤ gb166)); have n3_ := Aside0.mk ((by rw [hg]; exact (below_size (by repeat (first | (with_reducible first | exact HB.out | apply below_alloc | apply pw_below_drewN | apply below_drew1) | exact HB.out))) : w.heap.size ≤ gb166)); clear HB; have HB := n0_; have BK166 := n1_; have GW166 := n2_; have GE166 := n3_; clear n0_ n1_ n2_ n3_; clear hb hbox hg) | ((with_reducible refine gate_callee (f := 82) rfl ?_); refine goesL_ (some 12) rfl rfl Try.func82 (by kernel_rfl) rfl #[.slice A0 l0.length c0, .int .i64 a1] rfl (by (try simp only [List.map_toArray, List.map_cons, List.map_nil]); first | done | rfl | (simp only [List.length_drop, List.length_take]; rfl)) ?_; (with_reducible refine (wringerref7_MayNorm.calls k _ _ l0 a1 false _ ?side1 ?side2 A3.out).mono ?_); (case side1 => repeat (first | exact (Kd.C_below HR0.out HB.out) | (with_reducible refine Kd.C_alloc ?_ _) | (with_reducible refine Kd.C_drewN ?_ _) | (with_reducible refine Kd.C_drew ?_))); (case side2 => exact HC0.out); rintro e w' ⟨rfl, ⟨nd, rfl⟩⟩; refine ⟨_, rfl, ?_⟩; (try (rw [drewN_self w24]; generalize hq_ : World.drewN w24 _ = w24; have n0_ : Aside0 (w24.heap[gb166]? = some (.cells #[.slice none 0 0, .int .i64 0] 31 (0, 0))) := ⟨by rw [← hq_]; exact (by (with_reducible repeat (first | refine blk_drewN ?_ _ | refine blk_drew ?_ | refine blk_alloc ?_ _)); exact BK166.out)⟩; have n1_ : Aside0 (Below w.heap.size w w24) := ⟨by rw [← hq_]; exact (by repeat (first | (with_reducible first | exact HB.out | apply below_alloc | apply pw_below_drewN | apply below_drew1 | refine below_set ?_ GE166.out) | exact HB.out))⟩; clear BK166 HB hq_; have BK166 := n0_; have HB := n1_; clear n0_ n1_)); have hcz25_0 : w24.cell? ⟨gb166, 0, none⟩ = some (.slice none 0 0) := (blk_cell BK166.out 0).trans rfl; have hcz25_1 : w24.cell? ⟨gb166, 1, none⟩ = some (.int .i64 0) := (blk_cell BK166.out 1).trans rfl; have hfz25_0 := blk_frozen BK166.out 0; have hfz25_1 := blk_frozen BK166.out 1))
    refine bodyPost_ret (results_cell_row rfl _ _ gb166 31 #[.slice none 0 0, .int .i64 3] (0, 0) _ rfl (by (with_reducible repeat (first | refine blk_drewN ?_ _ | refine blk_drew ?_ | refine blk_alloc ?_ _)); refine blk_put (cs := #[.slice none 0 0, .int .i64 0]) ?_ 1 _ rfl; (with_reducible repeat (first | refine blk_drewN ?_ _ | refine blk_drew ?_ | refine blk_alloc ?_ _)); refine blk_put (cs := #[.slice none 0 0, .int .i64 0]) ?_ 0 _ rfl; (with_reducible repeat (first | refine blk_drewN ?_ _ | refine blk_drew ?_ | refine blk_alloc ?_ _)); exact BK166.out) Try.underlying31 rfl (by kernel_rfl)) rfl ?_
    exact ⟨_, by first | rfl | (simp [errW_none, errW_some] <;> rfl) | (simp [*, errW_none, errW_some] <;> rfl), by first | exact Kd.R_nil _ _ _ _ _ | exact Kd.N_nil _ _ _ _ _ | exact Kd.V_nil _ _ _ _ _ | exact Kd.Q_nil _ _ _ _ _ | exact Kd.S_nil _ _ _ _ _, by repeat (first | (with_reducible first | exact HB.out | apply below_alloc | apply pw_below_drewN | apply below_drew1 | refine below_set ?_ GE166.out) | exact HB.out)⟩

end Go.Proofs.Yteeegomdaebobaa.PA

-- ---- Us
/- Classes at their places: what both functions come to. -/
namespace Go.Proofs.Yteeegomdaebobaa.PA
set_option maxRecDepth 100000
set_option linter.unusedVariables false
set_option linter.unusedSimpArgs false
open Go.RowKit Go.Proofs.YteeegomdaebobaaW.PrintWords Go.Proofs.YteeegomdaebobaaW.PrintLast Go.Proofs.YteeegomdaebobaaW.PrintMore Nl Sp

theorem next_at (S a : Nat) (hS : S ≤ 4096) (ha : a < S) : Int.tmod (wrap64 (wrap64 (wrap64 ((a : Int) + wrap64 (Int.tdiv (S : Int) 2)) + wrap64 (Int.tdiv (S : Int) 8)) + 3)) (S : Int) = (((a + S / 2 + S / 8 + 3) % S : Nat) : Int) := by
  have e2 : Int.tdiv (S : Int) 2 = ((S / 2 : Nat) : Int) := tdiv_nat S 2
  have e8 : Int.tdiv (S : Int) 8 = ((S / 8 : Nat) : Int) := tdiv_nat S 8
  rw [e2, e8, w64 (x := ((S / 2 : Nat) : Int)) (by omega) (by omega), w64 (x := ((S / 8 : Nat) : Int)) (by omega) (by omega), w64 (x := (a : Int) + ((S / 2 : Nat) : Int)) (by omega) (by omega), w64 (x := (a : Int) + ((S / 2 : Nat) : Int) + ((S / 8 : Nat) : Int)) (by omega) (by omega), w64 (by omega) (by omega)]
  rw [show (a : Int) + ((S / 2 : Nat) : Int) + ((S / 8 : Nat) : Int) + 3 = ((a + S / 2 + S / 8 + 3 : Nat) : Int) by omega, tmod_nat]

theorem expand_succ (l : List Int) (i : Nat) : expand l (i + 1) = expand l i ++ List.replicate (l.getD i 0).toNat (i : Int) := rfl
theorem rep_snoc (n : Nat) (c : Int) : List.replicate (n + 1) c = List.replicate n c ++ [c] := List.replicate_succ'

theorem sp_l1 (S : Nat) (hS0 : 0 < S) (hS : S ≤ 4096) (l : List Int) (hl : l.length = 65) (hx : ∀ x ∈ l, 0 ≤ x ∧ x ≤ (S : Int)) (i : Nat) (hi : i < l.length) (r : List Int × Int)
    (hn : Ev (fun k => spread_Spread.l0 k (S : Int) (putN S (expand l (i + 1))).1 ((putN S (expand l (i + 1))).2 : Int) l (l.length : Int) ((i + 1 : Nat) : Int)) r) :
    ∀ (d j : Nat), j + d = (l.getD i 0).toNat → Ev (fun k => spread_Spread.l1 k (S : Int) (putN S (expand l i ++ List.replicate j (i : Int))).1 ((putN S (expand l i ++ List.replicate j (i : Int))).2 : Int) (i : Int) l (l.length : Int) (i : Int) (l.getD i 0) (j : Int)) r := by
  have hxi := hx _ (getD_mem hi)
  intro d
  induction d with
  | zero =>
    intro j hj
    refine Ev.step (f := fun k => spread_Spread.l0 k (S : Int) (putN S (expand l (i + 1))).1 ((putN S (expand l (i + 1))).2 : Int) l (l.length : Int) ((i + 1 : Nat) : Int)) (fun k => ?_) hn
    simp only [spread_Spread.l1]
    rw [if_neg (by omega), w64 (by omega) (by omega), expand_succ, show (l.getD i 0).toNat = j by omega]; rfl
  | succ d ih =>
    intro j hj
    have ih := ih (j + 1) (by omega)
    rw [rep_snoc, ← List.append_assoc, putN_snoc] at ih
    have h1 := length_putN S (expand l i ++ List.replicate j (i : Int))
    have h2 := at_putN S hS0 (expand l i ++ List.replicate j (i : Int))
    generalize putN S (expand l i ++ List.replicate j (i : Int)) = st at ih h1 h2
    obtain ⟨o, a⟩ := st
    simp only [put1] at ih h1 h2 ⊢
    refine Ev.step (f := fun k => spread_Spread.l1 k (S : Int) (o.set a (i : Int)) (((a + S / 2 + S / 8 + 3) % S : Nat) : Int) (i : Int) l (l.length : Int) (i : Int) (l.getD i 0) ((j + 1 : Nat) : Int)) (fun k => ?_) ih
    simp only [spread_Spread.l1]
    rw [if_pos (by omega), if_pos (by omega), if_pos (by omega), if_neg (by omega), next_at S a hS h2, w64 (by omega) (by omega)]; rfl
theorem sp_l0 (S : Nat) (hS0 : 0 < S) (hS : S ≤ 4096) (l : List Int) (hl : l.length = 65) (hx : ∀ x ∈ l, 0 ≤ x ∧ x ≤ (S : Int)) :
    ∀ (d i : Nat), i + d = l.length → Ev (fun k => spread_Spread.l0 k (S : Int) (putN S (expand l i)).1 ((putN S (expand l i)).2 : Int) l (l.length : Int) (i : Int)) (spread l S, 0) := by
  intro d
  induction d with
  | zero =>
    intro i hi
    refine Ev.step (f := fun _ => some ((putN S (expand l i)).1, 0)) (fun k => by simp only [spread_Spread.l0]; rw [if_neg (by omega)]) (Ev.ofSome ?_)
    rw [show i = l.length by omega]; rfl
  | succ d ih =>
    intro i hi
    have h := sp_l1 S hS0 hS l hl hx i (by omega) _ (ih (i + 1) (by omega)) (l.getD i 0).toNat 0 (by omega)
    rw [List.replicate_zero, List.append_nil] at h
    refine Ev.step (f := fun k => spread_Spread.l1 k (S : Int) (putN S (expand l i)).1 ((putN S (expand l i)).2 : Int) (i : Int) l (l.length : Int) (i : Int) (l.getD i 0) ((0 : Nat) : Int)) (fun k => ?_) h
    simp only [spread_Spread.l0]
    rw [if_pos (by omega), if_pos (by omega), if_pos (by omega), rd_nat]; rfl

/-- The answer of both. -/
def spreadE (l : List Int) (a : Int) : List Int × Int := if mayN l a = true then (spread l (2 ^ a.toNat), 0) else ([], 3)
theorem spread_is (l : List Int) (a : Int) : Ev (fun k => spread_Spread.f k l a) (spreadE l a) := by
  unfold spread_Spread.f spreadE
  refine Ev.bind (may_is l a) ?_
  by_cases h : mayN l a = true
  · obtain ⟨m, rfl, hm⟩ := (may_iff l a).1 h
    have h1 := hm.hi
    have hp : 2 ^ m ≤ 4096 := by have := pow2_le m 12 h1; omega
    have hp0 : 0 < 2 ^ m := Nat.pow_pos (by decide)
    rw [if_pos h, Int.toNat_natCast]
    refine Ev.ite_pos h (Ev.ite_pos (by omega) (Ev.ite_pos (by rw [shl_1 m (by omega)]; omega) (Ev.ite_pos (by rw [shl_1 m (by omega)]; omega) ?_)))
    have := sp_l0 (2 ^ m) hp0 hp l hm.len hm.each l.length 0 (by omega)
    refine Ev.congr (fun k => ?_) this
    rw [shl_1 m (by omega), Int.toNat_natCast]; rfl
  · rw [if_neg h]
    exact Ev.ite_neg h (Ev.now _)

theorem rsp_l1 (S : Nat) (hS0 : 0 < S) (hS : S ≤ 4096) (l : List Int) (hl : l.length = 65) (hx : ∀ x ∈ l, 0 ≤ x ∧ x ≤ (S : Int)) (i : Nat) (hi : i < l.length) (r : List Int × Int)
    (hn : Ev (fun k => wringerref7_Spread.l0 k l (S : Int) (putN S (expand l (i + 1))).1 ((putN S (expand l (i + 1))).2 : Int) ((i + 1 : Nat) : Int)) r) :
    ∀ (d j : Nat), j + d = (l.getD i 0).toNat → Ev (fun k => wringerref7_Spread.l1 k l (S : Int) (putN S (expand l i ++ List.replicate j (i : Int))).1 ((putN S (expand l i ++ List.replicate j (i : Int))).2 : Int) (i : Int) (j : Int)) r := by
  have hxi := hx _ (getD_mem hi)
  intro d
  induction d with
  | zero =>
    intro j hj
    refine Ev.step (f := fun k => wringerref7_Spread.l0 k l (S : Int) (putN S (expand l (i + 1))).1 ((putN S (expand l (i + 1))).2 : Int) ((i + 1 : Nat) : Int)) (fun k => ?_) hn
    simp only [wringerref7_Spread.l1]
    rw [if_pos (by omega), if_pos (by omega), rd_nat, if_neg (by omega), w64 (by omega) (by omega), expand_succ, show (l.getD i 0).toNat = j by omega]; rfl
  | succ d ih =>
    intro j hj
    have ih := ih (j + 1) (by omega)
    rw [rep_snoc, ← List.append_assoc, putN_snoc] at ih
    have h1 := length_putN S (expand l i ++ List.replicate j (i : Int))
    have h2 := at_putN S hS0 (expand l i ++ List.replicate j (i : Int))
    generalize putN S (expand l i ++ List.replicate j (i : Int)) = st at ih h1 h2
    obtain ⟨o, a⟩ := st
    simp only [put1] at ih h1 h2 ⊢
    refine Ev.step (f := fun k => wringerref7_Spread.l1 k l (S : Int) (o.set a (i : Int)) (((a + S / 2 + S / 8 + 3) % S : Nat) : Int) (i : Int) ((j + 1 : Nat) : Int)) (fun k => ?_) ih
    simp only [wringerref7_Spread.l1]
    rw [if_pos (by omega), if_pos (by omega), rd_nat, if_pos (by omega), if_pos (by omega), if_pos (by omega), if_neg (by omega), next_at S a hS h2, w64 (by omega) (by omega)]; rfl
theorem rsp_l0 (S : Nat) (hS0 : 0 < S) (hS : S ≤ 4096) (l : List Int) (hl : l.length = 65) (hx : ∀ x ∈ l, 0 ≤ x ∧ x ≤ (S : Int)) :
    ∀ (d i : Nat), i + d = l.length → Ev (fun k => wringerref7_Spread.l0 k l (S : Int) (putN S (expand l i)).1 ((putN S (expand l i)).2 : Int) (i : Int)) (spread l S, 0) := by
  intro d
  induction d with
  | zero =>
    intro i hi
    refine Ev.step (f := fun _ => some ((putN S (expand l i)).1, 0)) (fun k => by simp only [wringerref7_Spread.l0]; rw [if_neg (by omega)]) (Ev.ofSome ?_)
    rw [show i = l.length by omega]; rfl
  | succ d ih =>
    intro i hi
    have h := rsp_l1 S hS0 hS l hl hx i (by omega) _ (ih (i + 1) (by omega)) (l.getD i 0).toNat 0 (by omega)
    rw [List.replicate_zero, List.append_nil] at h
    refine Ev.step (f := fun k => wringerref7_Spread.l1 k l (S : Int) (putN S (expand l i)).1 ((putN S (expand l i)).2 : Int) (i : Int) ((0 : Nat) : Int)) (fun k => ?_) h
    simp only [wringerref7_Spread.l0]
    rw [if_pos (by omega)]; rfl
theorem rspread_is (l : List Int) (a : Int) : Ev (fun k => wringerref7_Spread.f k l a) (spreadE l a) := by
  unfold wringerref7_Spread.f spreadE
  refine Ev.bind (rmay_is l a) ?_
  by_cases h : mayN l a = true
  · obtain ⟨m, rfl, hm⟩ := (may_iff l a).1 h
    have h1 := hm.hi
    have hp : 2 ^ m ≤ 4096 := by have := pow2_le m 12 h1; omega
    have hp0 : 0 < 2 ^ m := Nat.pow_pos (by decide)
    rw [if_pos h, Int.toNat_natCast]
    refine Ev.ite_pos h (Ev.ite_pos (by omega) (Ev.ite_pos (by rw [shl_1 m (by omega)]; omega) (Ev.ite_pos (by rw [shl_1 m (by omega)]; omega) ?_)))
    have := rsp_l0 (2 ^ m) hp0 hp l hm.len hm.each l.length 0 (by omega)
    refine Ev.congr (fun k => ?_) this
    rw [shl_1 m (by omega), Int.toNat_natCast]; rfl
  · rw [if_neg h]
    exact Ev.ite_neg h (Ev.now _)
end Go.Proofs.Yteeegomdaebobaa.PA

-- ---- Tb
/- The table of states: what the call answers. -/
namespace Go.Proofs.Yteeegomdaebobaa.PA
set_option maxRecDepth 100000
set_option linter.unusedSimpArgs false
set_option linter.unusedVariables false
open Go.RowKit Go.Proofs.YteeegomdaebobaaW.PrintWords Mix _root_.Go.Proofs.Yteeegomdaebobaa.Own Ol Nl Sp
attribute [local go_sem] Own.max_int Own.min_int

theorem infoCell : (Try.prog.info? 105).map (fun i => (i.zero, i.size, i.bytes)) = some (some (.agg #[.int .i64 0, .int .i64 0, .int .i64 0]), 3, 24) := by kernel_rfl

def cellV (c : Int × Int × Int) : List Value := [.int .i64 c.1, .int .i64 c.2.1, .int .i64 c.2.2]

set_option maxHeartbeats 4000000 in
theorem table_bad (A0 : Option Addr) (c0 : Nat) (l0 : List Int) (a1 : Int) (w : World) (hr0 : Kd.C (Kd.int .i64) w A0 l0.length l0) (hc0 : l0.length ≤ c0) (hb : ¬ mayN l0 a1 = true) :
    Calls Try.prog 54 #[.slice A0 l0.length c0, .int .i64 a1] w fun e w' => e = .returned (.tuple #[.slice none 0 0, .int .i64 3]) ∧ Below w.heap.size w w' := by
  obtain ⟨k, hk⟩ := (spread_is l0 a1).rounds
  unfold spreadE at hk
  rw [if_neg hb] at hk
  have hs := spread_Spread.calls k A0 c0 l0 a1 [] 3 w hr0 hc0 hk
  obtain ⟨n, hn⟩ : ∃ n, n = l0.length := ⟨_, rfl⟩
  rw [← hn] at hs ⊢
  have HS := kept hs
  clear hr0 hc0 hb hk hs hn
  go_enter Try.func54, Try.ntmps54
  go_wp2_with (go_at_call 73; refine HS.out.mono ?_; rintro e w1 ⟨v, rfl, hr, hb⟩; have HB := kept hb; clear hb hr)
  go_ret2
  exact ⟨rfl, HB.out⟩

/-- On the way: the classes at block s, the maker at block p, its next states at block g, the cells told at v. -/
structure StT (B : Nat) (w wr : World) (m S : Nat) (l : List Int) (s sc p g c : Nat) (v : Value) (j : Nat) : Prop where
  cls : Owns wr 3 (.slice (some ⟨s, 0, none⟩) S sc) (ints .i64 (spread l S))
  maker : IsMk wr p g c m (nexts l ((spread l S).take j))
  out : OwnK wr 105 3 v j ((cells m l ((spread l S).take j)).flatMap cellV)
  sg : s ≠ g
  gB : B ≤ g
  vB : ∀ b, v.ownBlock = some b → B ≤ b
  low : Below B w wr
  sz : B ≤ wr.heap.size
/-- A slice's length. -/
def lenV : Value → Nat
  | .slice _ n _ => n
  | _ => 0
set_option maxHeartbeats 8000000 in
theorem table_ok (A0 : Option Addr) (c0 : Nat) (l0 : List Int) (m : Nat) (w : World) (hr0 : Kd.C (Kd.int .i64) w A0 l0.length l0) (hc0 : l0.length ≤ c0) (hb : mayN l0 (m : Int) = true) :
    Calls Try.prog 54 #[.slice A0 l0.length c0, .int .i64 (m : Int)] w fun e w' => ∃ v, e = .returned (.tuple #[v, .int .i64 0]) ∧ OwnK w' 105 3 v (2 ^ m) ((table l0 m).flatMap cellV) ∧ (∀ b, v.ownBlock = some b → w.heap.size ≤ b) ∧ Below w.heap.size w w' := by
  obtain ⟨k, hk⟩ := (spread_is l0 (m : Int)).rounds
  unfold spreadE at hk
  rw [if_pos hb, Int.toNat_natCast] at hk
  have hs := spread_Spread.calls k A0 c0 l0 (m : Int) _ 0 w hr0 hc0 hk
  have hM := mayS_of hb
  have h65 := hM.len
  have h12 := hM.hi
  have hp12 := pow12 m h12
  have hp0 : 0 < 2 ^ m := Nat.pow_pos (by decide)
  have hshl := shl_int m (by omega)
  have hR := Own.rd_of_C hr0
  obtain ⟨i0, hi, hz0, hz1, hz2⟩ := info_partsI infoI64
  obtain ⟨j0, hj, hy0, hy1, hy2⟩ := info_partsI infoCell
  obtain ⟨x0, rfl, hxc⟩ := hR.at (Own.ints_at .i64 l0 0 (by omega))
  rw [h65] at hR hs ⊢
  obtain ⟨B, hB⟩ : ∃ B, B = w.heap.size := ⟨_, rfl⟩
  obtain ⟨P, hP⟩ : ∃ P, P = 2 ^ m := ⟨_, rfl⟩
  have hm63 : m < 63 := by omega
  have HS := kept hs
  have HM := kept hM
  have HR := kept hR
  have HB := kept hB
  have HP := kept hP
  have H65 := kept h65
  rw [← hP] at hshl hp12 hp0
  clear hr0 hc0 hb hk hs hM hR hxc hB hP h12 h65
  go_enter Try.func54, Try.ntmps54
  go_wp2_with (first | (go_at_call 73; refine HS.out.mono ?_; rintro e w1 ⟨v, rfl, hr, hb⟩; have HB1 := kept hb; obtain ⟨ho, hnew⟩ := Own.owns_of_R hr; have HO := kept ho; have HNew := kept hnew; clear hb hr ho hnew))
  obtain ⟨sa, sc, rfl, hsg⟩ := HO.out.slice
  have hsl : (ints .i64 (spread l0 (2 ^ m))).length = P := by rw [length_ints, length_spread]; exact HP.out.symm
  rw [hsl] at HO HNew ⊢
  rw [← HP.out] at HO
  obtain ⟨g0, rfl⟩ := hsg (fun e => by rw [e] at hsl; simp at hsl; omega)
  clear hsl
  have HR1 := kept (HR.out.later HB1.out)
  refine wp_region_mixL [0,1,2] [4] [3,5,6,7,8] (by kernel_rfl) (by kernel_rfl) ?_
  intro K hK
  simp only [pick, List.filterMap_cons, List.filterMap_nil, List.getElem?_cons_zero, List.getElem?_cons_succ]
  repeat (show wpQuiet _ _ _ _ (_ :: _) _; go_big_quiet_step (fail))
  refine wpQuiet_nil ?_
  show wpList _ _ _ [_, _, _, _, _] _ _
  rw [hshl]
  generalize hwd : World.drew w1 = w2
  have HO2 : Kept (Owns w2 3 (.slice (some ⟨g0, 0, none⟩) P sc) (ints .i64 (spread l0 P))) := kept (by rw [← hwd]; exact HO.out)
  have HB2 : Kept (Below w.heap.size w w2) := kept (by rw [← hwd]; exact HB1.out.drew)
  have HR2 : Kept (Rd w2 (.slice (some x0) 65 65) (ints .i64 l0)) := kept (by rw [← hwd]; exact HR1.out)
  clear hwd HB1 HO HR1
  have hO3 : Owns (w2.alloc (.cells #[] 3)) 3 (.slice (some ⟨w2.heap.size, 0, none⟩) 0 0) [] :=
    Owns.mk (xs := []) (Blk.fresh _ _ _) (Nat.le_refl _) (by simp [maxLen]) rfl rfl
  have HO3 := kept hO3
  have hnews : ∀ j u, (ints .i64 l0)[j]? = some u → (w2.alloc (.cells #[] 3)).cell? (x0.add j) = some u := fun j u hu => by
    obtain ⟨x', hxx, hc⟩ := (HR2.out.later (show Below w2.heap.size w2 (w2.alloc (.cells #[] 3)) from (Below.refl _ _).alloc (Nat.le_refl _) _)).at hu
    cases hxx
    exact hc
  have HNews := kept hnews
  have HL0 : Kept ((ints .i64 l0).length = 65) := kept (by rw [length_ints]; exact H65.out)
  clear hO3 hnews
  go_wp2_with (first | (at_builtin; refine wpList_app rfl _ _ 28 rfl 3 i0 (.int .i64 0) 8 Try.underlying28 hi hz0 hz1 hz2 rfl _ _ rfl HO3.out x0 _ _ _ rfl HL0.out HNews.out ?_ ?_ ?_ ?_) | fail)
  · intro u hu; obtain ⟨n, _, rfl⟩ := List.mem_map.1 hu; rfl
  · simp [maxLen]
  · simp
  intro v3 w3 O3 C3 F3
  obtain ⟨a3, c3, rfl, hg3⟩ := O3.slice
  rw [HL0.out] at O3 F3 ⊢
  obtain ⟨g3, rfl⟩ := hg3 (fun e => by have := HL0.out; rw [e] at this; simp at this)
  clear hg3
  have hge3 : w2.heap.size ≤ g3 := by
    rcases F3 g3 rfl with h | h
    · simp [Value.ownBlock] at h; omega
    · omega
  have hb23 : Below w2.heap.size w2 w3 := (((Chg.alloc (fun _ => False) w2 _).trans C3 (fun b hb h => by simp [Value.ownBlock] at h; omega)) : Chg (fun _ => False) w2 w3).below (Nat.le_refl _) (fun _ _ h => h)
  have HB3 : Kept (Below w.heap.size w w3) := kept (HB2.out.trans (hb23.mono HB2.out.size))
  have HO4 : Kept (Owns w3 3 (.slice (some ⟨g0, 0, none⟩) P sc) (ints .i64 (spread l0 P))) := kept (HO2.out.keep fun b _ hl => hb23.block b hl)
  have HG3 : Kept (Owns w3 3 (.slice (some ⟨g3, 0, none⟩) 65 c3) (ints .i64 l0)) := kept O3
  have HNe : Kept (g0 ≠ g3) := kept (by have := HO2.out.lt g0 rfl; omega)
  have HGe : Kept (w.heap.size ≤ g3) := kept (Nat.le_trans HB2.out.size hge3)
  have hc3 : 65 ≤ c3 := by
    rcases O3.form with ⟨hv, _⟩ | ⟨g', cap', cur, hv, _, h3, h4, _⟩
    · simp at hv
    · simp only [Value.slice.injEq] at hv; rw [hv.2.2]; rw [HL0.out] at h3; exact h3
  clear O3 C3 F3 hb23 hge3 HO2 HB2 HR2 HO3 HNews hsg
  go_wp2_with fail
  refine hK _ _ ?_
  generalize hw4 : World.alloc w3 _ = w4
  have hb34 : Below w3.heap.size w3 w4 := by rw [← hw4]; exact (Below.refl _ _).alloc (Nat.le_refl _) _
  have HMk : Kept (IsMk w4 w3.heap.size g3 c3 m l0) := kept ⟨by rw [← hw4, ← HP.out]; exact Blk.fresh _ _ _, HG3.out.keep fun b _ hl => hb34.block b hl⟩
  have HO5 : Kept (Owns w4 3 (.slice (some ⟨g0, 0, none⟩) P sc) (ints .i64 (spread l0 P))) := kept (HO4.out.keep fun b _ hl => hb34.block b hl)
  have HB4 : Kept (Below w.heap.size w w4) := kept (HB3.out.trans (hb34.mono HB3.out.size))
  obtain ⟨p, hp⟩ : ∃ p, p = w3.heap.size := ⟨_, rfl⟩
  rw [← hp] at HMk ⊢
  clear hw4 hb34 HO4 HB3 HG3 hp
  go_wp2_with (first | (refine wpList_mkK0 rfl _ _ 75 rfl 105 j0 (.agg #[.int .i64 0, .int .i64 0, .int .i64 0]) 3 24 Try.underlying75 hj hy0 hy1 hy2 .i64 .i64 _ P rfl rfl rfl (by omega) (by simp [maxLen]; omega) ?_))
  intro w5 ho5 hb5
  have HSt0 : Kept (StT w.heap.size w w5 m P l0 g0 sc p g3 c3 (.slice (some ⟨w4.heap.size, 0, none⟩) 0 P) 0) := kept
    ⟨HO5.out.keep fun b _ hl => hb5.block b hl, by simpa [nexts] using HMk.out.later hb5, by simpa [cells] using ho5, HNe.out, HGe.out, fun b hb => by simp [Value.ownBlock] at hb; have := HB4.out.size; omega, HB4.out.trans (hb5.mono HB4.out.size), Nat.le_trans HB4.out.size hb5.size⟩
  obtain ⟨V0, hV0⟩ : ∃ V0, V0 = w4.heap.size := ⟨_, rfl⟩
  rw [← hV0] at HSt0 ⊢
  clear ho5 hb5 HO5 HMk HB4 hV0 HNe HGe
  go_wp2_with fail
  go_loopw [9] (fun s9 wr => ∃ (j : Nat) (v : Value), j ≤ P ∧ v = s9 ∧ StT w.heap.size w wr m P l0 g0 sc p g3 c3 v j) (fun s9 _ => P - lenV s9)
  case atStart => exact ⟨0, _, Nat.zero_le _, rfl, HSt0.out⟩
  case round =>
    obtain ⟨j, v, hjP, rfl, hst⟩ := hrel
    obtain ⟨av, cv, rfl, hjc, hcm, hav⟩ := hst.out.slice
    simp only [maxLen] at hcm
    have HSt := kept hst
    clear hst
    by_cases hlt : j < P
    · obtain ⟨c, x, r, hS, hc65, hnx, hx0, hx1, _, _, _, _⟩ := HM.out.next j (by rw [← HP.out]; exact hlt)
      rw [← HP.out] at hS hnx
      have hsl : (spread l0 P).length = P := length_spread l0 P
      have hcc := HSt.out.cls.cell (Own.ints_at .i64 (spread l0 P) j (by omega))
      rw [hS] at hcc
      have hcall := cell_calls p g3 c3 m _ c x wr (by have := HM.out.hi; omega) HSt.out.maker hc65 hnx hx0 hx1
      have htk : (spread l0 P).take (j + 1) = (spread l0 P).take j ++ [(c : Int)] := by
        rw [List.take_succ_eq_append_getElem (by omega)]
        have e : (spread l0 P).getD j 0 = (spread l0 P)[j]'(by omega) := by simp [List.getD_eq_getElem?_getD, show j < (spread l0 P).length by omega]
        rw [← e, hS]
      have hcells : cells m l0 ((spread l0 P).take (j + 1)) = cells m l0 ((spread l0 P).take j) ++ [cellOf m (c : Int) x] := by
        rw [htk, cells_snoc, Int.toNat_natCast, hnx, Int.toNat_natCast]
      have hnexts : nexts l0 ((spread l0 P).take (j + 1)) = bump (nexts l0 ((spread l0 P).take j)) c 1 := by rw [htk, nexts_snoc, Int.toNat_natCast]
      have HCall := kept hcall
      have HCells := kept hcells
      have HNexts := kept hnexts
      clear hcall hcells hnexts htk hS hnx hx1 hsl
      obtain ⟨cl, hcl⟩ : ∃ cl, cl = cellOf m (c : Int) x := ⟨_, rfl⟩
      rw [← hcl] at HCells HCall
      clear hcl
      obtain ⟨cl0, cl1, cl2⟩ := cl
      go_wp2_with (first
        | (go_at_call 74
           refine HCall.out.mono ?_
           rintro e w6 ⟨rfl, hmk6, hch6⟩
           have hvg : (Value.slice av j cv).ownBlock ≠ some g3 := HSt.out.out.neO HSt.out.maker.row (by decide) rfl
           have HMk6 := kept hmk6
           have HO6 : Kept (OwnK w6 105 3 (.slice av j cv) j ((cells m l0 ((spread l0 P).take j)).flatMap cellV)) := kept (HSt.out.out.chg hch6 (fun b hb e => hvg (by rw [hb, e])))
           have HCl6 : Kept (Owns w6 3 (.slice (some ⟨g0, 0, none⟩) P sc) (ints .i64 (spread l0 P))) := kept (HSt.out.cls.chg hch6 (fun b hb e => HSt.out.sg (by simp [Value.ownBlock] at hb; rw [hb, e])))
           have HB6 : Kept (Below w.heap.size w w6) := kept (HSt.out.low.trans (hch6.below HSt.out.sz (fun b hb e => by have := HSt.out.gB; omega)))
           have HSz6 : Kept (w.heap.size ≤ w6.heap.size) := kept (Nat.le_trans HSt.out.sz hch6.size)
           have HVl : Kept (∀ b, (Value.slice av j cv).ownBlock = some b → b < w6.heap.size) := kept HO6.out.lt
           clear hmk6 hch6 hvg)
        | (at_builtin; go_loud (refine wpList_appK1 rfl _ _ 75 rfl 105 j0 (.agg #[.int .i64 0, .int .i64 0, .int .i64 0]) 3 24 Try.underlying75 hj hy0 hy1 hy2 rfl (by decide) (.slice av j cv) j _ [.int .i64 cl0, .int .i64 cl1, .int .i64 cl2] rfl HO6.out rfl (by intro u hu; simp at hu; rcases hu with rfl | rfl | rfl <;> rfl) rfl ?_ ?_ ?_)))
      · simp [maxLen]; omega
      · omega
      intro v7 w7 O7 C7 F7
      have HSt7 : Kept (StT w.heap.size w w7 m P l0 g0 sc p g3 c3 v7 (j + 1)) := kept (by
        have hne1 : ∀ b, (Value.slice av j cv).ownBlock = some b → b ≠ p := fun b hb e => HO6.out.ne HMk6.out.blk (by decide) (by rw [hb, e])
        have hne2 : (Value.slice av j cv).ownBlock ≠ some g3 := HO6.out.neO HMk6.out.row (by decide) rfl
        have hne3 : (Value.slice av j cv).ownBlock ≠ some g0 := HO6.out.neO HCl6.out (by decide) rfl
        refine ⟨HCl6.out.chg C7 (fun b hb e => hne3 (by simp [Value.ownBlock] at hb; rw [← e, hb])), ?_, ?_, HSt.out.sg, HSt.out.gB, fun b hb => ?_, HB6.out.trans (C7.below HSz6.out (fun b hb e => by have := HSt.out.vB b e.symm; omega)), Nat.le_trans HSz6.out C7.size⟩
        · rw [HNexts.out]
          exact ⟨C7.keep HMk6.out.blk (fun e => hne1 p e.symm rfl), HMk6.out.row.chg C7 (fun b hb e => hne2 (by simp [Value.ownBlock] at hb; rw [← e, hb]))⟩
        · rw [HCells.out, List.flatMap_append]; simpa [cellV] using O7
        · rcases F7 b hb with h | h
          · exact HSt.out.vB b h.symm
          · have := HSz6.out; omega)
      obtain ⟨a7, c7, rfl, _⟩ := O7.slice
      clear O7 C7 F7
      go_wp2_with fail
      go_roundw
      case rel => exact ⟨j + 1, _, by omega, rfl, HSt7.out⟩
      case measure => simp [lenV]; omega
    · have hje : j = P := by omega
      subst hje
      have HOut : Kept (OwnK wr 105 3 (.slice av j cv) (2 ^ m) ((table l0 m).flatMap cellV)) := kept (by
        have h := HSt.out.out
        rw [List.take_of_length_le (by rw [length_spread]; exact Nat.le_refl _)] at h
        unfold table; rw [← HP.out]; exact h)
      go_wp2_with fail
      go_ret2
      exact ⟨_, rfl, HOut.out, HSt.out.vB, HSt.out.low⟩
end Go.Proofs.Yteeegomdaebobaa.PA

-- ---- Sm
/- states.made: the coder of counts. Conditions: those that each theorem names. -/
namespace Go.Proofs.Yteeegomdaebobaa.St
set_option maxRecDepth 100000
set_option linter.unusedSimpArgs false
set_option linter.unusedVariables false
open Go.RowKit Mix _root_.Go.Proofs.Yteeegomdaebobaa.Own Nl Sp Go.Proofs.YteeegomdaebobaaW.PrintWords
attribute [local go_sem] Own.max_int Own.min_int

set_option maxHeartbeats 2000000 in
theorem made_bad (A0 : Option Addr) (c0 : Nat) (l : List Int) (a1 : Int) (w : World) (hr0 : Kd.C (Kd.int .i64) w A0 l.length l) (hc0 : l.length ≤ c0) (hb : mayN l a1 = false) :
    Calls Try.prog 26 #[.slice A0 l.length c0, .int .i64 a1] w fun e w' => e = .returned (.tuple #[.pointer none, .int .i64 3]) ∧ Below w.heap.size w w' := by
  have HT := kept (PA.table_bad A0 c0 l a1 w hr0 hc0 (by rw [hb]; decide))
  obtain ⟨n, hn⟩ : ∃ n, n = l.length := ⟨_, rfl⟩
  rw [← hn] at HT ⊢
  clear hr0 hc0 hb hn
  go_enter Try.func26, Try.ntmps26
  go_wp2_with (go_at_call 54; refine HT.out.mono ?_; rintro e w1 ⟨rfl, hb⟩; have HB := kept hb; clear hb)
  go_ret2
  exact ⟨rfl, HB.out.alloc HB.out.size _⟩

/-- Rows on the way: of each class the places among the first ones. -/
structure RowsN (l : List Int) (m n : Nat) (R : List (Value × List Nat)) : Prop where
  at_ : ∀ c v xs, R[c]? = some (v, xs) → xs = placesC l m c n
def nil65 : List (Value × List Nat) := List.replicate 65 (.slice none 0 0, [])
theorem placesC_succ {l : List Int} {m n : Nat} (c : Nat) : placesC l m c (n + 1) = placesC l m c n ++ (if tC l m n = c then [n] else []) := by
  unfold placesC
  rw [List.range_succ, List.filter_append]
  congr 1
  by_cases h : tC l m n = c
  · simp [h]
  · simp [h]
theorem rowsN_nil (l : List Int) (m : Nat) : RowsN l m 0 nil65 := ⟨fun c v xs h => by
  unfold nil65 at h
  rw [List.getElem?_replicate] at h
  split at h
  · simp only [Option.some.injEq, Prod.mk.injEq] at h; rw [← h.2]; rfl
  · cases h⟩
theorem RowsN.next {l : List Int} {m n : Nat} {R : List (Value × List Nat)} (h : RowsN l m n R) {c : Nat} {v v' : Value} {xs : List Nat} (hc : R[c]? = some (v, xs)) (ht : tC l m n = c) : RowsN l m (n + 1) (R.set c (v', xs ++ [n])) := ⟨fun d u ys hd => by
  have hl := (List.getElem?_eq_some_iff.1 hc).1
  by_cases e : d = c
  · subst e
    rw [List.getElem?_set_self hl] at hd
    simp only [Option.some.injEq, Prod.mk.injEq] at hd
    rw [placesC_succ, if_pos ht, ← hd.2, h.at_ d v xs hc]
  · rw [List.getElem?_set_ne (fun x => e x.symm)] at hd
    rw [placesC_succ, if_neg (by omega), List.append_nil]
    exact h.at_ d u ys hd⟩

/-- The worlds in which some blocks lie as they lay. -/
def KpL (w : World) (ps : List Nat) : Type := { w' : World // ∀ p ∈ ps, p < w.heap.size → p < w'.heap.size ∧ w'.heap[p]? = w.heap[p]? }
def KpL.w {w : World} {ps : List Nat} (n : KpL w ps) : World := n.val
instance (w : World) (ps : List Nat) : Nonempty (KpL w ps) := ⟨⟨w, fun p _ h => ⟨h, rfl⟩⟩⟩
theorem kpl_cell {w : World} {p : Addr} {v : Value} {ps : List Nat} (h : w.cell? p = some v) (hp : p.block ∈ ps) (n : KpL w ps) : n.w.cell? p = some v := by
  have := (n.property p.block hp (World.block_lt_of_cell? w p h)).2
  exact (World.cell?_of_block (w := w) (a := p) this).trans h
theorem kpl_below {w : World} {ps : List Nat} : ∀ w1 w2, (∃ n : KpL w ps, w1 = n.w) → Below w1.heap.size w1 w2 → ∃ n : KpL w ps, w2 = n.w := fun w1 w2 ⟨n, e⟩ hb => by
  subst e
  exact ⟨⟨w2, fun p hp h => ⟨Nat.lt_of_lt_of_le (n.property p hp h).1 hb.size, (hb.block p (n.property p hp h).1).trans (n.property p hp h).2⟩⟩, rfl⟩
theorem kpl_drew (w : World) (ps : List Nat) : ∃ n : KpL w ps, w.drew = n.w := ⟨⟨w.drew, fun p _ h => ⟨h, rfl⟩⟩, rfl⟩
theorem set_same {α : Type} {l : List α} {i : Nat} {x : α} (h : l[i]? = some x) : l.set i x = l := by
  apply List.ext_getElem?
  intro k
  rw [List.getElem?_set]
  split
  · rename_i e; subst e
    have hl := (List.getElem?_eq_some_iff.1 h).1
    rw [if_pos hl, h]
  · rfl
theorem info_arr (n : Nat) (h : n = 65) : (Try.prog.info? 76).map (·.size) = some n := by subst h; kernel_rfl
/-- An element of an array that was read whole. -/
theorem index_arr (A : Array Value) (c : Nat) (v : Value) (hc : c < 65) (hA : A[c]? = some v) (w : World) : (Instr.index 76 (.agg A) (.int .i64 (c : Int))).run Try.prog w = .ok v w := by
  unfold Instr.index
  simp only [asIntOf, Sem.run_bind, Sem.run_pure, Result.andThen_ok, run_underlying Try.underlying76 w]
  rw [if_pos ⟨by omega, by omega⟩]
  simp [Sem.run_bind, part, sizeOf, isAgg, run_underlying Try.underlying28, Result.andThen, show Try.t28.size = 1 from rfl, hA]
theorem kpl_of2 {w w' : World} {p q : Nat} {cs ds : Array Value} {t u : TypeId} (h1 : Blk w p cs t) (h1' : Blk w' p cs t) (h2 : Blk w q ds u) (h2' : Blk w' q ds u) : ∃ n : KpL w [p, q], w' = n.w :=
  ⟨⟨w', fun k hk _ => by
    simp only [List.mem_cons, List.not_mem_nil, or_false] at hk
    rcases hk with rfl | rfl
    · exact ⟨h1'.lt, by rw [show w'.heap[k]? = _ from h1', show w.heap[k]? = _ from h1]⟩
    · exact ⟨h2'.lt, by rw [show w'.heap[k]? = _ from h2', show w.heap[k]? = _ from h2]⟩⟩, rfl⟩
theorem coder_zero (tv : Value) : Try.zeroCells79.setIfInBounds 0 tv = coC tv nil65 0 (.slice none 0 0) (.slice none 0 0) := by rfl
theorem many_nil (B : Nat) (w : World) (e : TypeId) (n : Nat) : Many B w e ((List.replicate n (Value.slice none 0 0, ([] : List Nat))).map rowV) := by
  have key : ∀ (i : Nat) v xs, ((List.replicate n (Value.slice none 0 0, ([] : List Nat))).map rowV)[i]? = some (v, xs) → v = .slice none 0 0 ∧ xs = [] := fun i v xs h => by
    rw [List.map_replicate, List.getElem?_replicate] at h
    split at h
    · simp only [rowV, Own.nums, List.map_nil, Option.some.injEq, Prod.mk.injEq] at h; exact ⟨h.1.symm, h.2.symm⟩
    · cases h
  refine ⟨fun i v xs h => ?_, fun i v xs h b hb => ?_, fun i j a xs b ys _ h _ c hc => ?_⟩
  · obtain ⟨rfl, rfl⟩ := key i v xs h; exact Owns.nil w e
  · obtain ⟨rfl, rfl⟩ := key i v xs h; simp [Value.ownBlock] at hb
  · obtain ⟨rfl, rfl⟩ := key i a xs h; simp [Value.ownBlock] at hc

set_option maxHeartbeats 16000000 in
theorem made_ok (A0 : Option Addr) (c0 : Nat) (l : List Int) (m : Nat) (w : World) (hr0 : Kd.C (Kd.int .i64) w A0 l.length l) (hc0 : l.length ≤ c0) (hb : mayN l (m : Int) = true) :
    Calls Try.prog 26 #[.slice A0 l.length c0, .int .i64 (m : Int)] w fun e w' => ∃ p tv R, e = .returned (.tuple #[.pointer (some ⟨p, 0, none⟩), .int .i64 0]) ∧
      Co w.heap.size w' p (coC tv R 0 (.slice none 0 0) (.slice none 0 0)) tv (table l m) R (.slice none 0 0) [] (.slice none 0 0) [] ∧ (∀ c v xs, R[c]? = some (v, xs) → RowS l m c xs) ∧ Below w.heap.size w w' := by
  have HT := kept (PA.table_ok A0 c0 l m w hr0 hc0 hb)
  have HM := kept (mayS_of hb)
  obtain ⟨iI, hiI, hI0, hI1, hI2⟩ := info_partsS infoInt
  have h12 : 2 ^ m ≤ 4096 := pow12 m HM.out.hi
  have hp0 : 0 < 2 ^ m := Nat.pow_pos (by decide)
  obtain ⟨n, hn⟩ : ∃ n, n = l.length := ⟨_, rfl⟩
  obtain ⟨B, hB⟩ : ∃ B, B = w.heap.size := ⟨_, rfl⟩
  obtain ⟨P, hP⟩ : ∃ P, P = 2 ^ m := ⟨_, rfl⟩
  rw [← hn, ← hB] at HT
  rw [← hn, ← hB]
  rw [← hP] at HT h12 hp0
  have HP := kept hP
  have HBe := kept hB
  clear hr0 hc0 hb hn hB hP
  go_enter Try.func26, Try.ntmps26
  go_wp2_with (go_at_call 54; refine HT.out.mono ?_)
  rintro e w1 ⟨tv, rfl, ho, hnew, hb⟩
  obtain ⟨at_, ct, rfl, _, _, hg⟩ := ho.slice
  obtain ⟨gt, rfl⟩ := hg hp0
  have HO := kept ho
  have HN := kept hnew
  have HB1 := kept hb
  clear ho hnew hb hg
  go_upto_region 4 with fail
  obtain ⟨w2, hw2⟩ : ∃ w_, w_ = World.alloc w1 (.cells #[.slice (some ⟨gt, 0, none⟩) P ct] 75) := ⟨_, rfl⟩
  obtain ⟨bx, hbx⟩ : ∃ b, b = w1.heap.size := ⟨_, rfl⟩
  have hb2 : Below w1.heap.size w1 w2 := by rw [hw2]; exact (Below.refl _ _).alloc (Nat.le_refl _) _
  have HX2 : Kept (Blk w2 bx #[.slice (some ⟨gt, 0, none⟩) P ct] 75) := kept (by rw [hw2, hbx]; exact Blk.fresh _ _ _)
  have HT2 := kept (HO.out.later hb2)
  have HS1 : Kept (B ≤ w1.heap.size) := kept (by rw [HBe.out]; rw [HBe.out] at HB1; exact HB1.out.size)
  have HB2 := kept (HB1.out.trans (hb2.mono HS1.out))
  have HS2 := kept (Nat.le_trans HS1.out hb2.size)
  rw [← hw2, ← hbx]
  have k1 : w2.cell? ⟨bx, 0, none⟩ = some (.slice (some ⟨gt, 0, none⟩) P ct) := HX2.out.cell rfl
  clear hw2 hbx hb2 HO HB1 HS1 HT
  go_upto_region 5 with fail
  rw [coder_zero]
  obtain ⟨w3, hw3⟩ : ∃ w_, w_ = World.alloc w2 (.cells (coC (.slice (some ⟨gt, 0, none⟩) P ct) nil65 0 (.slice none 0 0) (.slice none 0 0)) 79) := ⟨_, rfl⟩
  obtain ⟨p, hp⟩ : ∃ b, b = w2.heap.size := ⟨_, rfl⟩
  have hb3 : Below w2.heap.size w2 w3 := by rw [hw3]; exact (Below.refl _ _).alloc (Nat.le_refl _) _
  have HX3 : Kept (Blk w3 bx #[.slice (some ⟨gt, 0, none⟩) P ct] 75) := kept ((hb3.block bx HX2.out.lt).trans HX2.out)
  have hlt := length_table l m
  have HC3 : Kept (Co B w3 p (coC (.slice (some ⟨gt, 0, none⟩) P ct) nil65 0 (.slice none 0 0) (.slice none 0 0)) (.slice (some ⟨gt, 0, none⟩) P ct) (table l m) nil65 (.slice none 0 0) [] (.slice none 0 0) []) := kept
    ⟨by rw [hw3, hp]; exact Blk.fresh _ _ _, by rw [hlt, ← HP.out]; exact HT2.out.later hb3, many_nil B w3 3 66, Owns.nil _ _, by simp [nil65], by rw [hp]; exact HS2.out, fun g hg => by have := HN.out g hg; omega, fun g hg => by simp [Value.ownBlock] at hg, Nat.le_trans HS2.out hb3.size⟩
  have HB3 := kept (HB2.out.trans (hb3.mono HS2.out))
  rw [← hw3, ← hp]
  clear hw3 hp hb3 HX2 HT2 HB2 HS2 k1 hlt HN
  have k1 : w3.cell? ⟨bx, 0, none⟩ = some (.slice (some ⟨gt, 0, none⟩) P ct) := HX3.out.cell rfl
  go_upto_block 0 with fail
  clear k1
  go_wp2_with fail
  go_loopw [27] (fun s27 wr => ∃ (j : Nat) (R : List (Value × List Nat)), j ≤ P ∧ s27 = .int .i64 (j : Int) ∧ Co B wr p (coC (.slice (some ⟨gt, 0, none⟩) P ct) R 0 (.slice none 0 0) (.slice none 0 0)) (.slice (some ⟨gt, 0, none⟩) P ct) (table l m) R (.slice none 0 0) [] (.slice none 0 0) [] ∧ RowsN l m j R ∧ Blk wr bx #[.slice (some ⟨gt, 0, none⟩) P ct] 75 ∧ Below B w wr) (fun s27 _ => P - (intOf s27).toNat)
  case atStart => exact ⟨0, nil65, Nat.zero_le _, rfl, HC3.out, rowsN_nil l m, HX3.out, HB3.out⟩
  case round =>
    obtain ⟨j, R, hj, rfl, hC, hRn, hX, hB⟩ := hrel
    obtain ⟨wq, rfl⟩ : ∃ wq, wq = wr := ⟨wr, rfl⟩
    have HCq := kept hC
    have HRn := kept hRn
    have HXq := kept hX
    have HBq := kept hB
    clear hC hRn hX hB HC3 HX3 HB3
    by_cases hlt : j < P
    · have hj2 : j < 2 ^ m := by rw [← HP.out]; exact hlt
      obtain ⟨b1, b2, b3, b4, b5⟩ := t_bounds HM.out hj2
      obtain ⟨c, hc⟩ : ∃ c, c = tC l m j := ⟨_, rfl⟩
      obtain ⟨a1, a2, a3⟩ := cV_at (table l m) j (by rw [length_table]; exact hj2)
      rw [b5, ← hc] at a1 a2 a3
      rw [← hc] at b1
      have htab := HCq.out.tab
      rw [length_table, ← HP.out] at htab
      have ct1 : wq.cell? ⟨gt, j * 3, none⟩ = some (.int .i64 (c : Int)) := htab.cell a1
      have ct2 : wq.cell? ⟨gt, j * 3 + 1, none⟩ = some (.int .i64 (tB l m j : Int)) := htab.cell a2
      have ct3 : wq.cell? ⟨gt, j * 3 + 2, none⟩ = some (.int .i64 (tS l m j : Int)) := htab.cell a3
      have HCc := kept hc
      clear htab a1 a2 a3 b2 b3 b4 b5 hj2 hc
      go_upto_region 8 with fail
      obtain ⟨w4, hw4⟩ : ∃ w_, w_ = World.alloc wq (.cells #[.int .i64 (c : Int), .int .i64 (tB l m j : Int), .int .i64 (tS l m j : Int)] 105) := ⟨_, rfl⟩
      obtain ⟨gx, hgx⟩ : ∃ b, b = wq.heap.size := ⟨_, rfl⟩
      have hb4 : Below wq.heap.size wq w4 := by rw [hw4]; exact (Below.refl _ _).alloc (Nat.le_refl _) _
      have HD4 : Own.Kept (Blk w4 gx #[.int .i64 (c : Int), .int .i64 (tB l m j : Int), .int .i64 (tS l m j : Int)] 105) := kept (by rw [hw4, hgx]; exact Blk.fresh _ _ _)
      have HX4 : Own.Kept (Blk w4 bx #[.slice (some ⟨gt, 0, none⟩) P ct] 75) := kept ((hb4.block bx HXq.out.lt).trans HXq.out)
      have HC4 := kept (HCq.out.later hb4)
      have HB4 := kept (HBq.out.trans (by rw [HBe.out]; exact hb4.mono (by have := HCq.out.sz; rw [HBe.out] at this; exact this)))
      rw [← hw4, ← hgx]
      clear hw4 hgx hb4 HCq HXq HBq ct1 ct2 ct3
      obtain ⟨v, xs, hrc⟩ : ∃ v xs, R[c]? = some (v, xs) := by
        have hl : c < R.length := by rw [HC4.out.len]; exact b1
        exact ⟨R[c].1, R[c].2, List.getElem?_eq_getElem hl⟩
      have HRc := kept hrc
      have cof := HC4.out.blk.cell (coC_of (tv := .slice (some ⟨gt, 0, none⟩) P ct) (st := 0) (vv := .slice none 0 0) (lv := .slice none 0 0) hrc)
      rw [show c + 1 = 1 + c by omega] at cof
      have cd0 := HD4.out.cell (i := 0) rfl
      have hxl : xs.length ≤ j := by
        rw [HRn.out.at_ c v xs hrc]; unfold placesC
        have := List.length_filter_le (fun x => decide (tC l m x = c)) (List.range j)
        rwa [List.length_range] at this
      clear hrc
      have q1 := kpl_cell (ps := [gx, p]) cof (by simp)
      have q2 := kpl_cell (ps := [gx, p]) cd0 (by simp)
      refine wp_region_ordW [0,1,3,4,6,7,10,13,14] [2,5,8,9] [12] (.pre [11] (.pre [12] (.chain [15,16]))) (fun w' => ∃ n : KpL w4 [gx, p], w' = n.w) (by kernel_rfl) (by kernel_rfl) kpl_below (kpl_drew w4 [gx, p]) ?_
      intro K1 hK1
      simp only [pick, List.filterMap_cons, List.filterMap_nil, List.getElem?_cons_zero, List.getElem?_cons_succ]
      iterate 9 (show wpQuiet _ _ _ _ (_ :: _) _; go_big_quiet_step (fail))
      refine wpQuiet_nil ?_
      iterate 4 (show wpQuiet _ _ _ _ (_ :: _) _; go_big_quiet_step (fail))
      refine wpQuiet_nil ?_
      clear q1 q2 cof cd0
      have hd : Below w4.heap.size w4 w4.drew := (Below.refl _ _).drew
      have HD5 : Own.Kept (Blk w4.drew gx #[.int .i64 (c : Int), .int .i64 (tB l m j : Int), .int .i64 (tS l m j : Int)] 105) := kept HD4.out
      have HX5 : Own.Kept (Blk w4.drew bx #[.slice (some ⟨gt, 0, none⟩) P ct] 75) := kept HX4.out
      have HC5 := kept (HC4.out.later hd)
      have HB5 : Own.Kept (Below B w w4.drew) := kept HB4.out.drew
      clear hd
      generalize w4.drew = w5 at HD5 HX5 HC5 HB5 ⊢
      unfold wpOrdW
      simp only [pick, List.filterMap_cons, List.filterMap_nil, List.getElem?_cons_zero, List.getElem?_cons_succ]
      refine (show _ ∧ _ from ⟨by first | rfl | trivial, ?_⟩)
      generalize hT : wpOrdW _ _ _ _ _ K1 _ = T
      have HT := kept hT
      clear hT
      show wpList _ _ _ [_] _ _
      go_wp2_with fail
      obtain ⟨w6, hw6⟩ : ∃ w_, w_ = World.alloc w5 (.cells #[.int .i64 (j : Int)] 3) := ⟨_, rfl⟩
      obtain ⟨gj, hgj⟩ : ∃ b, b = w5.heap.size := ⟨_, rfl⟩
      have hb6 : Below w5.heap.size w5 w6 := by rw [hw6]; exact (Below.refl _ _).alloc (Nat.le_refl _) _
      have HJ6 : Own.Kept (Blk w6 gj #[.int .i64 (j : Int)] 3) := kept (by rw [hw6, hgj]; exact Blk.fresh _ _ _)
      have HD6 : Own.Kept (Blk w6 gx #[.int .i64 (c : Int), .int .i64 (tB l m j : Int), .int .i64 (tS l m j : Int)] 105) := kept ((hb6.block gx HD5.out.lt).trans HD5.out)
      have HX6 : Own.Kept (Blk w6 bx #[.slice (some ⟨gt, 0, none⟩) P ct] 75) := kept ((hb6.block bx HX5.out.lt).trans HX5.out)
      have HC6 := kept (HC5.out.later hb6)
      have HB6 := kept (HB5.out.trans (hb6.mono HC5.out.sz))
      rw [← hw6, ← hgj]
      clear hw6 hgj hb6 HD5 HX5 HC5 HB5
      refine (show _ ∧ _ from ⟨fun h => by simp at h, ?_⟩)
      show T _ _
      rw [← HT.out]
      clear HT T
      unfold wpOrdW
      simp only [pick, List.filterMap_cons, List.filterMap_nil, List.getElem?_cons_zero, List.getElem?_cons_succ]
      refine (show _ ∧ _ from ⟨by first | rfl | trivial, ?_⟩)
      generalize hT : wpOrdW _ _ _ _ _ K1 _ = T
      have HT := kept hT
      clear hT
      show wpList _ _ _ [_] _ _
      have HNw := kept (one_news HJ6.out)
      refine wpList_app rfl _ _ 28 rfl 3 iI (.int .i64 0) 8 Try.underlying28 hiI hI0 hI1 hI2 rfl v _ rfl (HC6.out.row HRc.out) ⟨gj, 0, none⟩ _ _ [.int .i64 (j : Int)] rfl rfl HNw.out ?_ ?_ ?_ ?_
      · intro u hu; simp at hu; subst hu; rfl
      · rw [len_nums]; simp [maxLen]; omega
      · rw [len_nums]; omega
      intro v7 w7 O7 C7 F7
      rw [← nums_snoc] at O7
      obtain ⟨a7, c7, ev, _⟩ := O7.slice
      rw [len_nums, List.length_append, List.length_singleton] at ev
      subst ev
      have hrow := HC6.out.row HRc.out
      have HC7 := kept (HC6.out.turnO HRc.out C7 O7 F7)
      have HB7 := kept (HB6.out.trans (by have := HC6.out.belowO HRc.out C7; exact this))
      have HD7 : Own.Kept (Blk w7 gx #[.int .i64 (c : Int), .int .i64 (tB l m j : Int), .int .i64 (tS l m j : Int)] 105) := kept (C7.keep HD6.out (fun e => hrow.ne HD6.out (by decide) e.symm))
      have HX7 : Own.Kept (Blk w7 bx #[.slice (some ⟨gt, 0, none⟩) P ct] 75) := kept (C7.keep HX6.out (fun e => hrow.ne HX6.out (by decide) e.symm))
      have hkp := kpl_of2 HD4.out HD7.out HC4.out.blk HC7.out.blk
      clear hrow O7 C7 F7 HNw HJ6 HD6 HX6 HC6 HB6 HD4 HX4 HC4 HB4
      refine (show _ ∧ _ from ⟨fun _ => hkp, ?_⟩)
      clear hkp HD7
      show T _ _
      rw [← HT.out]
      clear HT T
      unfold wpOrdW
      simp only [pick, List.filterMap_cons, List.filterMap_nil, List.getElem?_cons_zero, List.getElem?_cons_succ]
      show wpList _ _ _ [_, _] _ _
      have hl : c < R.length := (List.getElem?_eq_some_iff.1 HRc.out).1
      have hl' : c < (R.set c (.slice a7 (xs.length + 1) c7, xs ++ [j])).length := by rw [List.length_set]; exact hl
      have cofs := HC7.out.blk.cell (coC_of (tv := .slice (some ⟨gt, 0, none⟩) P ct) (st := 0) (vv := .slice none 0 0) (lv := .slice none 0 0) HRc.out)
      have fof := HC7.out.blk.free (1 + c)
      rw [show c + 1 = 1 + c by omega] at cofs
      have hs8 := HC7.out.store (1 + c) (.slice a7 (xs.length + 1) c7)
      rw [show 1 + c = c + 1 by omega, coC_setO (xs := xs ++ [j]) hl] at hs8
      have hb8 := HC7.out.belowS (1 + c) (.slice a7 (xs.length + 1) c7)
      rw [show c + 1 = 1 + c by omega] at hs8
      have HC8 := kept hs8
      have HB8 := kept (HB7.out.trans hb8)
      have hxp : bx ≠ p := fun e => HX7.out.ne HC7.out.blk (by decide) e
      have HX8 : Own.Kept (Blk (w7.setCell ⟨p, 1 + c, none⟩ (.slice a7 (xs.length + 1) c7)) bx #[.slice (some ⟨gt, 0, none⟩) P ct] 75) := kept (HX7.out.setOther (a := ⟨p, 1 + c, none⟩) hxp _)
      have HR8 := kept (HRn.out.next (v' := .slice a7 (xs.length + 1) c7) HRc.out HCc.out.symm)
      clear hs8 hb8 hl hl' hxp
      go_wp2_with fail
      refine hK1 _ _ ?_
      clear hK1
      go_wp2_with fail
      go_roundw
      case rel => exact ⟨j + 1, _, by omega, by go_num, HC8.out, HR8.out, HX8.out, HB8.out⟩
      case measure => simp [intOf]; omega
    · have hje : j = P := by omega
      subst hje
      clear hlt hj
      have hrg : wq.rangeAt p 1 (R.map Prod.fst) := fun i u hu => by
        have hl : i < R.length := by simpa using (List.getElem?_eq_some_iff.1 hu).1
        have h := HCq.out.blk.cell (coC_of (tv := .slice (some ⟨gt, 0, none⟩) j ct) (st := 0) (vv := .slice none 0 0) (lv := .slice none 0 0) (c := i) (v := R[i].1) (xs := R[i].2) (List.getElem?_eq_getElem hl))
        rw [show i + 1 = 1 + i by omega] at h
        rw [h]
        simp only [List.getElem?_map, List.getElem?_eq_getElem hl, Option.map_some] at hu
        exact hu
      have hln := info_arr (R.map Prod.fst).length (by rw [List.length_map]; exact HCq.out.len)
      obtain ⟨AL, hAL⟩ : ∃ AL, AL = R.map Prod.fst := ⟨_, rfl⟩
      rw [← hAL] at hrg hln
      have HA := kept hAL
      have HRg := kept hrg
      have HLn := kept hln
      clear hAL hrg hln
      go_wp2_with (first | (refine wpList_load_mid rfl 76 _ rfl p 1 rfl AL _ HRg.out Try.underlying76 rfl HLn.out ?_))
      have hHl : 0 < j := hp0
      have HR0 : Own.Kept (∀ d v xs, R[d]? = some (v, xs) → xs = placesC l m d (2 ^ m)) := kept (fun d v xs hd => by rw [← HP.out]; exact HRn.out.at_ d v xs hd)
      go_loopw [53] (fun s53 wr => ∃ (c : Nat) (R' : List (Value × List Nat)), c ≤ 65 ∧ s53 = .int .i64 (c : Int) ∧ R'.map Prod.fst = AL ∧ Co B wr p (coC (.slice (some ⟨gt, 0, none⟩) j ct) R' 0 (.slice none 0 0) (.slice none 0 0)) (.slice (some ⟨gt, 0, none⟩) j ct) (table l m) R' (.slice none 0 0) [] (.slice none 0 0) [] ∧
        (∀ d v xs, R'[d]? = some (v, xs) → (d < c → RowS l m d xs) ∧ (c ≤ d → xs = placesC l m d (2 ^ m))) ∧ Blk wr bx #[.slice (some ⟨gt, 0, none⟩) j ct] 75 ∧ Below B w wr) (fun s53 _ => 65 - (intOf s53).toNat)
      case atStart => exact ⟨0, R, by decide, rfl, HA.out.symm, HCq.out, fun d v xs hd => ⟨fun h => absurd h (by omega), fun _ => HR0.out d v xs hd⟩, HXq.out, HBq.out⟩
      case round =>
        obtain ⟨c, R', hc, rfl, hAl, hC, hRn, hX, hB⟩ := hrel
        obtain ⟨wk, rfl⟩ : ∃ wk, wk = wr := ⟨wr, rfl⟩
        have HAl := kept hAl
        have HCk := kept hC
        have HRk := kept hRn
        have HXk := kept hX
        have HBk := kept hB
        clear hAl hC hRn hX hB
        by_cases hlt : c < 65
        · obtain ⟨v, xs, hrc⟩ : ∃ v xs, R'[c]? = some (v, xs) := by
            have hl : c < R'.length := by rw [HCk.out.len]; exact hlt
            exact ⟨R'[c].1, R'[c].2, List.getElem?_eq_getElem hl⟩
          have hA : AL.toArray[c]? = some v := by rw [← HAl.out]; simp [hrc]
          have hxs := (HRk.out c v xs hrc).2 (Nat.le_refl _)
          have hrow := HCk.out.row hrc
          have htab := HCk.out.tab
          rw [length_table, ← HP.out] at htab
          have hlk : LookT wk bx gt ct (2 ^ m) (tS l m) := by
            refine ⟨by rw [← HP.out]; exact HXk.out.cell rfl, fun i hi => ?_⟩
            obtain ⟨a1, a2, a3⟩ := cV_at (table l m) i (by rw [length_table]; exact hi)
            rw [(t_bounds HM.out hi).2.2.2.2] at a3
            exact htab.cell a3
          have hsc := sort_calls bx gt ct m c v l wk hlk HM.out (by rw [← hxs]; exact hrow) (hrow.ne HXk.out (by decide)) (fun e => by
            have := htab.neO hrow (by decide) (g := gt) e
            exact this rfl)
          have hix := index_arr AL.toArray c v hlt hA
          have HSc := kept hsc
          have HRc := kept hrc
          clear hsc hrc hlk htab hrow hxs hA
          go_wp2_with (first | (go_at_call 55; refine HSc.out.mono ?_))
          rintro e w6 ⟨rfl, ys, hys, hO6, hC6⟩
          have HC6 := kept (HCk.out.turnO HRc.out hC6 hO6 (fun g hg => .inl hg.symm))
          have HB6 := kept (HBk.out.trans (HCk.out.belowO HRc.out hC6))
          have HX6 : Own.Kept (Blk w6 bx #[.slice (some ⟨gt, 0, none⟩) j ct] 75) := kept (hC6.keep HXk.out (fun e => (HCk.out.row HRc.out).ne HXk.out (by decide) e.symm))
          have hl : c < R'.length := (List.getElem?_eq_some_iff.1 HRc.out).1
          have hcs : coC (.slice (some ⟨gt, 0, none⟩) j ct) R' 0 (.slice none 0 0) (.slice none 0 0) = coC (.slice (some ⟨gt, 0, none⟩) j ct) (R'.set c (v, ys)) 0 (.slice none 0 0) (.slice none 0 0) := by
            have e : (R'.set c (v, ys)).map Prod.fst = R'.map Prod.fst := by
              rw [List.map_set]
              exact set_same (by rw [List.getElem?_map, HRc.out]; rfl)
            unfold coC; rw [e]
          have hal : (R'.set c (v, ys)).map Prod.fst = AL := by
            rw [List.map_set, ← HAl.out]
            exact set_same (by rw [List.getElem?_map, HRc.out]; rfl)
          rw [hcs] at HC6
          have hrn : ∀ d u xs, (R'.set c (v, ys))[d]? = some (u, xs) → (d < c + 1 → RowS l m d xs) ∧ (c + 1 ≤ d → xs = placesC l m d (2 ^ m)) := fun d u zs hd => by
            by_cases e : d = c
            · subst e
              rw [List.getElem?_set_self hl] at hd
              simp only [Option.some.injEq, Prod.mk.injEq] at hd
              rw [← hd.2]
              exact ⟨fun _ => hys, fun h => by omega⟩
            · rw [List.getElem?_set_ne (fun x => e x.symm)] at hd
              have := HRk.out d u zs hd
              exact ⟨fun h => this.1 (by omega), fun h => this.2 (by omega)⟩
          have HRn6 := kept hrn
          have HAl6 := kept hal
          clear hcs hal hrn hl hys hO6 hC6 hix
          go_wp2_with fail
          go_roundw
          case rel => exact ⟨c + 1, _, by omega, by go_num, HAl6.out, HC6.out, HRn6.out, HX6.out, HB6.out⟩
          case measure => simp [intOf]; omega
        · have hce : c = 65 := by omega
          subst hce
          have HFin : Own.Kept (∀ c v xs, R'[c]? = some (v, xs) → RowS l m c xs) := kept (fun d v xs hd => (HRk.out d v xs hd).1 (by have := (List.getElem?_eq_some_iff.1 hd).1; rw [HCk.out.len] at this; exact this))
          go_wp2_with fail
          go_ret2
          exact ⟨p, _, R', rfl, HCk.out, HFin.out, HBk.out⟩
end Go.Proofs.Yteeegomdaebobaa.St
