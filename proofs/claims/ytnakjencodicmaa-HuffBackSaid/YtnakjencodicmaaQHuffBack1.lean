/- Part HuffBack1 of what the layer's laws stand on: Own, Sized, Af, Mix, Bits, Bw, Bp, Bf, Rw, Bx, Bg, Bn, Br, Dp, Hp, Ol, Dl, Cd, Owk, Hac, Hbc, Hcc, Hdc, Hec, Kd, Ub, PAx0, PAx2. Written by a program (merge.py) out of this session's own texts and of what the kit's print wrote over stand-ins (sp.py). Conditions: those that each theorem names. -/
import Derived.WalkKit
import Derived.Deep.Quiet
import Derived.Deep.Draws
import Derived.Laws.Rows
import Derived.Laws.Tables
import Derived.SizedLaws
import Derived.ChangeSlices
import Derived.Deep.DeepAppendWide
import Derived.Laws.OwnMore
import Derived.OrdersHeld
import Derived.StillTail
import Derived.Below
import Derived.Laws.BitsAllLaws
import Derived.Laws.Bits64
import Derived.Laws.Strings
import Derived.Test.YtnakjencodicmaaProg
import Derived.WalkSpells
import Derived.WalkLawsBesides
import Derived.BigQuiet
import Derived.Lib.Hide
import Derived.Deep.DeepCutAuto
import Derived.Maps.AppendAt
import Derived.Laws.MakeOwn
import Derived.OpenShut
import Derived.Test.YtnakjencodicmaaQHuffBackVWords
import Derived.Test.YtnakjencodicmaaQHuffBackVMore
import Derived.Test.YtnakjencodicmaaQHuffBackVLast
import Derived.Deep.AppendLies
import Derived.OwnWalk
import Derived.Laws.BytesArg
import Derived.Deep.OwnRows
import Derived.Tactics
import Derived.Lib.ConvBytes
import Derived.Laws.Slices
import Derived.KernelRfl
import Derived.RowKit3
import Derived.Deep.LoopGhost
import Derived.Deep.QuietTactic
import Derived.WideLaws
import Derived.Deep.CutBlock
import Derived.Deep.RegionHeld3
import Derived.Lib.AppendStr
import Derived.ArgAppend
import Derived.Laws.IdiomCopy
import Derived.Laws.BitsLemmas
import Derived.RowKit
import Derived.Test.YtnakjencodicmaaQHuffBackVTab
import Derived.Test.YtnakjencodicmaaQHuffBackVFour
import Derived.Test.YtnakjencodicmaaQHuffBackVQPut
import Derived.Test.YtnakjencodicmaaQHuffBackVApart
import Derived.Test.YtnakjencodicmaaQHuffBackVArr
import Derived.Test.YtnakjencodicmaaQHuffBackVZeros
import Derived.Test.YtnakjencodicmaaQHuffBackVFoot
import Derived.Test.YtnakjencodicmaaQHuffBackVKept
import Derived.Test.YtnakjencodicmaaQHuffBackVShare
import Derived.Test.YtnakjencodicmaaQHuffBackVN
import Derived.Test.YtnakjencodicmaaQHuffBackVFootNe
import Derived.Test.YtnakjencodicmaaQHuffBackVAt
import Derived.Test.YtnakjencodicmaaQHuffBackVEqStruct
import Derived.Test.YtnakjencodicmaaQHuffBackVRepsOne
import Derived.Test.YtnakjencodicmaaQHuffBackVInv
import Derived.Test.YtnakjencodicmaaQHuffBackVInvWords
import Derived.Test.YtnakjencodicmaaQHuffBackVGuard
import Derived.Test.YtnakjencodicmaaQHuffBackVNEv
-- ---- Own
/- Small laws on memory that a call makes for itself: what has changed between two worlds, rows that are owned, blocks that are known. No program in sight. -/
namespace Go.Proofs.Ytnakjencodicmaa.Own
set_option maxRecDepth 100000
set_option linter.unusedSimpArgs false
set_option linter.unusedVariables false
open Go Go.RowKit

/-- A fact that the walk does not see, nor unfold. -/
@[irreducible] def Kept (p : Prop) : Prop := p
theorem kept {p : Prop} (h : p) : Kept p := by unfold Kept; exact h
theorem Kept.out {p : Prop} (h : Kept p) : p := by unfold Kept at h; exact h

/-- The greater of two, the lesser of two, as Go's builtins reckon them. -/
def mx (x y : Int) : Int := if x < y then y else x
def mn (x y : Int) : Int := if y < x then y else x
theorem mx_eq (x y : Int) : mx x y = max x y := by unfold mx; omega
theorem mn_eq (x y : Int) : mn x y = min x y := by unfold mn; omega
theorem max_int (ats : Array TypeId) (ty : TypeId) (k k' : IntKind) (x y : Int) : Builtin.max_ ats ty #[.int k x, .int k' y] = pure (.int k (mx x y)) := by
  simp only [Builtin.max_, List.foldlM_cons, List.foldlM_nil, Builtin.max2, gt_iff_lt]
  rfl
theorem min_int (ats : Array TypeId) (ty : TypeId) (k k' : IntKind) (x y : Int) : Builtin.min_ ats ty #[.int k x, .int k' y] = pure (.int k (mn x y)) := by
  simp only [Builtin.min_, List.foldlM_cons, List.foldlM_nil, Builtin.min2]
  rfl

/-- Between w and w' blocks may have come, and of w's blocks only those in S have turned. -/
structure Chg (S : Nat → Prop) (w w' : World) : Prop where
  os : w'.os = w.os
  tape : w'.tape = w.tape
  output : w'.output = w.output
  size : w.heap.size ≤ w'.heap.size
  block : ∀ k, k < w.heap.size → ¬ S k → w'.heap[k]? = w.heap[k]?

theorem Chg.refl (S : Nat → Prop) (w : World) : Chg S w w := ⟨rfl, rfl, rfl, Nat.le_refl _, fun _ _ _ => rfl⟩
theorem Chg.mono {S S' : Nat → Prop} {w w' : World} (h : Chg S w w') (hs : ∀ k, k < w.heap.size → S k → S' k) : Chg S' w w' :=
  ⟨h.os, h.tape, h.output, h.size, fun k hk hn => h.block k hk fun hS => hn (hs k hk hS)⟩
theorem Chg.trans {S S2 : Nat → Prop} {a b c : World} (h : Chg S a b) (k : Chg S2 b c) (hs : ∀ k, k < a.heap.size → S2 k → S k) : Chg S a c :=
  ⟨k.os.trans h.os, k.tape.trans h.tape, k.output.trans h.output, Nat.le_trans h.size k.size, fun i hi hn => (k.block i (Nat.lt_of_lt_of_le hi h.size) fun h2 => hn (hs i hi h2)).trans (h.block i hi hn)⟩
theorem Chg.of_below {S : Nat → Prop} {w w' : World} (h : Below w.heap.size w w') : Chg S w w' := ⟨h.os, h.tape, h.output, h.size, fun k hk _ => h.block k hk⟩
theorem Chg.of_grown {w w' : World} {row : Option Nat} (h : w.grownBy w' row) : Chg (fun k => some k = row) w w' := ⟨h.os, h.tape, h.output, h.size, fun k hk hn => h.block k hk hn⟩
theorem Chg.below {S : Nat → Prop} {w w' : World} (h : Chg S w w') {B : Nat} (hB : B ≤ w.heap.size) (hs : ∀ k, k < B → ¬ S k) : Below B w w' :=
  ⟨h.os, h.tape, h.output, h.size, fun k hk => h.block k (Nat.lt_of_lt_of_le hk hB) (hs k hk)⟩
theorem Chg.keep {S : Nat → Prop} {w w' : World} (h : Chg S w w') {k : Nat} {o : Obj} (ho : w.heap[k]? = some o) (hn : ¬ S k) : w'.heap[k]? = some o :=
  (h.block k (Array.getElem?_eq_some_iff.1 ho).1 hn).trans ho
theorem Chg.setCell (w : World) (p : Addr) (v : Value) : Chg (fun k => k = p.block) w (w.setCell p v) :=
  ⟨rfl, rfl, rfl, by simp [World.setCell], fun k _ hn => Below.heap_setCell _ _ _ _ hn⟩
theorem Chg.alloc (S : Nat → Prop) (w : World) (o : Obj) : Chg S w (w.alloc o) := ⟨rfl, rfl, rfl, by simp, fun k hk _ => Below.heap_alloc _ _ _ hk⟩
theorem Chg.drew (S : Nat → Prop) (w : World) : Chg S w w.drew := ⟨rfl, rfl, rfl, Nat.le_refl _, fun _ _ _ => rfl⟩

theorem lt_of_some {w : World} {k : Nat} {o : Obj} (h : w.heap[k]? = some o) : k < w.heap.size := (Array.getElem?_eq_some_iff.1 h).1

/-- A block that is known whole. -/
abbrev Blk (w : World) (p : Nat) (cs : Array Value) (t : TypeId) : Prop := w.heap[p]? = some (.cells cs t (0, 0))

theorem Blk.cell {w : World} {p : Nat} {cs : Array Value} {t : TypeId} (h : Blk w p cs t) {i : Nat} {v : Value} (hv : cs[i]? = some v) : w.cell? ⟨p, i, none⟩ = some v := by
  simp [World.cell?, h, hv]
theorem Blk.free {w : World} {p : Nat} {cs : Array Value} {t : TypeId} (h : Blk w p cs t) (i : Nat) : w.frozen? ⟨p, i, none⟩ = false := by
  simp [World.frozen?, h]
theorem Blk.lt {w : World} {p : Nat} {cs : Array Value} {t : TypeId} (h : Blk w p cs t) : p < w.heap.size := lt_of_some h
theorem Blk.set {w : World} {p : Nat} {cs : Array Value} {t : TypeId} (h : Blk w p cs t) (i : Nat) (v : Value) : Blk (w.setCell ⟨p, i, none⟩ v) p (cs.setIfInBounds i v) t := by
  show (w.setCell ⟨p, i, none⟩ v).heap[p]? = _
  have h' : w.heap[p]? = some (.cells cs t (0, 0)) := h
  simp [World.setCell, Array.getElem?_modify, h']
theorem Blk.setOther {w : World} {p : Nat} {cs : Array Value} {t : TypeId} (h : Blk w p cs t) {a : Addr} (hn : p ≠ a.block) (v : Value) : Blk (w.setCell a v) p cs t :=
  (Below.heap_setCell w a v p hn).trans h
theorem Blk.alloc {w : World} {p : Nat} {cs : Array Value} {t : TypeId} (h : Blk w p cs t) (o : Obj) : Blk (w.alloc o) p cs t :=
  (Below.heap_alloc w o p h.lt).trans h
theorem Blk.fresh (w : World) (cs : Array Value) (t : TypeId) : Blk (w.alloc (.cells cs t)) w.heap.size cs t := heap_alloc_new w _
theorem Blk.fresh_at (w : World) (q : Nat) (hq : q = w.heap.size) (cs : Array Value) (t : TypeId) : Blk (w.alloc (.cells cs t)) q cs t := by subst hq; exact Blk.fresh w cs t
theorem Blk.ne {w : World} {p q : Nat} {cs ds : Array Value} {t u : TypeId} (h : Blk w p cs t) (k : Blk w q ds u) (hne : t ≠ u) : p ≠ q := by
  rintro rfl
  have := h.symm.trans k
  simp at this
  exact hne this.2

/-- v is a slice whose cells are xs, alone in a block of its own, or nil. -/
def Owns (w : World) (e : TypeId) (v : Value) (xs : List Value) : Prop := w.ownsRow 0 e 1 v xs.length xs

theorem Owns.nil (w : World) (e : TypeId) : Owns w e (.slice none 0 0) [] := World.ownsRow_nil w 0 e 1

theorem Owns.form {w : World} {e : TypeId} {v : Value} {xs : List Value} (h : Owns w e v xs) :
    (v = .slice none 0 0 ∧ xs = []) ∨ ∃ g cap cur, v = .slice (some ⟨g, 0, none⟩) xs.length cap ∧ Blk w g cur e ∧ xs.length ≤ cap ∧ cap ≤ maxLen ∧ cur.size = cap ∧ cur.toList.take xs.length = xs := by
  rcases h.2 with ⟨hv, hn⟩ | ⟨g, cap, cur, hv, _, hg, hc, hm, hs, ht⟩
  · exact .inl ⟨hv, List.length_eq_zero_iff.1 hn⟩
  · exact .inr ⟨g, cap, cur, hv, hg, hc, hm, by simpa using hs, by simpa using ht⟩

theorem Owns.mk {w : World} {e : TypeId} {g cap : Nat} {cur : Array Value} {xs : List Value} (hg : Blk w g cur e) (hc : xs.length ≤ cap) (hm : cap ≤ maxLen) (hs : cur.size = cap) (ht : cur.toList.take xs.length = xs) :
    Owns w e (.slice (some ⟨g, 0, none⟩) xs.length cap) xs :=
  ⟨by simp, .inr ⟨g, cap, cur, rfl, Nat.zero_le _, hg, hc, hm, by simpa using hs, by simpa using ht⟩⟩

theorem Owns.keep {w w' : World} {e : TypeId} {v : Value} {xs : List Value} (h : Owns w e v xs) (hk : ∀ g, v.ownBlock = some g → g < w.heap.size → w'.heap[g]? = w.heap[g]?) : Owns w' e v xs := by
  refine ⟨h.1, ?_⟩
  rcases h.2 with hn | ⟨g, cap, cur, rfl, hb, hgg, rest⟩
  · exact .inl hn
  · exact .inr ⟨g, cap, cur, rfl, hb, (hk g rfl (lt_of_some hgg)).trans hgg, rest⟩
theorem Owns.chg {w w' : World} {S : Nat → Prop} {e : TypeId} {v : Value} {xs : List Value} (h : Owns w e v xs) (hc : Chg S w w') (hn : ∀ g, v.ownBlock = some g → ¬ S g) : Owns w' e v xs :=
  h.keep fun g hg hl => hc.block g hl (hn g hg)
theorem Owns.alloc {w : World} {e : TypeId} {v : Value} {xs : List Value} (h : Owns w e v xs) (o : Obj) : Owns (w.alloc o) e v xs :=
  h.keep fun g _ hl => Below.heap_alloc w o g hl
theorem Owns.drew {w : World} {e : TypeId} {v : Value} {xs : List Value} (h : Owns w e v xs) : Owns w.drew e v xs := h
theorem Owns.setOther {w : World} {e : TypeId} {v : Value} {xs : List Value} (h : Owns w e v xs) {a : Addr} (hn : v.ownBlock ≠ some a.block) (u : Value) : Owns (w.setCell a u) e v xs :=
  h.keep fun g hg _ => Below.heap_setCell w a u g fun e => hn (by rw [hg, e])

theorem Owns.lt {w : World} {e : TypeId} {v : Value} {xs : List Value} (h : Owns w e v xs) : ∀ g, v.ownBlock = some g → g < w.heap.size := fun g hg => (World.ownsRow.lt h g hg).2
theorem Owns.blk {w : World} {e : TypeId} {v : Value} {xs : List Value} (h : Owns w e v xs) : ∀ g, v.ownBlock = some g → ∃ cur, Blk w g cur e := by
  intro g hg
  rcases h.form with ⟨rfl, _⟩ | ⟨g', cap, cur, rfl, hb, _⟩
  · simp [Value.ownBlock] at hg
  · simp [Value.ownBlock] at hg; subst hg; exact ⟨cur, hb⟩
/-- An owned row lies elsewhere than a block of another type. -/
theorem Owns.ne {w : World} {e t : TypeId} {v : Value} {xs : List Value} {p : Nat} {cs : Array Value} (h : Owns w e v xs) (k : Blk w p cs t) (hne : e ≠ t) : v.ownBlock ≠ some p := by
  intro hg
  obtain ⟨cur, hb⟩ := h.blk p hg
  exact hb.ne k hne rfl

theorem Owns.row {w : World} {e : TypeId} {v : Value} {xs : List Value} (h : Owns w e v xs) (hx : xs ≠ []) : ∃ g cap, v = .slice (some ⟨g, 0, none⟩) xs.length cap ∧ xs.length ≤ cap ∧ g < w.heap.size := by
  rcases h.form with ⟨_, rfl⟩ | ⟨g, cap, cur, rfl, hb, hc, _⟩
  · exact absurd rfl hx
  · exact ⟨g, cap, rfl, hc, hb.lt⟩

theorem Owns.cell {w : World} {e : TypeId} {g n cap : Nat} {xs : List Value} (h : Owns w e (.slice (some ⟨g, 0, none⟩) n cap) xs) {j : Nat} {u : Value} (hu : xs[j]? = some u) : w.cell? ⟨g, j, none⟩ = some u := by
  have hn : n = xs.length := by
    rcases h.form with ⟨hv, _⟩ | ⟨_, _, _, hv, _⟩
    · simp at hv
    · simp at hv; exact hv.2.1
  subst hn
  have hj : j < xs.length := (List.getElem?_eq_some_iff.1 hu).1
  rw [World.ownsRow.cellAt h j (by omega), hu]
theorem Owns.free {w : World} {e : TypeId} {g n cap : Nat} {xs : List Value} (h : Owns w e (.slice (some ⟨g, 0, none⟩) n cap) xs) (j : Nat) : w.frozen? ⟨g, j, none⟩ = false := by
  obtain ⟨cur, hb⟩ := h.blk g rfl
  exact hb.free j
theorem Owns.store {w : World} {e : TypeId} {g n cap : Nat} {xs : List Value} (h : Owns w e (.slice (some ⟨g, 0, none⟩) n cap) xs) (j : Nat) (u : Value) :
    Owns (w.setCell ⟨g, j, none⟩ u) e (.slice (some ⟨g, 0, none⟩) n cap) (xs.set j u) := by
  rcases h.form with ⟨hv, _⟩ | ⟨g', cap', cur, hv, hb, hc, hm, hs, ht⟩
  · simp at hv
  · simp only [Value.slice.injEq, Option.some.injEq, Addr.mk.injEq, and_true] at hv
    obtain ⟨rfl, rfl, rfl⟩ := hv
    have := hb.set j u
    have h2 := Owns.mk (xs := xs.set j u) this (by simpa using hc) hm (by simpa using hs) (by
      rw [List.length_set, Array.toList_setIfInBounds, List.take_set, ht])
    simpa using h2

theorem Owns.length {w : World} {e : TypeId} {a : Option Addr} {n cap : Nat} {xs : List Value} (h : Owns w e (.slice a n cap) xs) : n = xs.length := by
  rcases h.form with ⟨hv, hx⟩ | ⟨g', cap', cur, hv, _⟩
  · simp at hv; simp [hx, hv]
  · simp at hv; exact hv.2.1

section
variable {P : Program} {w : World}

/-- 'append' onto what the call owns: where the result lies. Sizes of one cell. -/
theorem run_append_at (t ty e : TypeId) (i : TypeInfo) (z : Value) (bytes : Nat) (ht : P.underlying t = some (.slice e)) (hi : P.info? e = some i) (hz : i.zero = some z)
    (hsize : i.size = 1) (hby : i.bytes = bytes) (hzs : z.cells.size = 1)
    (v : Value) (xs : List Value) (hown : Owns w e v xs)
    (a : Addr) (m c : Nat) (news : List Value) (hl : news.length = m) (hnews : ∀ j u, news[j]? = some u → w.cell? (a.add j) = some u) (h1 : ∀ u ∈ news, u.oneCell' = true)
    (h63 : xs.length + m ≤ maxLen) (hbytes : (xs.length + m) * bytes ≤ 140737488355328) :
    ∃ v' w', (Builtin.append_ #[t, t] ty #[v, .slice (some a) m c]).run P w = .ok v' w' ∧ Owns w' e v' (xs ++ news) ∧ w.grownBy w' v.ownBlock ∧
      (∀ g, v'.ownBlock = some g → some g = v.ownBlock ∨ w.heap.size ≤ g) := by
  have hl1 : news.length = m * 1 := by omega
  obtain ⟨v', w', hr, ho, hg, _⟩ := run_append_own (P := P) w 0 t ty e i z 1 bytes ht hi hz hsize hby hzs (by decide) v xs.length xs hown a m c news hl1 hnews h1 h63 hbytes (Nat.zero_le _)
  refine ⟨v', w', hr, ?_, hg, ?_⟩
  · unfold Owns
    rw [List.length_append, hl]
    exact ho
  · intro g hgv
    rcases hown.form with ⟨rfl, hx⟩ | ⟨g0, cap, cur, rfl, hb, hc, hm, hs, htk⟩
    · right
      subst hx
      obtain ⟨v2, w2, hr2, ho2, _, _⟩ := run_append_own (P := P) w w.heap.size t ty e i z 1 bytes ht hi hz hsize hby hzs (by decide) (.slice none 0 0) 0 [] (World.ownsRow_nil w _ e 1) a m c news hl1 hnews h1 (by simpa using h63) (by simpa using hbytes) (Nat.le_refl _)
      have e1 := hr.symm.trans hr2
      simp only [Result.ok.injEq] at e1
      rw [e1.1] at hgv
      exact (ho2.lt g hgv).1
    · by_cases hroom : xs.length + m ≤ cap
      · left
        have hr3 := run_append_room (P := P) w t ty e i ht hi g0 xs.length cap cur hb a m c news (by rw [hsize]; exact hl1) hnews h1 hroom (by rw [hsize, hs, hl]; omega)
        have e1 := hr.symm.trans hr3
        simp only [Result.ok.injEq] at e1
        rw [e1.1] at hgv
        exact hgv.symm
      · right
        have holds : ∀ j u, xs[j]? = some u → w.cell? ((⟨g0, 0, none⟩ : Addr).add j) = some u := World.ownsRow.cells hown (g := g0) rfl
        have hr3 := run_append_grow (P := P) w t ty e i z ht hi hz ⟨g0, 0, none⟩ xs.length cap xs (by rw [hsize]; omega) holds a m c news (by rw [hsize]; exact hl1) hnews (by omega) (by simp only [maxLen] at h63; omega) (growslice_fits (by omega) (by rw [hby]; exact hbytes))
        have e1 := hr.symm.trans hr3
        simp only [Result.ok.injEq] at e1
        rw [e1.1] at hgv
        simp [Value.ownBlock] at hgv
        omega

/-- The law at the operation. -/
theorem wpList_app {ops : Array Oper} {rest : List Oper} {o : Oper} {a : Act} {Q : Exit → Act → World → Prop} (hgd : o.guard = none) (s x : Operand) (t : TypeId)
    (ho : o.op = .call { callee := .builtin .append, args := #[s, x], argTypes := #[t, t] })
    (e : TypeId) (i : TypeInfo) (z : Value) (bytes : Nat) (ht : P.underlying t = some (.slice e)) (hi : P.info? e = some i) (hz : i.zero = some z)
    (hsize : i.size = 1) (hby : i.bytes = bytes) (hzs : z.cells.size = 1)
    (v : Value) (xs : List Value) (hs : a.eval s = v) (hown : Owns w e v xs)
    (ad : Addr) (m c : Nat) (news : List Value) (hx : a.eval x = .slice (some ad) m c) (hl : news.length = m) (hnews : ∀ j u, news[j]? = some u → w.cell? (ad.add j) = some u) (h1 : ∀ u ∈ news, u.oneCell' = true)
    (h63 : xs.length + m ≤ maxLen) (hbytes : (xs.length + m) * bytes ≤ 140737488355328)
    (h : ∀ v' w', Owns w' e v' (xs ++ news) → Chg (fun k => some k = v.ownBlock) w w' → (∀ g, v'.ownBlock = some g → some g = v.ownBlock ∨ w.heap.size ≤ g) → wpList P ops Q rest (a.put o.dst v') w') : wpList P ops Q (o :: rest) a w :=
  wpList_plain hgd fun K hK => by
    obtain ⟨v', w', hr, h2, h3, h4⟩ := run_append_at (P := P) t o.type e i z bytes ht hi hz hsize hby hzs v xs hown ad m c news hl hnews h1 h63 hbytes
    unfold Oper.wp execOp
    simp only [ho, resolve, invoke, builtin, Sem.run_bind, Sem.run_pure, Result.andThen_ok, List.map_toArray, List.map_cons, List.map_nil, hs, hx, hr]
    exact hK _ _ (h v' w' h2 (Chg.of_grown h3) h4)

/-- The same, of one element that lies in a new block. -/
theorem wpList_app1 {ops : Array Oper} {rest : List Oper} {o : Oper} {a : Act} {Q : Exit → Act → World → Prop} (hgd : o.guard = none) (s x : Operand) (t : TypeId)
    (ho : o.op = .call { callee := .builtin .append, args := #[s, x], argTypes := #[t, t] })
    (e : TypeId) (i : TypeInfo) (z : Value) (bytes : Nat) (ht : P.underlying t = some (.slice e)) (hi : P.info? e = some i) (hz : i.zero = some z)
    (hsize : i.size = 1) (hby : i.bytes = bytes) (hzs : z.cells.size = 1)
    (v : Value) (xs : List Value) (u : Value) (hs : a.eval s = v) (hown : Owns w e v xs) (h1 : u.oneCell' = true)
    (hx : a.eval x = .slice (some ⟨w.heap.size, 0, none⟩) 1 1)
    (h63 : xs.length + 1 ≤ maxLen) (hbytes : (xs.length + 1) * bytes ≤ 140737488355328)
    (h : ∀ v' w', Owns w' e v' (xs ++ [u]) → Chg (fun k => some k = v.ownBlock) w w' → (∀ g, v'.ownBlock = some g → some g = v.ownBlock ∨ w.heap.size ≤ g) → wpList P ops Q rest (a.put o.dst v') w') :
    wpList P ops Q (o :: rest) a (w.alloc (.cells #[u] e)) :=
  wpList_app (w := w.alloc (.cells #[u] e)) hgd s x t ho e i z bytes ht hi hz hsize hby hzs v xs hs (hown.alloc _) ⟨w.heap.size, 0, none⟩ 1 1 [u] hx rfl
    (fun j y hj => by
      match j, hj with
      | 0, hj => simp at hj; subst hj; simp [Addr.add])
    (fun y hy => by simp at hy; subst hy; exact h1) h63 hbytes
    (fun v' w' k1 k2 k3 => h v' w' k1 ((Chg.alloc _ w _).trans k2 fun _ _ h => h) fun g hg => (k3 g hg).imp id fun h => by simp at h; omega)

/-- 'make([]T, n)', the elements of one cell. -/
theorem wpList_mk1 {ops : Array Oper} {rest : List Oper} {o : Oper} {a : Act} {Q : Exit → Act → World → Prop} (hgd : o.guard = none) (l c : Operand) (t : TypeId) (ho : o.op = Op.makeSlice t l c)
    (e : TypeId) (i : TypeInfo) (z : Value) (bytes : Nat) (ht : P.underlying t = some (.slice e)) (hi : P.info? e = some i) (hz : i.zero = some z) (hsize : i.size = 1) (hby : i.bytes = bytes) (hzs : z.cells = #[z])
    (kl kc : IntKind) (L C : Int) (n : Nat) (hl : a.eval l = .int kl L) (hc : a.eval c = .int kc C) (hL : L = (n : Int)) (hC : C = (n : Int)) (b2 : bytes * n ≤ 281474976710656) (b3 : n ≤ maxLen)
    (h : ∀ w', Owns w' e (.slice (some ⟨w.heap.size, 0, none⟩) n n) (List.replicate n z) → Below w.heap.size w w' → w.heap.size < w'.heap.size → wpList P ops Q rest (a.put o.dst (.slice (some ⟨w.heap.size, 0, none⟩) n n)) w') :
    wpList P ops Q (o :: rest) a w := by
  refine wpList_make_full w hgd l c t ho 0 e i z 1 ht hi hz hsize kl kc L C n hl hc hL hC (by rw [hby]; exact b2) b3 (Nat.zero_le _) fun w' hown hg => ?_
  rw [hzs, Nat.mul_one, toList_madeCells_one] at hown
  have ho2 : Owns w' e (.slice (some ⟨w.heap.size, 0, none⟩) n n) (List.replicate n z) := by
    unfold Owns
    rw [List.length_replicate]
    exact hown
  exact h w' ho2 ⟨hg.os, hg.tape, hg.output, hg.size, fun k hk => hg.block k hk (by simp)⟩ (ho2.lt _ rfl)
end

theorem Owns.slice {w : World} {e : TypeId} {v : Value} {xs : List Value} (h : Owns w e v xs) : ∃ a cap, v = .slice a xs.length cap ∧ (xs ≠ [] → ∃ g, a = some ⟨g, 0, none⟩) := by
  rcases h.form with ⟨rfl, rfl⟩ | ⟨g, cap, cur, rfl, _⟩
  · exact ⟨none, 0, rfl, fun h => absurd rfl h⟩
  · exact ⟨_, cap, rfl, fun _ => ⟨g, rfl⟩⟩
end Go.Proofs.Ytnakjencodicmaa.Own

-- ---- Sized
/- What can be read of a slice, whoever owns it; a law's parameter that is a slice of whole numbers. No program in sight. -/
namespace Go.Proofs.Ytnakjencodicmaa.Own
set_option maxRecDepth 100000
set_option linter.unusedSimpArgs false
set_option linter.unusedVariables false
open Go Go.RowKit Go.ChangeShapes Go.WideShapes

/-- The block where a slice's cells lie. -/
def homeOf : Value → Option Nat
  | .slice (some x) (_ + 1) _ => some x.block
  | _ => none

/-- Of v the elements xs can be read. -/
def Rd (w : World) (v : Value) (xs : List Value) : Prop :=
  ∃ a cap, v = .slice a xs.length cap ∧ xs.length ≤ cap ∧ cap ≤ maxLen ∧ ∀ i u, xs[i]? = some u → ∃ x, a = some x ∧ w.cell? (x.add i) = some u

theorem Rd.nil (w : World) : Rd w (.slice none 0 0) [] := ⟨none, 0, rfl, Nat.le_refl _, by simp [maxLen], fun i u h => by simp at h⟩

theorem add_block (x : Addr) (i : Nat) : (x.add i).block = x.block := by unfold Addr.add; split <;> rfl
theorem lt_of_cell {w : World} {p : Addr} {v : Value} (h : w.cell? p = some v) : p.block < w.heap.size := by
  rcases Nat.lt_or_ge p.block w.heap.size with hl | hl
  · exact hl
  · simp [World.cell?, Array.getElem?_eq_none hl] at h

theorem Rd.lt {w : World} {v : Value} {xs : List Value} (h : Rd w v xs) : ∀ g, homeOf v = some g → g < w.heap.size := by
  intro g hg
  obtain ⟨a, cap, rfl, _, _, hc⟩ := h
  cases xs with
  | nil => cases a <;> simp [homeOf] at hg
  | cons u t =>
    obtain ⟨x, rfl, hx⟩ := hc 0 u rfl
    simp [homeOf] at hg
    subst hg
    have := lt_of_cell hx
    rwa [add_block] at this

theorem Rd.keep {w w' : World} {v : Value} {xs : List Value} (h : Rd w v xs) (hk : ∀ g, homeOf v = some g → g < w.heap.size → w'.heap[g]? = w.heap[g]?) : Rd w' v xs := by
  obtain ⟨a, cap, rfl, h1, h2, hc⟩ := h
  refine ⟨a, cap, rfl, h1, h2, fun i u hu => ?_⟩
  obtain ⟨x, rfl, hx⟩ := hc i u hu
  have hpos : 0 < xs.length := by have := (List.getElem?_eq_some_iff.1 hu).1; omega
  have hhome : homeOf (Value.slice (some x) xs.length cap) = some x.block := by
    cases xs with
    | nil => simp at hpos
    | cons => rfl
  have hlt := lt_of_cell hx
  rw [add_block] at hlt
  exact ⟨x, rfl, (World.cell?_of_block (w := w) (a := x.add i) (by rw [add_block]; exact hk x.block hhome hlt)).trans hx⟩
theorem Rd.chg {w w' : World} {S : Nat → Prop} {v : Value} {xs : List Value} (h : Rd w v xs) (hc : Chg S w w') (hn : ∀ g, homeOf v = some g → ¬ S g) : Rd w' v xs :=
  h.keep fun g hg hl => hc.block g hl (hn g hg)
theorem Rd.below {B : Nat} {w w' : World} {v : Value} {xs : List Value} (h : Rd w v xs) (hb : Below B w w') (hB : ∀ g, homeOf v = some g → g < B) : Rd w' v xs :=
  h.keep fun g hg _ => hb.block g (hB g hg)
theorem Rd.later {w w' : World} {v : Value} {xs : List Value} (h : Rd w v xs) (hb : Below w.heap.size w w') : Rd w' v xs :=
  h.below hb h.lt

theorem Owns.rd {w : World} {e : TypeId} {v : Value} {xs : List Value} (h : Owns w e v xs) : Rd w v xs := by
  rcases h.form with ⟨rfl, rfl⟩ | ⟨g, cap, cur, rfl, hb, hc, hm, hs, ht⟩
  · exact Rd.nil w
  · refine ⟨_, cap, rfl, hc, hm, fun i u hu => ⟨_, rfl, ?_⟩⟩
    have := h.cell hu
    rw [show (⟨g, 0, none⟩ : Addr).add i = ⟨g, i, none⟩ from by unfold Addr.add; split <;> simp_all]
    exact this
theorem Rd.length {w : World} {a : Option Addr} {n cap : Nat} {xs : List Value} (h : Rd w (.slice a n cap) xs) : n = xs.length := by
  obtain ⟨_, _, hv, _⟩ := h
  simp at hv
  exact hv.2.1
theorem Rd.at {w : World} {a : Option Addr} {n cap : Nat} {xs : List Value} (h : Rd w (.slice a n cap) xs) {i : Nat} {u : Value} (hu : xs[i]? = some u) : ∃ x, a = some x ∧ w.cell? (x.add i) = some u := by
  obtain ⟨_, _, hv, _, _, hc⟩ := h
  simp only [Value.slice.injEq] at hv
  obtain ⟨rfl, _, rfl⟩ := hv
  exact hc i u hu

theorem add_add (x : Addr) (i j : Nat) : (x.add i).add j = x.add (i + j) := by
  unfold Addr.add
  by_cases hi : i = 0
  · subst hi; simp
  · by_cases hj : j = 0
    · subst hj; simp [hi]
    · simp [hi, hj, Nat.add_assoc]

/-- What can be read of a part of a slice. -/
theorem Rd.sub {w : World} {a : Option Addr} {N cap : Nat} {xs : List Value} (h : Rd w (.slice a N cap) xs) (k n : Nat) (hk : k + n ≤ N) :
    Rd w (.slice (if cap = k then a else a.map (fun x => x.add k)) (k + n - k) (cap - k)) ((xs.drop k).take n) := by
  obtain ⟨_, _, hv, h1, h2, hc⟩ := h
  simp only [Value.slice.injEq] at hv
  obtain ⟨rfl, rfl, rfl⟩ := hv
  have hl : ((xs.drop k).take n).length = n := by rw [List.length_take, List.length_drop]; omega
  refine ⟨_, _, by rw [hl, Nat.add_sub_cancel_left], by rw [hl]; omega, by omega, fun i u hu => ?_⟩
  have hi : i < n := by have := (List.getElem?_eq_some_iff.1 hu).1; omega
  rw [List.getElem?_take, if_pos hi, List.getElem?_drop] at hu
  obtain ⟨x, rfl, hx⟩ := hc _ u hu
  rw [if_neg (by omega)]
  exact ⟨x.add k, rfl, by rw [add_add]; exact hx⟩

theorem Rd.take {w : World} {a : Option Addr} {N cap : Nat} {xs : List Value} (h : Rd w (.slice a N cap) xs) (n : Nat) (hn : n ≤ N) : Rd w (.slice a n cap) (xs.take n) := by
  obtain ⟨_, _, hv, h1, h2, hc⟩ := h
  simp only [Value.slice.injEq] at hv
  obtain ⟨rfl, rfl, rfl⟩ := hv
  have hl : (xs.take n).length = n := by rw [List.length_take]; omega
  refine ⟨_, _, by rw [hl], by rw [hl]; omega, h2, fun i u hu => ?_⟩
  have hi : i < n := by have := (List.getElem?_eq_some_iff.1 hu).1; omega
  rw [List.getElem?_take, if_pos hi] at hu
  exact hc i u hu

/-- Whole numbers from nought on, as values; whole numbers, as values. -/
def nums (k : IntKind) (l : List Nat) : List Value := l.map fun n : Nat => .int k (n : Int)
def ints (k : IntKind) (l : List Int) : List Value := l.map fun n => .int k n
@[simp] theorem length_nums (k : IntKind) (l : List Nat) : (nums k l).length = l.length := by simp [nums]
@[simp] theorem length_ints (k : IntKind) (l : List Int) : (ints k l).length = l.length := by simp [ints]
theorem ints_at (k : IntKind) (l : List Int) (i : Nat) (h : i < l.length) : (ints k l)[i]? = some (.int k (l.getD i 0)) := by
  simp [ints, List.getD_eq_getElem?_getD, h]

/-- A law's parameter that is a slice of whole numbers. -/
def Arg (k : IntKind) (w : World) (a : Option Addr) (len cap : Nat) (zs : List Int) : Prop :=
  (a = none ∧ len = 0 ∧ cap = 0 ∧ zs = []) ∨
  ∃ x, a = some x ∧ len ≤ cap ∧ cap ≤ maxLen ∧ zs.length = cap ∧ (∀ i, i < zs.length → w.cell? (x.add i) = some (.int k (zs.getD i 0))) ∧ ∀ n ∈ zs, (Lit.int k n).wf = true

theorem Arg.rd {k : IntKind} {w : World} {a : Option Addr} {len cap : Nat} {zs : List Int} (h : Arg k w a len cap zs) :
    ∃ xs : List Int, xs.length = len ∧ Rd w (.slice a len cap) (ints k xs) ∧ ∀ n ∈ xs, (Lit.int k n).wf = true := by
  rcases h with ⟨rfl, rfl, rfl, rfl⟩ | ⟨x, rfl, hl, hm, hz, hc, hw⟩
  · exact ⟨[], rfl, Rd.nil w, by simp⟩
  · have hlen : (zs.take len).length = len := by rw [List.length_take]; omega
    refine ⟨zs.take len, hlen, ⟨some x, cap, by rw [length_ints, hlen], by rw [length_ints, hlen]; exact hl, hm, fun i u hu => ⟨x, rfl, ?_⟩⟩, fun n hn => hw n (List.mem_of_mem_take hn)⟩
    have hi : i < len := by have := (List.getElem?_eq_some_iff.1 hu).1; rw [length_ints, hlen] at this; exact this
    rw [ints_at k _ i (by omega)] at hu
    have := hc i (by omega)
    rw [this, ← hu]
    simp [List.getD_eq_getElem?_getD, List.getElem?_take, hi]

/-- A row's slice of whole numbers is no longer than its weight allows. -/
theorem sized_ints {H : Type} {enc : TypeId × Value → H} {P : Program} {W : World} {base : Nat} {spare : Nat → Bool} {held : Bool} {t e : TypeId} {k : IntKind} {a : Option Addr} {len cap : Nat} {d : DataW H} {ps : List MemPlace} {ts : List TypeId} {ds : List (DataW H)} {j : Nat}
    (hsz : (DataW.weightsEach P ts ds).all (· ≤ reachBytes) = true) (ht : ts[j]? = some t) (hd : ds[j]? = some d) (hu : P.underlying t = some (.slice e)) (he : P.underlying e = some (.int k)) (hc : P.cellsOf e = 1) {B : Nat} (hB : P.bytesOf e = B)
    (h : DataW.Trod enc P W base spare held t (.slice a len cap) d ps) : len * B ≤ 140737488351232 := by
  obtain ⟨fuel, hf⟩ := h
  rcases open_ints hu he hc hf with ⟨hcs, _⟩ | ⟨x, l, c, zs, hcs, _, hl, _, hz, hx, _, _⟩
  · simp [Value.cells] at hcs
    obtain ⟨rfl, rfl, rfl⟩ := hcs
    simp
  · simp [Value.cells] at hcs
    obtain ⟨rfl, rfl, rfl⟩ := hcs
    obtain ⟨hx, _⟩ := Prod.mk.inj hx
    subst hx
    have z := sized_slice hsz ht hd hu
    rw [hB] at z
    have hl2 : len ≤ zs.length := by
      rw [hz]
      split
      · exact hl
      · exact Nat.le_refl _
    have h1 : (lits (H := H) k (zs.take len)).length + (lits (H := H) k (zs.drop len)).length = zs.length := by
      simp [lits]
      omega
    rw [h1] at z
    exact Nat.le_trans (Nat.mul_le_mul_right _ hl2) z
end Go.Proofs.Ytnakjencodicmaa.Own

-- ---- Af
/- 'append' onto a slice that is full (its length is its capacity): the result lies in a block of its own. No program in sight. -/
namespace Go.Proofs.Ytnakjencodicmaa.Own
set_option maxRecDepth 100000
set_option linter.unusedSimpArgs false
set_option linter.unusedVariables false
open Go Go.RowKit

theorem zeroCells_size (z : Array Value) (n : Nat) (h : z.size = 1) : (Builtin.zeroCells z n).size = n := by
  have := Go.size_zeroCells z n
  rw [h] at this
  simpa using this

section
variable {P : Program} {w : World}
theorem run_append_full (t ty e : TypeId) (i : TypeInfo) (z : Value) (bytes : Nat) (ht : P.underlying t = some (.slice e)) (hi : P.info? e = some i) (hz : i.zero = some z)
    (hsize : i.size = 1) (hby : i.bytes = bytes) (hzs : z.cells.size = 1)
    (A : Option Addr) (k : Nat) (xs : List Value) (hx : Rd w (.slice A k k) xs) (A2 : Option Addr) (m c : Nat) (ys : List Value) (hy : Rd w (.slice A2 m c) ys) (hm : 0 < m)
    (h63 : k + m ≤ maxLen) (hbytes : ((k + m) + (k + m) / 4 + 192) * bytes ≤ 281474976710656) :
    ∃ v' w', (Builtin.append_ #[t, t] ty #[.slice A k k, .slice A2 m c]).run P w = .ok v' w' ∧ Owns w' e v' (xs ++ ys) ∧ Below w.heap.size w w' ∧ ∀ g, v'.ownBlock = some g → w.heap.size ≤ g := by
  have hk := hx.length
  have hml := hy.length
  subst hk
  subst hml
  obtain ⟨y0, hy0⟩ : ∃ y0, ys[0]? = some y0 := ⟨ys[0], List.getElem?_eq_getElem hm⟩
  obtain ⟨a2, rfl, _⟩ := hy.at hy0
  have hnews : ∀ j u, ys[j]? = some u → w.cell? (a2.add j) = some u := fun j u hu => by
    obtain ⟨x, hxx, hc⟩ := hy.at hu
    cases hxx
    exact hc
  have hge := grownCap_ge w (xs.length + ys.length) xs.length e
  have hle := grownCap_le_maxLen w (xs.length + ys.length) xs.length e h63
  have fin : ∀ C cap, C.size = cap → cap = grownCap w (xs.length + ys.length) xs.length e → C.toList.take (xs.length + ys.length) = xs ++ ys →
      Owns (w.drew.alloc (.cells C e)) e (.slice (some ⟨w.heap.size, 0, none⟩) (xs.length + ys.length) cap) (xs ++ ys) ∧ Below w.heap.size w (w.drew.alloc (.cells C e)) ∧ ∀ g, (Value.slice (some ⟨w.heap.size, 0, none⟩) (xs.length + ys.length) cap).ownBlock = some g → w.heap.size ≤ g := by
    intro C cap h1 h2 h3
    have hb : Blk (w.drew.alloc (.cells C e)) w.heap.size C e := Blk.fresh w.drew C e
    refine ⟨?_, ((Below.refl w.heap.size w).drew).alloc (Nat.le_refl _) _, fun g hg => ?_⟩
    · have := Owns.mk (xs := xs ++ ys) hb (by rw [List.length_append]; omega) (by omega) h1 (by rw [List.length_append]; exact h3)
      rwa [List.length_append] at this
    · simp [Value.ownBlock] at hg; omega
  cases A with
  | none =>
    have h0 : xs = [] := by
      cases xs with
      | nil => rfl
      | cons u t => obtain ⟨x, hx2, _⟩ := hx.at (i := 0) (u := u) rfl; cases hx2
    subst h0
    have hr := run_append_nil (P := P) (w := w) t ty e i z ht hi hz a2 ys.length c ys (by rw [hsize, Nat.mul_one]) hnews hm (by simp only [maxLen] at h63; simp at h63; omega) (by rw [hby]; simp at hbytes; exact Nat.le_trans (Nat.mul_le_mul_right _ (by omega)) hbytes)
    simp only [List.length_nil, Nat.zero_add, List.nil_append] at fin hge ⊢
    refine ⟨_, _, hr, fin _ _ ?_ rfl ?_⟩
    · simp [zeroCells_size _ _ hzs]; omega
    · simp
  | some b =>
    have holds : ∀ j v, xs[j]? = some v → w.cell? (b.add j) = some v := fun j u hu => by
      obtain ⟨x, hxx, hc⟩ := hx.at hu
      cases hxx
      exact hc
    have hr := run_append_grow (P := P) (w := w) t ty e i z ht hi hz b xs.length xs.length xs (by rw [hsize, Nat.mul_one]) holds a2 ys.length c ys (by rw [hsize, Nat.mul_one]) hnews (by omega) (by simp only [maxLen] at h63; omega) (by rw [hby]; exact growslice_fits_wide (by omega) hbytes)
    refine ⟨_, _, hr, fin _ _ ?_ rfl ?_⟩
    · simp [zeroCells_size _ _ hzs]; omega
    · simp only [Array.toList_append, List.toList_toArray]
      exact List.take_left' (by simp)

/-- The law at the operation. -/
theorem wpList_appFull {ops : Array Oper} {rest : List Oper} {o : Oper} {a : Act} {Q : Exit → Act → World → Prop} (hgd : o.guard = none) (s x : Operand) (t : TypeId)
    (ho : o.op = .call { callee := .builtin .append, args := #[s, x], argTypes := #[t, t] })
    (e : TypeId) (i : TypeInfo) (z : Value) (bytes : Nat) (ht : P.underlying t = some (.slice e)) (hi : P.info? e = some i) (hz : i.zero = some z)
    (hsize : i.size = 1) (hby : i.bytes = bytes) (hzs : z.cells.size = 1)
    (A : Option Addr) (k : Nat) (xs : List Value) (hs : a.eval s = .slice A k k) (hR : Rd w (.slice A k k) xs) (A2 : Option Addr) (m c : Nat) (ys : List Value) (hx : a.eval x = .slice A2 m c) (hy : Rd w (.slice A2 m c) ys) (hm : 0 < m)
    (h63 : k + m ≤ maxLen) (hbytes : ((k + m) + (k + m) / 4 + 192) * bytes ≤ 281474976710656)
    (h : ∀ v' w', Owns w' e v' (xs ++ ys) → Below w.heap.size w w' → (∀ g, v'.ownBlock = some g → w.heap.size ≤ g) → wpList P ops Q rest (a.put o.dst v') w') : wpList P ops Q (o :: rest) a w :=
  wpList_plain hgd fun K hK => by
    obtain ⟨v', w', hr, h2, h3, h4⟩ := run_append_full (P := P) t o.type e i z bytes ht hi hz hsize hby hzs A k xs hR A2 m c ys hy hm h63 hbytes
    unfold Oper.wp execOp
    simp only [ho, resolve, invoke, builtin, Sem.run_bind, Sem.run_pure, Result.andThen_ok, List.map_toArray, List.map_cons, List.map_nil, hs, hx, hr]
    exact hK _ _ (h v' w' h2 h3 h4)

/-- 'append' of what can be read, nil or not, onto a row of one's own. -/
theorem wpList_appRd {ops : Array Oper} {rest : List Oper} {o : Oper} {a : Act} {Q : Exit → Act → World → Prop} (hgd : o.guard = none) (s x : Operand) (t : TypeId)
    (ho : o.op = .call { callee := .builtin .append, args := #[s, x], argTypes := #[t, t] })
    (e : TypeId) (i : TypeInfo) (z : Value) (bytes : Nat) (ht : P.underlying t = some (.slice e)) (hi : P.info? e = some i) (hz : i.zero = some z)
    (hsize : i.size = 1) (hby : i.bytes = bytes) (hzs : z.cells.size = 1)
    (v : Value) (xs : List Value) (hs : a.eval s = v) (hown : Owns w e v xs)
    (A2 : Option Addr) (m c : Nat) (ys : List Value) (hx : a.eval x = .slice A2 m c) (hy : Rd w (.slice A2 m c) ys) (hnil : A2 = none → c = 0) (h1 : ∀ u ∈ ys, u.oneCell' = true)
    (h63 : xs.length + m ≤ maxLen) (hbytes : (xs.length + m) * bytes ≤ 140737488355328)
    (h : ∀ v' w', Owns w' e v' (xs ++ ys) → Chg (fun k => some k = v.ownBlock) w w' → (∀ g, v'.ownBlock = some g → some g = v.ownBlock ∨ w.heap.size ≤ g) → wpList P ops Q rest (a.put o.dst v') w') : wpList P ops Q (o :: rest) a w := by
  have hml := hy.length
  cases A2 with
  | some ad =>
    refine wpList_app hgd s x t ho e i z bytes ht hi hz hsize hby hzs v xs hs hown ad m c ys hx hml.symm (fun j u hu => ?_) h1 h63 hbytes h
    obtain ⟨x', hxx, hc⟩ := hy.at hu
    cases hxx
    exact hc
  | none =>
    have h0 : ys = [] := by
      cases ys with
      | nil => rfl
      | cons u t => obtain ⟨x, hx2, _⟩ := hy.at (i := 0) (u := u) rfl; cases hx2
    subst h0
    have hm0 : m = 0 := hml
    subst hm0
    have hc0 := hnil rfl
    subst hc0
    refine wpList_plain hgd fun K hK => ?_
    have hr := run_append_owned_none (P := P) (w := w) 0 t o.type e i 1 ht hi v xs.length xs hown
    unfold Oper.wp execOp
    simp only [ho, resolve, invoke, builtin, Sem.run_bind, Sem.run_pure, Result.andThen_ok, List.map_toArray, List.map_cons, List.map_nil, hs, hx, hr]
    exact hK _ _ (h v w (by simpa using hown) (Chg.refl _ _) fun g hg => .inl hg.symm)
end
end Go.Proofs.Ytnakjencodicmaa.Own

-- ---- Mix
/- A rule for a region that draws its order: some operations are taken first (in an order of the prover's choice), then a chain that is forced. Conditions: the Bool 'Region.mixB' over the region's own text. -/
namespace Go.Proofs.Ytnakjencodicmaa.Mix
set_option maxRecDepth 100000
set_option linter.unusedSimpArgs false
set_option linter.unusedVariables false
open Go Go.RowKit

/-- A tree without a store, a freeze, a written object, a system's call. -/
def Grows {α : Type} : Sem α → Prop
  | .pure _ => True
  | .load _ _ k => ∀ v, Grows (k v)
  | .store .. => False
  | .new _ k => ∀ n, Grows (k n)
  | .shape _ k => ∀ s, Grows (k s)
  | .freeze .. => False
  | .frozen _ k => ∀ b, Grows (k b)
  | .getObj _ k => ∀ o, Grows (k o)
  | .setObj .. => False
  | .choose _ k => ∀ n, Grows (k n)
  | .sys .. => False
  | .program k => ∀ p, Grows (k p)
  | .mark _ k => Grows k
  | .halt _ => True

theorem Grows.bind {α β : Type} {s : Sem α} {f : α → Sem β} (h : Grows s) (hf : ∀ a, Grows (f a)) : Grows (s.bind f) := by
  induction s with
  | pure a => exact hf a
  | load m a k ih => exact fun v => ih v (h v)
  | store m a v k ih => exact h.elim
  | new o k ih => exact fun n => ih n (h n)
  | shape r k ih => exact fun v => ih v (h v)
  | freeze a n k ih => exact h.elim
  | frozen a k ih => exact fun v => ih v (h v)
  | getObj r k ih => exact fun v => ih v (h v)
  | setObj r o k ih => exact h.elim
  | choose q k ih => exact fun v => ih v (h v)
  | sys c k ih => exact h.elim
  | program k ih => exact fun v => ih v (h v)
  | mark m k ih => exact ih h
  | halt x => exact trivial

theorem Grows.run {α : Type} (P : Program) {s : Sem α} (h : Grows s) : ∀ w x w', s.run P w = .ok x w' → Below w.heap.size w w' := by
  induction s with
  | pure a => intro w x w' e; simp only [Sem.run, Result.ok.injEq] at e; rw [← e.2]; exact Below.refl _ _
  | load m a k ih =>
    intro w x w' e
    simp only [Sem.run] at e
    split at e
    · exact ih _ (h _) _ _ _ e
    · split at e
      · exact ih _ (h _) _ _ _ e
      · cases e
  | store m a v k ih => exact h.elim
  | new o k ih =>
    intro w x w' e
    simp only [Sem.run] at e
    have := ih _ (h _) _ _ _ e
    exact ((Below.refl w.heap.size w).alloc (Nat.le_refl _) o).trans (this.mono (by simp))
  | shape r k ih => intro w x w' e; exact ih _ (h _) _ _ _ (by simpa only [Sem.run] using e)
  | freeze a n k ih => exact h.elim
  | frozen a k ih => intro w x w' e; exact ih _ (h _) _ _ _ (by simpa only [Sem.run] using e)
  | getObj r k ih =>
    intro w x w' e
    simp only [Sem.run] at e
    split at e
    · cases e
    · exact ih _ (h _) _ _ _ e
    · cases e
  | setObj r o k ih => exact h.elim
  | choose q k ih =>
    intro w x w' e
    simp only [Sem.run] at e
    split at e
    · exact ih _ (h _) _ _ _ e
    · have := ih _ (h _) _ _ _ e
      exact ((Below.refl w.heap.size w).drew).trans this
  | sys c k ih => exact h.elim
  | program k ih => intro w x w' e; exact ih _ (h _) _ _ _ (by simpa only [Sem.run] using e)
  | mark m k ih => intro w x w' e; exact ih h _ _ _ (by simpa only [Sem.run] using e)
  | halt x => intro w x w' e; simp [Sem.run] at e

/-- A tree all of whose ends are values. -/
def Vals : Sem Next → Prop
  | .pure n => ∃ u, n = .value u
  | .load _ _ k => ∀ v, Vals (k v)
  | .store _ _ _ k => Vals k
  | .new _ k => ∀ n, Vals (k n)
  | .shape _ k => ∀ s, Vals (k s)
  | .freeze _ _ k => Vals k
  | .frozen _ k => ∀ b, Vals (k b)
  | .getObj _ k => ∀ o, Vals (k o)
  | .setObj _ _ k => Vals k
  | .choose _ k => ∀ n, Vals (k n)
  | .sys _ k => ∀ r, Vals (k r)
  | .program k => ∀ p, Vals (k p)
  | .mark _ k => Vals k
  | .halt _ => True

theorem Vals.bind {α : Type} {f : α → Sem Next} (hf : ∀ a, Vals (f a)) : ∀ s : Sem α, Vals (s.bind f) := by
  intro s
  induction s with
  | pure a => exact hf a
  | load m a k ih => exact fun v => ih v
  | store m a v k ih => exact ih
  | new o k ih => exact fun v => ih v
  | shape r k ih => exact fun v => ih v
  | freeze a n k ih => exact ih
  | frozen a k ih => exact fun v => ih v
  | getObj r k ih => exact fun v => ih v
  | setObj r o k ih => exact ih
  | choose q k ih => exact fun v => ih v
  | sys c k ih => exact fun v => ih v
  | program k ih => exact fun v => ih v
  | mark m k ih => exact ih
  | halt x => exact trivial

theorem Vals.run {P : Program} : ∀ (s : Sem Next), Vals s → ∀ w n w', s.run P w = .ok n w' → ∃ u, n = .value u := by
  intro s
  induction s with
  | pure a => intro h w n w' e; simp only [Sem.run, Result.ok.injEq] at e; rw [← e.1]; exact h
  | load m a k ih =>
    intro h w n w' e
    simp only [Sem.run] at e
    split at e
    · exact ih _ (h _) _ _ _ e
    · split at e
      · exact ih _ (h _) _ _ _ e
      · cases e
  | store m a v k ih =>
    intro h w n w' e
    cases v <;> simp only [Sem.run] at e <;> first
      | (cases e; done)
      | (split at e
         · split at e
           · cases e
           · exact ih h _ _ _ e
         · split at e
           · exact ih h _ _ _ e
           · cases e)
  | new o k ih => intro h w n w' e; exact ih _ (h _) _ _ _ (by simpa only [Sem.run] using e)
  | shape r k ih => intro h w n w' e; exact ih _ (h _) _ _ _ (by simpa only [Sem.run] using e)
  | freeze a m k ih => intro h w n w' e; exact ih h _ _ _ (by simpa only [Sem.run] using e)
  | frozen a k ih => intro h w n w' e; exact ih _ (h _) _ _ _ (by simpa only [Sem.run] using e)
  | getObj r k ih =>
    intro h w n w' e
    simp only [Sem.run] at e
    split at e
    · cases e
    · exact ih _ (h _) _ _ _ e
    · cases e
  | setObj r o k ih =>
    intro h w n w' e
    simp only [Sem.run] at e
    split at e
    · cases e
    · exact ih h _ _ _ e
    · cases e
  | choose q k ih =>
    intro h w n w' e
    simp only [Sem.run] at e
    split at e
    · exact ih _ (h _) _ _ _ e
    · exact ih _ (h _) _ _ _ e
  | sys c k ih => intro h w n w' e; exact ih _ (h _) _ _ _ (by simpa only [Sem.run] using e)
  | program k ih => intro h w n w' e; exact ih _ (h _) _ _ _ (by simpa only [Sem.run] using e)
  | mark m k ih => intro h w n w' e; exact ih h _ _ _ (by simpa only [Sem.run] using e)
  | halt x => intro _ w n w' e; simp [Sem.run] at e

theorem vals_bind {α : Type} {s : Sem α} {f : α → Sem Next} (hf : ∀ a, Vals (f a)) : Vals (s >>= f) := Vals.bind hf s

/-- Operations that may be taken first. -/
def headOp : Op → Bool
  | .move _ | .assign _ | .pick .. | .load .. | .binOp .. | .unOp .. | .convert .. | .fieldAddr .. | .field .. | .indexAddr .. | .index .. | .slice .. | .extract .. | .makeFunc .. | .nilCheck _ => true
  | .call { callee := .builtin .len, .. } => true
  | .call { callee := .builtin .max, .. } => true
  | _ => false

/-- Operations that lay a new block and do nothing else. -/
def newOp : Op → Bool
  | .buildSlice .. | .box .. | .makeSlice .. | .alloc _ => true
  | _ => false

theorem head_vals (ρ : Operand → Value) (o : Oper) (h : headOp o.op = true) : Vals (execOp ρ o) := by
  obtain ⟨dst, op, type, pos, after, guard⟩ := o
  cases op <;> simp only [headOp] at h <;> first
    | (cases h; done)
    | (simp only [execOp]; refine vals_bind ?_; intro _; exact ⟨_, rfl⟩)
    | (simp only [execOp]; exact ⟨_, rfl⟩)
    | skip
  case nilCheck x =>
    simp only [execOp]
    generalize ρ x = v
    split
    · exact fun p => trivial
    · exact fun p => trivial
    · exact fun p => trivial
    · split
      · exact fun p => trivial
      · refine vals_bind ?_; intro _
        refine vals_bind ?_; intro _
        split
        · refine vals_bind ?_; intro _; exact ⟨_, rfl⟩
        · exact ⟨_, rfl⟩
      · exact ⟨_, rfl⟩
    · exact ⟨_, rfl⟩
  case call c =>
    obtain ⟨callee, args, argTypes⟩ := c
    cases callee <;> first | (simp at h; done) | skip
    case builtin b =>
      cases b <;> first
        | (simp at h; done)
        | exact (vals_bind (s := Builtin.len_ argTypes type (args.map ρ)) (f := fun v => pure (Next.value v)) fun v => ⟨_, rfl⟩)
        | exact (vals_bind (s := Builtin.max_ argTypes type (args.map ρ)) (f := fun v => pure (Next.value v)) fun v => ⟨_, rfl⟩)

theorem new_vals (ρ : Operand → Value) (o : Oper) (h : newOp o.op = true) : Vals (execOp ρ o) := by
  obtain ⟨dst, op, type, pos, after, guard⟩ := o
  cases op <;> simp only [newOp] at h <;> first
    | (cases h; done)
    | (simp only [execOp]; refine vals_bind ?_; intro _; exact ⟨_, rfl⟩)

theorem grows_stuck {α : Type} (s : String) : Grows (stuck s : Sem α) := trivial
theorem grows_unsupported {α : Type} (s : Unsupported) : Grows (unsupported s : Sem α) := trivial
theorem grows_bind {α β : Type} {s : Sem α} {f : α → Sem β} (h : Grows s) (hf : ∀ a, Grows (f a)) : Grows (s >>= f) := Grows.bind h hf
theorem grows_program : Grows program := fun _ => trivial
theorem grows_typeInfo (t : TypeId) : Grows (typeInfo t) := grows_bind grows_program fun p => by (try dsimp only); split <;> trivial
theorem grows_underlying (t : TypeId) : Grows (underlying t) := grows_bind grows_program fun p => by (try dsimp only); split <;> trivial
theorem grows_sizeOf (t : TypeId) : Grows (sizeOf t) := grows_bind (grows_typeInfo t) fun _ => trivial
theorem grows_zeroValue (t : TypeId) : Grows (zeroValue t) := grows_bind (grows_typeInfo t) fun i => by (try dsimp only); split <;> trivial
theorem grows_newRow (t : TypeId) (c : Array Value) : Grows (newRow t c) := grows_bind (fun _ => trivial) fun _ => trivial
theorem grows_elemOf (t : TypeId) : Grows (elemOf t) := grows_bind (grows_underlying t) fun _ => by (try dsimp only); split <;> trivial
theorem grows_goPanic {α : Type} (v : Value) : Grows (goPanic v : Sem α) := trivial
theorem grows_runtimePanic {α : Type} (e : RuntimeError) : Grows (runtimePanic e : Sem α) := grows_bind grows_program fun _ => by
  (try dsimp only)
  split <;> first
    | exact grows_goPanic _
    | (refine grows_bind (grows_elemOf _) fun _ => ?_; refine grows_bind (grows_newRow _ _) fun _ => ?_; exact grows_goPanic _)
theorem grows_asIntOf (v : Value) : Grows (asIntOf v) := by unfold asIntOf; split <;> trivial
theorem grows_asInt (v : Value) : Grows (asInt v) := by unfold asInt; exact grows_bind (grows_asIntOf v) fun _ => trivial
theorem grows_askRoom (n : Nat) : Grows (askRoom n) := by unfold askRoom; split <;> trivial
theorem grows_choose (q : Question) : Grows (choose q) := fun _ => trivial

theorem grows_box (e : TypeId) (v : Value) : Grows (Instr.box e v) := grows_bind (grows_newRow _ _) fun _ => trivial
theorem grows_alloc (e : TypeId) (v : Value) : Grows (Instr.alloc e true v) := by
  unfold Instr.alloc
  exact grows_bind (grows_zeroValue _) fun z => grows_bind (grows_newRow _ _) fun _ => trivial
theorem grows_buildSlice (t : TypeId) (n : Nat) (ps : Array (Nat × Value)) : Grows (Instr.buildSlice t n ps) := by
  unfold Instr.buildSlice
  repeat' first
    | exact trivial
    | exact grows_underlying _
    | exact grows_sizeOf _
    | exact grows_zeroValue _
    | exact grows_newRow _ _
    | exact grows_stuck _
    | exact grows_unsupported _
    | refine grows_bind ?_ (fun _ => ?_)
    | split
    | dsimp only
theorem grows_makeSlice (t : TypeId) (a b : Value) : Grows (Instr.makeSlice t a b) := by
  unfold Instr.makeSlice
  repeat' first
    | exact trivial
    | exact grows_underlying _
    | exact grows_sizeOf _
    | exact grows_zeroValue _
    | exact grows_newRow _ _
    | exact grows_typeInfo _
    | exact grows_asInt _
    | exact grows_askRoom _
    | exact grows_choose _
    | exact grows_runtimePanic _
    | exact grows_stuck _
    | exact grows_unsupported _
    | refine grows_bind ?_ (fun _ => ?_)
    | split
    | dsimp only

theorem new_grows (ρ : Operand → Value) (o : Oper) (h : newOp o.op = true) : Grows (execOp ρ o) := by
  obtain ⟨dst, op, type, pos, after, guard⟩ := o
  cases op <;> simp only [newOp] at h <;> first
    | (cases h; done)
    | (simp only [execOp]; exact grows_bind (grows_box _ _) fun _ => trivial)
    | (simp only [execOp]; exact grows_bind (grows_alloc _ _) fun _ => trivial)
    | (simp only [execOp]; exact grows_bind (grows_buildSlice _ _ _) fun _ => trivial)
    | (simp only [execOp]; exact grows_bind (grows_makeSlice _ _ _) fun _ => trivial)

section
variable {P : Program} {ops : Array Oper} {Q : Exit → Act → World → Prop} {md : Region.Mode} {C : World → Prop}

/-- Whatever order is picked from here on: what is in 'h1' yields in every world, what is in 'h2' in every world of the class, the rest is carried out. -/
def wpM (P : Program) (md : Region.Mode) (ops : Array Oper) (Q : Exit → Act → World → Prop) (C : World → Prop) (h1 h2 : List Nat) : Nat → Array Bool → Act → World → Prop
  | 0, listed, a, w => Region.ready md ops listed = [] ∧ Q .normal a w
  | fuel + 1, listed, a, w =>
    (Region.ready md ops listed = [] → Q .normal a w) ∧
    ∀ i ∈ Region.ready md ops listed,
      if i ∈ h1 then ∃ o v, ops[i]? = some o ∧ Yields P ops o v a ∧ wpM P md ops Q C h1 h2 fuel (listed.setIfInBounds i true) (a.put o.dst v) w
      else if i ∈ h2 then ∃ o v, ops[i]? = some o ∧ C w ∧ YieldsIf P ops C o v a ∧ wpM P md ops Q C h1 h2 fuel (listed.setIfInBounds i true) (a.put o.dst v) w
      else wpOp P ops Q i (wpM P md ops Q C h1 h2 fuel (listed.setIfInBounds i true)) a w

theorem wpAny_of_M {h1 h2 : List Nat} : ∀ (fuel : Nat) (listed : Array Bool) (a : Act) (w : World), wpM P md ops Q C h1 h2 fuel listed a w → wpAny P md ops Q fuel listed a w
  | 0, _, _, _, h => h
  | fuel + 1, listed, a, w, h => ⟨h.1, fun i hi => by
      have h2 := h.2 i hi
      split at h2
      · obtain ⟨o, v, ho, hy, hm⟩ := h2
        exact hy.wpOp ho (wpAny_of_M fuel _ _ _ hm)
      · split at h2
        · obtain ⟨o, v, ho, hc, hy, hm⟩ := h2
          exact hy.wpOp ho hc (wpAny_of_M fuel _ _ _ hm)
        · exact wpOp_mono (fun a' w' h' => wpAny_of_M fuel _ a' w' h') h2⟩

theorem yields_put {oi oj : Oper} {a : Act} {v : Value} (hsj : ∀ cs b, oj.op ≠ .select cs b) (hap : oi.apart ops oj = true) {u : Value} (h : Yields P ops oj u (a.put oi.dst v)) : Yields P ops oj u a := by
  obtain ⟨h1, _, _⟩ := Oper.apart_spec hap
  exact h.of_same (execOp_put oj hsj a oi.dst v h1).symm (wanted_put oj a oi.dst v h1).symm

theorem yieldsIf_put {oi oj : Oper} {a : Act} {v : Value} (hsj : ∀ cs b, oj.op ≠ .select cs b) (hap : oi.apart ops oj = true) {u : Value} (h : YieldsIf P ops C oj u (a.put oi.dst v)) : YieldsIf P ops C oj u a := by
  obtain ⟨h1, _, _⟩ := Oper.apart_spec hap
  exact h.of_same (execOp_put oj hsj a oi.dst v h1).symm (wanted_put oj a oi.dst v h1).symm

theorem yields_put' {oi oj : Oper} {a : Act} {v : Value} (hsi : ∀ cs b, oi.op ≠ .select cs b) (hap : oi.apart ops oj = true) (u : Value) (h : Yields P ops oi v a) : Yields P ops oi v (a.put oj.dst u) := by
  obtain ⟨_, _, h3⟩ := Oper.apart_spec hap
  exact h.of_same (execOp_put oi hsi a oj.dst u h3) (wanted_put oi a oj.dst u h3)

theorem yieldsIf_put' {oi oj : Oper} {a : Act} {v : Value} (hsi : ∀ cs b, oi.op ≠ .select cs b) (hap : oi.apart ops oj = true) (u : Value) (h : YieldsIf P ops C oi v a) : YieldsIf P ops C oi v (a.put oj.dst u) := by
  obtain ⟨_, _, h3⟩ := Oper.apart_spec hap
  exact h.of_same (execOp_put oi hsi a oj.dst u h3) (wanted_put oi a oj.dst u h3)

theorem not_waits {i : Nat} {oj : Oper} {listed : Array Bool} (hr : i ∈ Region.ready md ops listed) (hall : ∀ e ∈ oj.after, Region.binds md e = true → listed.getD e.on false = true) :
    ∀ e ∈ oj.after, Region.binds md e = true → e.on ≠ i := fun e he hb heq => by
  have h1 := hall e he hb
  have h0 := (mem_ready.1 hr).1
  rw [heq] at h1
  rcases Nat.lt_or_ge i listed.size with h' | h'
  · simp [h'] at h0 h1; rw [h0] at h1; cases h1
  · simp [Array.getElem?_eq_none h'] at h1

/-- What 'free' asks, for all that has not come up. -/
def Free (md : Region.Mode) (ops : Array Oper) (i : Nat) (oi : Oper) (listed : Array Bool) : Prop :=
  ∀ j oj, ops[j]? = some oj → j ≠ i → listed.getD j true = false → (∀ e ∈ oj.after, Region.binds md e = true → e.on ≠ i) → oi.apart ops oj = true

theorem Free.set {i j : Nat} {oi : Oper} {listed : Array Bool} (h : Free md ops i oi listed) (hjun : listed.getD j true = false) : Free md ops i oi (listed.setIfInBounds j true) := fun k ok hk hki hun hno => by
  refine h k ok hk hki ?_ hno
  by_cases hjk : j = k
  · subst hjk; exact hjun
  · rw [getD_set_ne true hjk] at hun; exact hun

theorem wpM_first1 {h1 h2 : List Nat} {i : Nat} {oi : Oper} {v : Value} (hi : ops[i]? = some oi) (hi1 : i ∈ h1) (hsel : ∀ (j : Nat) (o : Oper) cs b, ops[j]? = some o → o.op ≠ .select cs b)
    (hQ : ∀ c a w, Q (.panic c) (a.put oi.dst v) w → Q (.panic c) a w) :
    ∀ (fuel : Nat) (listed : Array Bool) (a : Act) (w : World), Free md ops i oi listed →
      i ∈ Region.ready md ops listed → Yields P ops oi v a →
      wpM P md ops Q C h1 h2 fuel (listed.setIfInBounds i true) (a.put oi.dst v) w → wpM P md ops Q C h1 h2 (fuel + 1) listed a w := by
  intro fuel
  induction fuel with
  | zero =>
    intro listed a w _ hr hy H
    refine ⟨fun h => (by rw [h] at hr; cases hr), fun j hj => ?_⟩
    by_cases hji : j = i
    · subst hji; rw [if_pos hi1]; exact ⟨oi, v, hi, hy, H⟩
    · have := ready_mono hj hji
      rw [H.1] at this
      cases this
  | succ fuel ih =>
    intro listed a w hfree hr hy H
    refine ⟨fun h => (by rw [h] at hr; cases hr), fun j hj => ?_⟩
    by_cases hji : j = i
    · subst hji; rw [if_pos hi1]; exact ⟨oi, v, hi, hy, H⟩
    · have hH := H.2 j (ready_mono hj hji)
      obtain ⟨hjun, oj, hoj, hall⟩ := mem_ready.1 hj
      have hap := hfree j oj hoj hji hjun (not_waits hr hall)
      have hfree' := hfree.set hjun
      have hr' := ready_mono hr (Ne.symm hji)
      obtain ⟨_, hne, _⟩ := Oper.apart_spec hap
      split at hH
      · rename_i hj1
        obtain ⟨o, u, ho, hyj, hm⟩ := hH
        have e : oj = o := Option.some.inj (hoj.symm.trans ho)
        subst e
        rw [if_pos hj1]
        refine ⟨oj, u, hoj, yields_put (fun cs b => hsel j oj cs b hoj) hap hyj, ih _ _ _ hfree' hr' (yields_put' (fun cs b => hsel i oi cs b hi) hap u hy) ?_⟩
        rw [Array.setIfInBounds_comm _ _ hji, ← Act.put_comm a v u hne]
        exact hm
      · rename_i hj1
        split at hH
        · rename_i hj2
          obtain ⟨o, u, ho, hc, hyj, hm⟩ := hH
          have e : oj = o := Option.some.inj (hoj.symm.trans ho)
          subst e
          rw [if_neg hj1, if_pos hj2]
          refine ⟨oj, u, hoj, hc, yieldsIf_put (fun cs b => hsel j oj cs b hoj) hap hyj, ih _ _ _ hfree' hr' (yields_put' (fun cs b => hsel i oi cs b hi) hap u hy) ?_⟩
          rw [Array.setIfInBounds_comm _ _ hji, ← Act.put_comm a v u hne]
          exact hm
        · rename_i hj2
          rw [if_neg hj1, if_neg hj2]
          have h2 := wpOp_put hoj hap (fun cs b => hsel i oi cs b hi) (fun cs b => hsel j oj cs b hoj) hQ hy hH
          refine wpOp_mono (fun a' w' h3 => ih (listed.setIfInBounds j true) a' w' hfree' hr' h3.1 ?_) h2
          rw [Array.setIfInBounds_comm _ _ hji]
          exact h3.2

/-- An operation that lays a block leaves the class. -/
theorem wpOp_new {j : Nat} {oj : Oper} (hoj : ops[j]? = some oj) (hn : newOp oj.op = true) (hC : ∀ w w', C w → Below w.heap.size w w' → C w') {K : Act → World → Prop} {a : Act} {w : World} (hw : C w)
    (h : wpOp P ops Q j K a w) : wpOp P ops Q j (fun a' w' => C w' ∧ K a' w') a w := by
  unfold wpOp at *
  simp only [hoj] at *
  split
  · rename_i hwant
    simp only [hwant, if_true] at h
    rcases h with h | h
    case inr => exact .inr h
    refine .inl ?_
    have hv := Vals.run (P := P) _ (new_vals a.eval oj hn) w
    have hg := Grows.run P (new_grows a.eval oj hn) w
    unfold Oper.wp at *
    generalize (execOp a.eval oj).run P w = r at *
    cases r with
    | ok n w' =>
      obtain ⟨u, rfl⟩ := hv n w' rfl
      exact ⟨hC _ _ hw (hg _ _ rfl), h⟩
    | halt x w' => cases x <;> simp only [Oper.upon] at h ⊢ <;> exact h
  · rename_i hwant
    simp only [hwant] at h
    exact ⟨hw, h⟩

/-- What has come up has come up behind all that it waits for. -/
def Closed (md : Region.Mode) (ops : Array Oper) (listed : Array Bool) : Prop :=
  ∀ j oj, ops[j]? = some oj → listed.getD j false = true → ∀ e ∈ oj.after, Region.binds md e = true → listed.getD e.on false = true

theorem Closed.set {i : Nat} {listed : Array Bool} (inv : Closed md ops listed) (hi : i ∈ Region.ready md ops listed) : Closed md ops (listed.setIfInBounds i true) := by
  obtain ⟨_, oi, hoi, hall⟩ := mem_ready.1 hi
  intro j oj hj hl e he hb
  by_cases hij : i = j
  · subst hij
    have : oj = oi := Option.some.inj (hj.symm.trans hoi)
    subst this
    exact getD_set_true (hall e he hb)
  · rw [getD_set_ne false hij] at hl
    exact getD_set_true (inv j oj hj hl e he hb)

/-- t waits for i, through others or not. -/
def anc (md : Region.Mode) (ops : Array Oper) : Nat → Nat → Nat → Bool
  | 0, _, _ => false
  | n + 1, t, i => match ops[t]? with
    | some ot => ot.after.any fun e => Region.binds md e && (e.on == i || anc md ops n e.on i)
    | none => false

theorem anc_listed {listed : Array Bool} (hc : Closed md ops listed) {i : Nat} : ∀ (n t : Nat) (ot : Oper), ops[t]? = some ot → (∀ e ∈ ot.after, Region.binds md e = true → listed.getD e.on false = true) → anc md ops n t i = true → listed.getD i false = true := by
  intro n
  induction n with
  | zero => intro t ot _ _ h; simp [anc] at h
  | succ n ih =>
    intro t ot hot hall h
    simp only [anc, hot] at h
    obtain ⟨e, he, hb⟩ := Array.any_eq_true'.1 h
    simp only [Bool.and_eq_true, Bool.or_eq_true, beq_iff_eq] at hb
    obtain ⟨hb1, hb2⟩ := hb
    have hl := hall e he hb1
    rcases hb2 with h1 | h1
    · rw [← h1]; exact hl
    · cases n with
      | zero => simp [anc] at h1
      | succ n =>
        cases ho : ops[e.on]? with
        | none => simp [anc, ho] at h1
        | some oe => exact ih e.on oe ho (fun e' he' hb' => hc e.on oe ho hl e' he' hb') h1

theorem wpM_first2 {h1 h2 : List Nat} {i n : Nat} {oi : Oper} {v : Value} (hi : ops[i]? = some oi) (hi1 : i ∉ h1) (hi2 : i ∈ h2) (hsel : ∀ (j : Nat) (o : Oper) cs b, ops[j]? = some o → o.op ≠ .select cs b)
    (hQ : ∀ c a w, Q (.panic c) (a.put oi.dst v) w → Q (.panic c) a w) (hC : ∀ w w', C w → Below w.heap.size w w' → C w')
    (htail : ∀ j oj, ops[j]? = some oj → j ∉ h1 → j ∉ h2 → newOp oj.op = true ∨ anc md ops n j i = true) :
    ∀ (fuel : Nat) (listed : Array Bool) (a : Act) (w : World), Free md ops i oi listed → Closed md ops listed →
      i ∈ Region.ready md ops listed → YieldsIf P ops C oi v a → C w →
      wpM P md ops Q C h1 h2 fuel (listed.setIfInBounds i true) (a.put oi.dst v) w → wpM P md ops Q C h1 h2 (fuel + 1) listed a w := by
  intro fuel
  induction fuel with
  | zero =>
    intro listed a w _ _ hr hy hw H
    refine ⟨fun h => (by rw [h] at hr; cases hr), fun j hj => ?_⟩
    by_cases hji : j = i
    · subst hji; rw [if_neg hi1, if_pos hi2]; exact ⟨oi, v, hi, hw, hy, H⟩
    · have := ready_mono hj hji
      rw [H.1] at this
      cases this
  | succ fuel ih =>
    intro listed a w hfree hcl hr hy hw H
    refine ⟨fun h => (by rw [h] at hr; cases hr), fun j hj => ?_⟩
    by_cases hji : j = i
    · subst hji; rw [if_neg hi1, if_pos hi2]; exact ⟨oi, v, hi, hw, hy, H⟩
    · have hH := H.2 j (ready_mono hj hji)
      obtain ⟨hjun, oj, hoj, hall⟩ := mem_ready.1 hj
      have hap := hfree j oj hoj hji hjun (not_waits hr hall)
      have hfree' := hfree.set hjun
      have hcl' := hcl.set hj
      have hr' := ready_mono hr (Ne.symm hji)
      obtain ⟨_, hne, _⟩ := Oper.apart_spec hap
      split at hH
      · rename_i hj1
        obtain ⟨o, u, ho, hyj, hm⟩ := hH
        have e : oj = o := Option.some.inj (hoj.symm.trans ho)
        subst e
        rw [if_pos hj1]
        refine ⟨oj, u, hoj, yields_put (fun cs b => hsel j oj cs b hoj) hap hyj, ih _ _ _ hfree' hcl' hr' (yieldsIf_put' (fun cs b => hsel i oi cs b hi) hap u hy) hw ?_⟩
        rw [Array.setIfInBounds_comm _ _ hji, ← Act.put_comm a v u hne]
        exact hm
      · rename_i hj1
        split at hH
        · rename_i hj2
          obtain ⟨o, u, ho, hc, hyj, hm⟩ := hH
          have e : oj = o := Option.some.inj (hoj.symm.trans ho)
          subst e
          rw [if_neg hj1, if_pos hj2]
          refine ⟨oj, u, hoj, hc, yieldsIf_put (fun cs b => hsel j oj cs b hoj) hap hyj, ih _ _ _ hfree' hcl' hr' (yieldsIf_put' (fun cs b => hsel i oi cs b hi) hap u hy) hw ?_⟩
          rw [Array.setIfInBounds_comm _ _ hji, ← Act.put_comm a v u hne]
          exact hm
        · rename_i hj2
          rw [if_neg hj1, if_neg hj2]
          have hnew : newOp oj.op = true := (htail j oj hoj hj1 hj2).resolve_right fun hanc => by
            have h1 := anc_listed hcl n j oj hoj hall hanc
            have h0 := getD_both (mem_ready.1 hr).1
            rw [h1] at h0; cases h0
          have h2 := wpOp_new hoj hnew hC hw (wpOp_putIf hoj hap (fun cs b => hsel i oi cs b hi) (fun cs b => hsel j oj cs b hoj) hQ hy hH)
          refine wpOp_mono (fun a' w' h3 => ih (listed.setIfInBounds j true) a' w' hfree' hcl' hr' h3.2.1 h3.1 ?_) h2
          rw [Array.setIfInBounds_comm _ _ hji]
          exact h3.2.2

/-! ### The Bool over a region's text -/
def marked (listed : Array Bool) : List Nat → Array Bool
  | [] => listed
  | i :: l => marked (listed.setIfInBounds i true) l

def hoistB (md : Region.Mode) (ops : Array Oper) : List Nat → Array Bool → Bool
  | [], _ => true
  | i :: l, listed => (Region.ready md ops listed).contains i && Region.free md ops listed i && (match ops[i]? with | some o => headOp o.op | none => false) && hoistB md ops l (listed.setIfInBounds i true)

def seqL (md : Region.Mode) (ops : Array Oper) : List Nat → Array Bool → Bool
  | [], listed => (Region.ready md ops listed).isEmpty
  | i :: l, listed => decide (Region.ready md ops listed = [i]) && seqL md ops l (listed.setIfInBounds i true)

def mixB (md : Region.Mode) (ops : Array Oper) (h1 h2 ts : List Nat) : Bool :=
  Region.noSelect ops && h2.all (fun i => !h1.contains i) && ts.all (fun i => !h1.contains i && !h2.contains i) &&
  (List.range ops.size).all (fun t => h1.contains t || h2.contains t || (match ops[t]? with | some o => newOp o.op | none => false) || h2.all fun i => anc md ops ops.size t i) &&
  hoistB md ops (h1 ++ h2) (Array.replicate ops.size false) && seqL md ops ts (marked (Array.replicate ops.size false) (h1 ++ h2)) && (decide (h1.length + h2.length + ts.length = ops.size))

def pick (l : List Oper) (h : List Nat) : List Oper := h.filterMap fun i => l[i]?

theorem quiet_run {o : Oper} {a : Act} {v : Value} (hh : headOp o.op = true) {w : World} (h : o.quietAt P a C w v) : (execOp a.eval o).run P w = .ok (.value v) w := by
  have hv := Vals.run (P := P) _ (head_vals a.eval o hh) w
  unfold Oper.quietAt at h
  generalize (execOp a.eval o).run P w = r at *
  cases r with
  | ok n w' =>
    obtain ⟨u, rfl⟩ := hv n w' rfl
    obtain ⟨rfl, rfl⟩ := h
    rfl
  | halt x w' => exact h.elim

theorem marked_append (l1 l2 : List Nat) : ∀ listed, marked listed (l1 ++ l2) = marked (marked listed l1) l2 := by
  induction l1 with
  | nil => intro _; rfl
  | cons i l ih => intro listed; exact ih _

theorem hoistB_append (l1 l2 : List Nat) : ∀ listed, hoistB md ops (l1 ++ l2) listed = (hoistB md ops l1 listed && hoistB md ops l2 (marked listed l1)) := by
  induction l1 with
  | nil => intro _; simp [hoistB, marked]
  | cons i l ih => intro listed; simp only [List.cons_append, hoistB, marked, ih, Bool.and_assoc]

theorem closed_marked (l : List Nat) : ∀ listed, hoistB md ops l listed = true → Closed md ops listed → Closed md ops (marked listed l) := by
  induction l with
  | nil => intro _ _ h; exact h
  | cons i l ih =>
    intro listed hB hc
    simp only [hoistB, Bool.and_eq_true] at hB
    exact ih _ hB.2 (hc.set (by simpa using hB.1.1.1))

theorem hoist1 {h1 h2 : List Nat} (hsel : Region.noSelect ops = true) (hQ : ∀ c a w d v, Q (.panic c) (a.put d v) w → Q (.panic c) a w) {Qa : Act → Prop} {w : World} {fuel : Nat} :
    ∀ (l : List Nat) (lo : List Oper) (listed : Array Bool) (a : Act), (∀ i ∈ l, i ∈ h1) → l.map (fun i => ops[i]?) = lo.map some → hoistB md ops l listed = true →
      (∀ a', Qa a' → wpM P md ops Q C h1 h2 fuel (marked listed l) a' w) → wpQuiet P ops (fun _ => True) Qa lo a → wpM P md ops Q C h1 h2 (fuel + l.length) listed a w := by
  intro l
  induction l with
  | nil => intro lo listed a _ hm _ hk h; cases lo with | nil => exact hk a h | cons _ _ => simp at hm
  | cons i l ih =>
    intro lo listed a hmem hm hB hk h
    cases lo with
    | nil => simp at hm
    | cons o lo =>
      simp only [List.map_cons, List.cons.injEq] at hm
      obtain ⟨ho, hm⟩ := hm
      simp only [hoistB, Bool.and_eq_true, ho] at hB
      obtain ⟨⟨⟨hr, hf⟩, hh⟩, hB⟩ := hB
      have ih' := fun a' h' => ih lo (listed.setIfInBounds i true) a' (fun j hj => hmem j (List.mem_cons_of_mem _ hj)) hm hB hk h'
      rw [List.length_cons, show fuel + (l.length + 1) = (fuel + l.length) + 1 by omega]
      unfold wpQuiet at h
      split at h
      · rename_i hw
        obtain ⟨v, hq, hn⟩ := h
        exact wpM_first1 ho (hmem i (by simp)) (Region.noSelect_spec hsel) (fun c a w => hQ c a w _ _) _ _ _ _ (Region.free_spec ho hf) (by simpa using hr) (.inl ⟨hw, fun w => quiet_run hh (hq w trivial)⟩) (ih' _ hn)
      · rename_i hw
        exact wpM_first1 ho (hmem i (by simp)) (Region.noSelect_spec hsel) (fun c a w => hQ c a w _ _) _ _ _ _ (Region.free_spec ho hf) (by simpa using hr) (.inr ⟨by simpa using hw, rfl⟩) (ih' _ h)

theorem hoist2 {h1 h2 : List Nat} (hsel : Region.noSelect ops = true) (hQ : ∀ c a w d v, Q (.panic c) (a.put d v) w → Q (.panic c) a w) (hC : ∀ w w', C w → Below w.heap.size w w' → C w')
    (h12 : ∀ i ∈ h2, i ∉ h1) (htail : ∀ j oj, ops[j]? = some oj → j ∉ h1 → j ∉ h2 → newOp oj.op = true ∨ ∀ i ∈ h2, anc md ops ops.size j i = true) {Qa : Act → Prop} {w : World} (hw : C w) {fuel : Nat} :
    ∀ (l : List Nat) (lo : List Oper) (listed : Array Bool) (a : Act), (∀ i ∈ l, i ∈ h2) → l.map (fun i => ops[i]?) = lo.map some → hoistB md ops l listed = true → Closed md ops listed →
      (∀ a', Qa a' → wpM P md ops Q C h1 h2 fuel (marked listed l) a' w) → wpQuiet P ops C Qa lo a → wpM P md ops Q C h1 h2 (fuel + l.length) listed a w := by
  intro l
  induction l with
  | nil => intro lo listed a _ hm _ _ hk h; cases lo with | nil => exact hk a h | cons _ _ => simp at hm
  | cons i l ih =>
    intro lo listed a hmem hm hB hc hk h
    cases lo with
    | nil => simp at hm
    | cons o lo =>
      simp only [List.map_cons, List.cons.injEq] at hm
      obtain ⟨ho, hm⟩ := hm
      simp only [hoistB, Bool.and_eq_true, ho] at hB
      obtain ⟨⟨⟨hr, hf⟩, hh⟩, hB⟩ := hB
      have hr' : i ∈ Region.ready md ops listed := by simpa using hr
      have ih' := fun a' h' => ih lo (listed.setIfInBounds i true) a' (fun j hj => hmem j (List.mem_cons_of_mem _ hj)) hm hB (hc.set hr') hk h'
      have hi2 := hmem i (by simp)
      have ht : ∀ j oj, ops[j]? = some oj → j ∉ h1 → j ∉ h2 → newOp oj.op = true ∨ anc md ops ops.size j i = true := fun j oj hj a b => (htail j oj hj a b).imp id (fun h => h i hi2)
      rw [List.length_cons, show fuel + (l.length + 1) = (fuel + l.length) + 1 by omega]
      unfold wpQuiet at h
      split at h
      · rename_i hwant
        obtain ⟨v, hq, hn⟩ := h
        exact wpM_first2 ho (h12 i hi2) hi2 (Region.noSelect_spec hsel) (fun c a w => hQ c a w _ _) hC ht _ _ _ _ (Region.free_spec ho hf) hc hr' (.inl ⟨hwant, fun w hw => quiet_run hh (hq w hw)⟩) hw (ih' _ hn)
      · rename_i hwant
        exact wpM_first2 ho (h12 i hi2) hi2 (Region.noSelect_spec hsel) (fun c a w => hQ c a w _ _) hC ht _ _ _ _ (Region.free_spec ho hf) hc hr' (.inr ⟨by simpa using hwant, rfl⟩) hw (ih' _ h)

theorem wpM_seq {h1 h2 : List Nat} : ∀ (l : List Nat) (lo : List Oper) (listed : Array Bool) (a : Act) (w : World), (∀ i ∈ l, i ∉ h1 ∧ i ∉ h2) → l.map (fun i => ops[i]?) = lo.map some → seqL md ops l listed = true →
    wpList P ops Q lo a w → wpM P md ops Q C h1 h2 l.length listed a w := by
  intro l
  induction l with
  | nil => intro lo listed a w _ hm hB h; cases lo with | nil => exact ⟨by simpa [seqL] using hB, h⟩ | cons _ _ => simp at hm
  | cons i l ih =>
    intro lo listed a w hmem hm hB h
    cases lo with
    | nil => simp at hm
    | cons o lo =>
      simp only [List.map_cons, List.cons.injEq] at hm
      obtain ⟨ho, hm⟩ := hm
      simp only [seqL, Bool.and_eq_true, decide_eq_true_eq] at hB
      refine ⟨fun h1 => (by rw [hB.1] at h1; cases h1), fun j hj => ?_⟩
      rw [hB.1] at hj
      have hji : j = i := by simpa using hj
      subst hji
      have hn := hmem j (by simp)
      rw [if_neg hn.1, if_neg hn.2]
      have hw : wpOp P ops Q j (wpList P ops Q lo) a w := by unfold wpOp; simp only [ho]; exact h
      exact wpOp_mono (fun a' w' h' => ih lo _ a' w' (fun k hk => hmem k (List.mem_cons_of_mem _ hk)) hm hB.2 h') hw

theorem pick_map {l : List Oper} : ∀ (h : List Nat), (∀ i ∈ h, i < l.length) → h.map (fun i => l.toArray[i]?) = (pick l h).map some := by
  intro h
  induction h with
  | nil => intro _; rfl
  | cons i h ih =>
    intro hlt
    have hi := hlt i (by simp)
    have e : l[i]? = some l[i] := List.getElem?_eq_getElem hi
    have ih' := ih fun j hj => hlt j (List.mem_cons_of_mem _ hj)
    have e2 : pick l (i :: h) = l[i] :: pick l h := by simp [pick, e]
    rw [e2, List.map_cons, List.map_cons, ih', ← e]
    simp

theorem hoistB_lt : ∀ (l : List Nat) (listed : Array Bool), hoistB md ops l listed = true → ∀ i ∈ l, i < ops.size := by
  intro l
  induction l with
  | nil => intro _ _ i hi; cases hi
  | cons j l ih =>
    intro listed hB i hi
    simp only [hoistB, Bool.and_eq_true] at hB
    rcases List.mem_cons.1 hi with rfl | hi
    · cases ho : ops[i]? with
      | none => simp [ho] at hB
      | some o => exact (Array.getElem?_eq_some_iff.1 ho).1
    · exact ih _ hB.2 i hi

theorem seqL_lt : ∀ (l : List Nat) (listed : Array Bool), seqL md ops l listed = true → ∀ i ∈ l, i < ops.size := by
  intro l
  induction l with
  | nil => intro _ _ i hi; cases hi
  | cons j l ih =>
    intro listed hB i hi
    simp only [seqL, Bool.and_eq_true, decide_eq_true_eq] at hB
    rcases List.mem_cons.1 hi with rfl | hi
    · have : i ∈ Region.ready md ops listed := by rw [hB.1]; simp
      obtain ⟨_, o, ho, _⟩ := mem_ready.1 this
      exact (Array.getElem?_eq_some_iff.1 ho).1
    · exact ih _ hB.2 i hi

/-- Behind a region: what follows, as a variable; no panic. -/
def Only (K : Act → World → Prop) : Exit → Act → World → Prop
  | .normal, a, w => K a w
  | _, _, _ => False

theorem any_mix {a : Act} {w : World} {l : List Oper} (h1 h2 ts : List Nat) (C : World → Prop) (hB : mixB .any l.toArray h1 h2 ts = true)
    (hC : ∀ w w', C w → Below w.heap.size w w' → C w') (hw : C { w with drawn := w.drawn + 1 })
    (h : ∀ K : Act → World → Prop, (∀ a w, Q .normal a w → K a w) → wpQuiet P l.toArray (fun _ => True) (fun a1 => wpQuiet P l.toArray C (fun a2 => wpList P l.toArray (Only K) (pick l ts) a2 { w with drawn := w.drawn + 1 }) (pick l h2) a1) (pick l h1) a) :
    wpAny P .any l.toArray (Only fun a w => Q .normal a w) l.toArray.size (Array.replicate l.toArray.size false) a { w with drawn := w.drawn + 1 } := by
  have H := h (fun a w => Q .normal a w) fun _ _ h => h
  simp only [mixB, Bool.and_eq_true, decide_eq_true_eq] at hB
  obtain ⟨⟨⟨⟨⟨⟨hsel, h12⟩, hts⟩, htail⟩, hh⟩, hseq⟩, hlen⟩ := hB
  have h12' : ∀ i ∈ h2, i ∉ h1 := fun i hi => by simpa using List.all_eq_true.1 h12 i hi
  have hts' : ∀ i ∈ ts, i ∉ h1 ∧ i ∉ h2 := fun i hi => by simpa using List.all_eq_true.1 hts i hi
  have htail' : ∀ j oj, l.toArray[j]? = some oj → j ∉ h1 → j ∉ h2 → newOp oj.op = true ∨ ∀ i ∈ h2, anc .any l.toArray l.toArray.size j i = true := fun j oj hj n1 n2 => by
    have h3 := List.all_eq_true.1 htail j (List.mem_range.2 (Array.getElem?_eq_some_iff.1 hj).1)
    simp only [hj, Bool.or_eq_true, List.contains_iff_mem, n1, n2, false_or] at h3
    rcases h3 with h3 | h3
    · exact .inl h3
    · exact .inr fun i hi => List.all_eq_true.1 h3 i hi
  rw [hoistB_append, Bool.and_eq_true] at hh
  rw [marked_append] at hseq
  have lt1 := hoistB_lt _ _ hh.1
  have lt2 := hoistB_lt _ _ hh.2
  have lt3 := seqL_lt _ _ hseq
  have hQ' : ∀ c a w d v, Only (fun a w => Q .normal a w) (.panic c) (a.put d v) w → Only (fun a w => Q .normal a w) (.panic c) a w := fun _ _ _ _ _ h => h
  have cl0 : Closed .any l.toArray (Array.replicate l.toArray.size false) := fun j oj _ hl => by rw [getD_replicate_false] at hl; cases hl
  have cl1 := closed_marked _ _ hh.1 cl0
  refine wpAny_of_M (C := C) (h1 := h1) (h2 := h2) _ _ _ _ ?_
  have key : wpM P .any l.toArray (Only fun a w => Q .normal a w) C h1 h2 (ts.length + h2.length + h1.length) (Array.replicate l.toArray.size false) a { w with drawn := w.drawn + 1 } := ?_
  · have e : l.toArray.size = ts.length + h2.length + h1.length := by omega
    have e2 : ∀ n, n = ts.length + h2.length + h1.length → wpM P .any l.toArray (Only fun a w => Q .normal a w) C h1 h2 n (Array.replicate l.toArray.size false) a { w with drawn := w.drawn + 1 } := fun n hn => hn ▸ key
    exact e2 _ e
  refine hoist1 hsel hQ' h1 (pick l h1) _ a (fun i hi => hi) (pick_map h1 (by simpa using lt1)) hh.1 (fun a1 H1 => ?_) H
  refine hoist2 hsel hQ' hC h12' htail' hw h2 (pick l h2) _ a1 (fun i hi => hi) (pick_map h2 (by simpa using lt2)) hh.2 cl1 (fun a2 H2 => ?_) H1
  exact wpM_seq ts (pick l ts) _ a2 _ hts' (pick_map ts (by simpa using lt3)) hseq H2

theorem wp_region_mix {id : Nat} {a : Act} {w : World} {l : List Oper} (h1 h2 ts : List Nat) (C : World → Prop) (hm : P.follows .mixedOrders = true) (hB : mixB .any l.toArray h1 h2 ts = true)
    (hC : ∀ w w', C w → Below w.heap.size w w' → C w') (hw : C { w with drawn := w.drawn + 1 })
    (h : ∀ K : Act → World → Prop, (∀ a w, Q .normal a w → K a w) → wpQuiet P l.toArray (fun _ => True) (fun a1 => wpQuiet P l.toArray C (fun a2 => wpList P l.toArray (Only K) (pick l ts) a2 { w with drawn := w.drawn + 1 }) (pick l h2) a1) (pick l h1) a) :
    (Code.region id l.toArray true).wp P Q a w := by
  refine Code.wp_mono (Q := Only fun a w => Q .normal a w) (fun e a w h => by cases e <;> first | exact h | exact h.elim) ?_
  exact wp_region_any hm (any_mix h1 h2 ts C hB hC hw h)

/-- The worlds that are w but for new blocks and draws. -/
def Lat (w : World) : Type := { w' : World // Below w.heap.size w w' }
def Lat.w {w : World} (n : Lat w) : World := n.val
theorem Lat.below {w : World} (n : Lat w) : Below w.heap.size w n.w := n.property
def Lat.here (w : World) : Lat w := ⟨w, Below.refl _ _⟩
instance (w : World) : Nonempty (Lat w) := ⟨Lat.here w⟩
def Lat.drew (w : World) : Lat w := ⟨w.drew, (Below.refl _ _).drew⟩

theorem lat_cell {w : World} {p : Addr} {v : Value} (h : w.cell? p = some v) (n : Lat w) : n.w.cell? p = some v :=
  (n.below.cell (World.block_lt_of_cell? w p h)).trans h
theorem lat_block {w : World} {b : Nat} {o : Obj} (h : w.heap[b]? = some o) (n : Lat w) : n.w.heap[b]? = some o :=
  (n.below.block b (Array.getElem?_eq_some_iff.1 h).1).trans h
theorem lat_call {w : World} {f : FuncId} {args : Array Value} {n : Lat w} {v : Value} (h : Calls P f args n.w fun e w' => e = .returned v ∧ Below n.w.heap.size n.w w') :
    Calls P f args n.w fun e w' => e = .returned v ∧ ∃ m : Lat w, w' = m.w :=
  h.mono fun _ w' ⟨he, hb⟩ => ⟨he, ⟨w', n.below.trans (hb.mono n.below.size)⟩, rfl⟩
theorem lat_call_same {w : World} {f : FuncId} {args : Array Value} {n : Lat w} {v : Value} (h : Calls P f args n.w fun e w' => e = .returned v ∧ n.w = w') :
    Calls P f args n.w fun e w' => e = .returned v ∧ ∃ m : Lat w, w' = m.w :=
  h.mono fun _ _ ⟨he, hb⟩ => ⟨he, n, hb.symm⟩

/-- Some operations first (those of h1 look at no memory), then a forced chain. -/
theorem wp_region_mixL {id : Nat} {a : Act} {w : World} {l : List Oper} (h1 h2 ts : List Nat) (hm : P.follows .mixedOrders = true) (hB : mixB .any l.toArray h1 h2 ts = true)
    (h : ∀ K : Act → World → Prop, (∀ a w, Q .normal a w → K a w) → wpQuiet P l.toArray (fun _ => True) (fun a1 => wpQuiet P l.toArray (fun w' => ∃ n : Lat w, w' = n.w) (fun a2 => wpList P l.toArray (Only K) (pick l ts) a2 w.drew) (pick l h2) a1) (pick l h1) a) :
    (Code.region id l.toArray true).wp P Q a w :=
  wp_region_mix h1 h2 ts (fun w' => ∃ n : Lat w, w' = n.w) hm hB (fun _ w2 ⟨n, e⟩ hb => by subst e; exact ⟨⟨w2, n.below.trans (hb.mono n.below.size)⟩, rfl⟩) ⟨Lat.drew w, rfl⟩ h

/-- Every operation reads, or calls what lays new memory alone. -/
theorem wp_region_quietL {id : Nat} {a : Act} {w : World} {l : List Oper} (hm : P.follows .mixedOrders = true) (hB : Region.lexB .any l.toArray = true)
    (h : wpQuiet P l.toArray (fun w' => ∃ n : Lat w, w' = n.w) (fun a' => ∀ n : Lat w, Q .normal a' n.w) l a) : (Code.region id l.toArray true).wp P Q a w :=
  wp_region_quiet (C := fun w' => ∃ n : Lat w, w' = n.w) hm hB ⟨Lat.drew w, rfl⟩ (by
    have e : (fun a' => ∀ w', (∃ n : Lat w, w' = n.w) → Q .normal a' w') = fun a' => ∀ n : Lat w, Q .normal a' n.w := by
      funext a'
      exact propext ⟨fun h n => h _ ⟨n, rfl⟩, fun h w' ⟨n, e⟩ => e ▸ h n⟩
    rw [e]
    exact h)
end
end Go.Proofs.Ytnakjencodicmaa.Mix

-- ---- Bits
/- Rows of bits and their bytes: plain facts on lists and numbers. No program in sight. -/
namespace Go.Proofs.Ytnakjencodicmaa.Bits
set_option maxRecDepth 100000
set_option linter.unusedSimpArgs false
set_option linter.unusedVariables false
open Go

def ofBits : List Bool → Nat
  | [] => 0
  | b :: t => b.toNat + 2 * ofBits t

theorem testBit_ofBits (l : List Bool) : ∀ i, (ofBits l).testBit i = l.getD i false := by
  induction l with
  | nil => intro i; simp [ofBits]
  | cons b t ih =>
    intro i
    cases i with
    | zero => simp only [ofBits, Nat.testBit_zero]; cases b <;> simp <;> omega
    | succ i =>
      have e : (b.toNat + 2 * ofBits t) / 2 = ofBits t := by cases b <;> simp <;> omega
      simp only [ofBits, Nat.testBit_succ, e, ih, List.getD_cons_succ]

theorem ofBits_lt (l : List Bool) : ofBits l < 2 ^ l.length := by
  induction l with
  | nil => simp [ofBits]
  | cons b t ih =>
    simp only [ofBits, List.length_cons, Nat.pow_succ]
    cases b <;> simp <;> omega

/-- The lowest n bits of a number, the lowest first. -/
def bitsOf (v n : Nat) : List Bool := (List.range n).map v.testBit

@[simp] theorem length_bitsOf (v n : Nat) : (bitsOf v n).length = n := by simp [bitsOf]
theorem bitsOf_succ (v n : Nat) : bitsOf v (n + 1) = bitsOf v n ++ [v.testBit n] := by simp [bitsOf, List.range_succ]
theorem getD_bitsOf (v n i : Nat) : (bitsOf v n).getD i false = (decide (i < n) && v.testBit i) := by
  rw [List.getD_eq_getElem?_getD]
  by_cases h : i < n
  · simp [bitsOf, List.getElem?_map, List.getElem?_range, h]
  · simp [bitsOf, h]
theorem ofBits_bitsOf (v n : Nat) : ofBits (bitsOf v n) = v % 2 ^ n := by
  apply Nat.eq_of_testBit_eq
  intro i
  rw [testBit_ofBits, getD_bitsOf, Nat.testBit_mod_two_pow]

/-- Byte k of a row of bits. -/
def byteAt (l : List Bool) (k : Nat) : Nat := ofBits ((l.drop (8 * k)).take 8)

theorem testBit_byteAt (l : List Bool) (k j : Nat) : (byteAt l k).testBit j = (decide (j < 8) && l.getD (8 * k + j) false) := by
  rw [byteAt, testBit_ofBits, List.getD_eq_getElem?_getD, List.getElem?_take]
  by_cases h : j < 8
  · simp [h, List.getElem?_drop]
  · simp [h]

theorem byteAt_lt (l : List Bool) (k : Nat) : byteAt l k < 256 := by
  have h := ofBits_lt ((l.drop (8 * k)).take 8)
  have h2 : ((l.drop (8 * k)).take 8).length ≤ 8 := by simp; omega
  have h3 : 2 ^ ((l.drop (8 * k)).take 8).length ≤ 2 ^ 8 := Nat.pow_le_pow_right (by decide) h2
  have h4 : byteAt l k = ofBits ((l.drop (8 * k)).take 8) := rfl
  omega

theorem getD_snoc (l : List Bool) (b : Bool) (i : Nat) : (l ++ [b]).getD i false = if i = l.length then b else l.getD i false := by
  simp only [List.getD_eq_getElem?_getD]
  rcases Nat.lt_trichotomy i l.length with h | h | h
  · rw [List.getElem?_append_left h, if_neg (by omega)]
  · subst h; simp
  · rw [if_neg (by omega), List.getElem?_append_right (by omega), List.getElem?_eq_none (by simp; omega), List.getElem?_eq_none (by omega)]

theorem testBit_bool (b : Bool) (n j : Nat) : (b.toNat * 2 ^ n).testBit j = (b && decide (j = n)) := by
  cases b
  · simp
  · simp [Nat.testBit_two_pow, eq_comm]

theorem byteAt_snoc (l : List Bool) (b : Bool) (k : Nat) : byteAt (l ++ [b]) k = if k = l.length / 8 then byteAt l k ||| (b.toNat * 2 ^ (l.length % 8)) else byteAt l k := by
  apply Nat.eq_of_testBit_eq
  intro j
  rw [testBit_byteAt, getD_snoc]
  by_cases h : k = l.length / 8
  · rw [if_pos h, Nat.testBit_or, testBit_byteAt, testBit_bool]
    by_cases hj : j < 8
    · by_cases hj2 : 8 * k + j = l.length
      · have : j = l.length % 8 := by omega
        have hm : l.length % 8 < 8 := by omega
        have hz : l.getD (8 * k + j) false = false := by rw [List.getD_eq_getElem?_getD, List.getElem?_eq_none (by omega)]; rfl
        rw [if_pos hj2, hz]; simp [hj, this, hm]
      · have : ¬ j = l.length % 8 := by omega
        rw [if_neg hj2]; simp [hj, this]
    · have : ¬ j = l.length % 8 := by omega
      simp [hj, this]
  · rw [if_neg h, testBit_byteAt]
    by_cases hj : j < 8
    · rw [if_neg (by omega)]
    · simp [hj]

def packN (l : List Bool) (n : Nat) : List Nat := (List.range n).map (byteAt l)
/-- The bytes of a row of bits. -/
def pack (l : List Bool) : List Nat := packN l ((l.length + 7) / 8)

@[simp] theorem length_packN (l : List Bool) (n : Nat) : (packN l n).length = n := by simp [packN]
@[simp] theorem length_pack (l : List Bool) : (pack l).length = (l.length + 7) / 8 := by simp [pack]
theorem getElem?_packN (l : List Bool) (n k : Nat) (h : k < n) : (packN l n)[k]? = some (byteAt l k) := by simp [packN, List.getElem?_range, h]
theorem packN_lt (l : List Bool) (n : Nat) : ∀ x ∈ packN l n, x < 256 := by
  intro x hx
  obtain ⟨k, _, rfl⟩ := List.mem_map.1 hx
  exact byteAt_lt l k

theorem packN_snoc (l : List Bool) (b : Bool) (n : Nat) : packN (l ++ [b]) n = (packN l n).set (l.length / 8) (byteAt l (l.length / 8) ||| (b.toNat * 2 ^ (l.length % 8))) := by
  apply List.ext_getElem?
  intro k
  rw [List.getElem?_set]
  by_cases hk : k < n
  · rw [getElem?_packN _ _ _ hk, byteAt_snoc, getElem?_packN _ _ _ hk]
    by_cases h : k = l.length / 8
    · subst h; simp [hk]
    · rw [if_neg h, if_neg (fun e => h e.symm)]
  · rw [List.getElem?_eq_none (by simp; omega), List.getElem?_eq_none (by simp; omega)]
    simp; omega

theorem byteAt_beyond (l : List Bool) (k : Nat) (h : l.length ≤ 8 * k) : byteAt l k = 0 := by
  rw [byteAt, List.drop_eq_nil_of_le h]; rfl

theorem packN_zero (n : Nat) : packN [] n = List.replicate n 0 := by
  apply List.ext_getElem?
  intro k
  by_cases hk : k < n
  · rw [getElem?_packN _ _ _ hk, byteAt_beyond [] k (by simp)]; simp [hk]
  · rw [List.getElem?_eq_none (by simp; omega), List.getElem?_eq_none (by simp; omega)]

/-- The bytes with one more, where a byte is full. -/
theorem packN_full (l : List Bool) (h : l.length % 8 = 0) : packN l (l.length / 8 + 1) = pack l ++ [0] := by
  have e : (l.length + 7) / 8 = l.length / 8 := by omega
  simp only [pack, packN, e, List.range_succ, List.map_append, List.map_cons, List.map_nil]
  rw [byteAt_beyond l _ (by omega)]
theorem packN_part (l : List Bool) (h : ¬ l.length % 8 = 0) : packN l (l.length / 8 + 1) = pack l := by
  have e : (l.length + 7) / 8 = l.length / 8 + 1 := by omega
  simp only [pack, e]
theorem pack_snoc (l : List Bool) (b : Bool) : pack (l ++ [b]) = packN (l ++ [b]) (l.length / 8 + 1) := by
  have e : ((l ++ [b]).length + 7) / 8 = l.length / 8 + 1 := by simp; omega
  simp only [pack, e]

/-- A bit as Go reckons it. -/
def bitOf (x : Int) : Bool := decide (x % 2 = 1)

theorem and_one_u64 (x : Int) (h0 : 0 ≤ x) (h1 : x < 18446744073709551616) : bits .and .u64 x 1 = ((bitOf x).toNat : Int) := by
  rw [u64_and x 1 h0 h1 (by decide) (by decide)]
  have : (1 : Int).toNat = 1 := rfl
  rw [this, nat_mask1]
  unfold bitOf
  by_cases h : x % 2 = 1 <;> simp [h] <;> omega

theorem bit_byte (x : Int) (h0 : 0 ≤ x) (h1 : x < 18446744073709551616) (k : Nat) (hk : k < 8) : bits .and .u64 x 1 % 256 * 2 ^ k % 256 = (((bitOf x).toNat * 2 ^ k : Nat) : Int) := by
  rw [and_one_u64 x h0 h1]
  have hp : (2 : Int) ^ k ≤ 128 ∧ 0 < (2 : Int) ^ k := by
    rcases (show k = 0 ∨ k = 1 ∨ k = 2 ∨ k = 3 ∨ k = 4 ∨ k = 5 ∨ k = 6 ∨ k = 7 by omega) with h | h | h | h | h | h | h | h <;> subst h <;> decide
  cases bitOf x <;> simp <;> omega

theorem or_byte (x : Int) (h0 : 0 ≤ x) (h1 : x < 18446744073709551616) (b k : Nat) (hb : b < 256) (hk : k < 8) :
    bits .or .u8 (b : Int) (bits .and .u64 x 1 % 256 * 2 ^ k % 256) = ((b ||| (bitOf x).toNat * 2 ^ k : Nat) : Int) := by
  rw [bit_byte x h0 h1 k hk, u8_or_nat b _ hb]
  have hp : 2 ^ k ≤ 128 := by
    rcases (show k = 0 ∨ k = 1 ∨ k = 2 ∨ k = 3 ∨ k = 4 ∨ k = 5 ∨ k = 6 ∨ k = 7 by omega) with h | h | h | h | h | h | h | h <;> subst h <;> decide
  cases bitOf x <;> simp <;> omega

theorem bitOf_shift (v i : Nat) : bitOf ((v : Int) / 2 ^ i) = v.testBit i := by
  unfold bitOf
  rw [Nat.testBit_eq_decide_div_mod_eq]
  congr 1
  have : ((v : Int) / 2 ^ i) = ((v / 2 ^ i : Nat) : Int) := by simp
  rw [this]
  apply propext
  omega

/-! ### The bits of a text -/
def byteS (s : ByteArray) (i : Nat) : Nat := (s.data.toList.getD i 0).toNat
theorem byteS_lt (s : ByteArray) (i : Nat) : byteS s i < 256 := UInt8.toNat_lt _
theorem byteS_eq (s : ByteArray) (i : Nat) (h : i < s.size) : (s[i]'h).toNat = byteS s i := by
  unfold byteS
  rw [List.getD_eq_getElem?_getD]
  have : s.data.toList[i]? = some (s[i]'h) := by
    rw [Array.getElem?_toList, Array.getElem?_eq_getElem (by exact h)]; rfl
  rw [this]; rfl
def bitS (s : ByteArray) (k : Nat) : Bool := (byteS s (k / 8)).testBit (k % 8)
def bitsS (s : ByteArray) : List Bool := (List.range (8 * s.size)).map (bitS s)
@[simp] theorem length_bitsS (s : ByteArray) : (bitsS s).length = 8 * s.size := by simp [bitsS]

theorem getD_bitsS (s : ByteArray) (k : Nat) : (bitsS s).getD k false = (decide (k < 8 * s.size) && bitS s k) := by
  rw [List.getD_eq_getElem?_getD]
  by_cases h : k < 8 * s.size
  · simp [bitsS, h]
  · simp [bitsS, h]

theorem and_bit (b j : Nat) (hb : b < 256) : bits .and .u64 (IntKind.u64.wrap ((b : Int) / 2 ^ j)) 1 = (((b.testBit j).toNat : Nat) : Int) := by
  have h1 : (b : Int) / 2 ^ j ≤ b := Int.ediv_le_self _ (by omega)
  have h0 : 0 ≤ (b : Int) / 2 ^ j := Int.ediv_nonneg (by omega) (Int.pow_nonneg (by decide))
  have e : IntKind.u64.wrap ((b : Int) / 2 ^ j) = (b : Int) / 2 ^ j := by rw [IntKind.wrap_u64]; omega
  rw [e, Bits.and_one_u64 _ h0 (by omega), bitOf_shift]

theorem ofBits_snoc (l : List Bool) (b : Bool) : ofBits (l ++ [b]) = ofBits l ||| (b.toNat * 2 ^ l.length) := by
  apply Nat.eq_of_testBit_eq
  intro i
  rw [Nat.testBit_or, testBit_ofBits, testBit_ofBits, testBit_bool, getD_snoc]
  by_cases h : i = l.length
  · subst h; simp
  · simp [h]

theorem or_shift (l : List Bool) (b : Bool) (h : l.length < 64) : bits .or .u64 (ofBits l : Int) ((b.toNat * 2 ^ l.length : Nat) : Int) = (ofBits (l ++ [b]) : Int) := by
  have h1 := ofBits_lt l
  have h2 : 2 ^ l.length ≤ 2 ^ 63 := Nat.pow_le_pow_right (by decide) (by omega)
  have h3 : (2 : Nat) ^ 63 = 9223372036854775808 := by decide
  rw [u64_or_nat _ _ (by omega) (by cases b <;> simp <;> omega), ofBits_snoc]

theorem take_succ_getD (l : List Bool) (n : Nat) (h : n < l.length) : l.take (n + 1) = l.take n ++ [l.getD n false] := by
  rw [List.take_succ_eq_append_getElem h]
  congr 1
  rw [List.getD_eq_getElem?_getD, List.getElem?_eq_getElem h]; rfl

theorem ofBits_zero (l : List Bool) : ofBits l = 0 ↔ l.all (fun b => !b) = true := by
  induction l with
  | nil => simp [ofBits]
  | cons b t ih =>
    simp only [ofBits, List.all_cons, Bool.and_eq_true]
    rw [← ih]
    cases b <;> simp <;> omega

theorem or_step (l : List Bool) (b : Bool) (i : Nat) (hi : l.length = i) (h : i < 64) : bits .or .u64 (ofBits l : Int) (IntKind.u64.wrap ((b.toNat : Int) * 2 ^ i)) = (ofBits (l ++ [b]) : Int) := by
  subst hi
  have h2 : 2 ^ l.length ≤ 2 ^ 63 := Nat.pow_le_pow_right (by decide) (by omega)
  have h3 : (2 : Nat) ^ 63 = 9223372036854775808 := by decide
  have e : IntKind.u64.wrap ((b.toNat : Int) * 2 ^ l.length) = ((b.toNat * 2 ^ l.length : Nat) : Int) := by
    rw [IntKind.wrap_u64]
    have : ((b.toNat : Int) * 2 ^ l.length) = ((b.toNat * 2 ^ l.length : Nat) : Int) := by simp
    rw [this]
    have hlt : b.toNat * 2 ^ l.length < 18446744073709551616 := by
      generalize 2 ^ l.length = P at h2 h3
      cases b
      · simp
      · simp; omega
    generalize b.toNat * 2 ^ l.length = M at hlt
    omega
  rw [e, or_shift l b h]

theorem drop_step (s : ByteArray) (k i : Nat) (h : k + i < 8 * s.size) : ((bitsS s).drop k).take (i + 1) = ((bitsS s).drop k).take i ++ [bitS s (k + i)] := by
  rw [take_succ_getD _ _ (by simp; omega)]
  congr 2
  rw [List.getD_eq_getElem?_getD, List.getElem?_drop, ← List.getD_eq_getElem?_getD, getD_bitsS]
  simp [h]

theorem run_ix {P : Program} {T : TypeId} (h : P.underlying T = some .string) (s : ByteArray) (i : Int) (j : Nat) (hij : i = (j : Int)) (hj : j < s.size) (w : World) :
    (Instr.index T (.string s) (.int .i64 i)).run P w = .ok (.int .u8 (byteS s j : Int)) w := by
  subst hij
  rw [run_index_string w T s .i64 (j : Int) h, dif_pos ⟨by omega, by omega⟩, ← byteS_eq s j hj]
  simp
end Go.Proofs.Ytnakjencodicmaa.Bits

-- ---- Bw
/- bits.Writer: what its methods do to its memory. -/
namespace Go.Proofs.Ytnakjencodicmaa
set_option maxRecDepth 100000
set_option linter.unusedSimpArgs false
set_option linter.unusedVariables false
open Go.RowKit Mix _root_.Go.Proofs.Ytnakjencodicmaa.Own Bits

theorem infoU8 : (Try.prog.info? 5).map (fun i => (i.zero, i.size, i.bytes)) = some (some (.int .u8 0), 1, 1) := by kernel_rfl

def u8s (l : List Nat) : List Value := l.map fun (b : Nat) => Value.int .u8 (b : Int)
@[simp] theorem length_u8s (l : List Nat) : (u8s l).length = l.length := by simp [u8s]
theorem u8s_append (l m : List Nat) : u8s (l ++ m) = u8s l ++ u8s m := by simp [u8s]
theorem u8s_set (l : List Nat) (i x : Nat) : u8s (l.set i x) = (u8s l).set i (.int .u8 (x : Int)) := by simp [u8s, List.map_set]

/-- A Writer at block p with its bytes at v: the row of bits l. -/
structure IsW (w : World) (p : Nat) (v : Value) (l : List Bool) : Prop where
  blk : Blk w p #[v, .int .i64 (l.length : Int)] 111
  row : Owns w 5 v (u8s (pack l))

theorem IsW.keep {w w' : World} {S : Nat → Prop} {p : Nat} {v : Value} {l : List Bool} (h : IsW w p v l) (hc : Chg S w w') (hp : ¬ S p) (hv : ∀ g, v.ownBlock = some g → ¬ S g) : IsW w' p v l :=
  ⟨hc.keep h.blk hp, h.row.chg hc hv⟩

/-- The state between the two halves of 'bit'. -/
structure Half (w w' : World) (p : Nat) (v v1 : Value) (l : List Bool) : Prop where
  blk : Blk w' p #[v1, .int .i64 (l.length : Int)] 111
  row : Owns w' 5 v1 (u8s (packN l (l.length / 8 + 1)))
  chg : Chg (fun k => k = p ∨ some k = v.ownBlock) w w'
  own : ∀ g, v1.ownBlock = some g → some g = v.ownBlock ∨ w.heap.size ≤ g

set_option maxHeartbeats 2000000 in
theorem bit_calls (p : Nat) (v : Value) (l : List Bool) (x : Int) (w : World) (hW : IsW w p v l) (hn : l.length < 1099511627776) (hx0 : 0 ≤ x) (hx1 : x < 18446744073709551616) :
    Calls Try.prog 49 #[.pointer (some ⟨p, 0, none⟩), .int .u64 x] w fun e w' => e = .returned (.tuple #[]) ∧
      ∃ v', IsW w' p v' (l ++ [bitOf x]) ∧ Chg (fun k => k = p ∨ some k = v.ownBlock) w w' ∧ ∀ g, v'.ownBlock = some g → some g = v.ownBlock ∨ w.heap.size ≤ g := by
  obtain ⟨i0, hi, hz0, hz1, hz2⟩ := info_parts infoU8
  obtain ⟨n, hnl⟩ : ∃ n, n = l.length := ⟨_, rfl⟩
  have hc0 : w.cell? ⟨p, 0, none⟩ = some v := hW.blk.cell rfl
  have hc1 : w.cell? ⟨p, 1, none⟩ = some (.int .i64 (n : Int)) := by rw [hnl]; exact hW.blk.cell rfl
  have hf0 : w.frozen? ⟨p, 0, none⟩ = false := hW.blk.free 0
  have HW := kept hW
  have HNL := kept hnl
  rw [← hnl] at hn
  clear hW hnl
  go_enter Try.func49, Try.ntmps49
  go_upto_if 9 with fail
  go_cut [] from 9 (fun w' => ∃ v1, Half w w' p v v1 l)
  case first =>
    by_cases h8 : n % 8 = 0
    · have h8b : (((n : Int) % 8) == 0) = true := by rw [beq_iff_eq]; omega
      have H8 := kept h8
      clear h8
      go_wp2_with (first | (at_builtin; go_loud (refine wpList_app1 rfl _ _ 48 rfl 5 i0 (.int .u8 0) 1 Try.underlying48 hi hz0 hz1 hz2 rfl v _ _ rfl HW.out.row rfl rfl ?c3 ?c4 ?_)) | fail)
      case c3 => have := HNL.out; simp [maxLen]; omega
      case c4 => have := HNL.out; simp; omega
      intro v1 w1 O1 hch0 F
      have hvp : v.ownBlock ≠ some p := HW.out.row.ne HW.out.blk (by decide)
      have e8 : l.length % 8 = 0 := by rw [← HNL.out]; exact H8.out
      have O1 : Owns w1 5 v1 (u8s (packN l (l.length / 8 + 1))) := by
        rw [packN_full l e8, u8s_append]; exact O1
      obtain ⟨g1, cap1, rfl, _, hg1l⟩ := O1.row (by intro e; have := congrArg List.length e; simp at this)
      simp only [length_u8s, length_packN] at O1 F
      have hB1 : Blk w1 p #[v, .int .i64 (l.length : Int)] 111 := hch0.keep HW.out.blk (fun e => hvp e.symm)
      have d0 : w1.cell? ⟨p, 0, none⟩ = some v := hB1.cell rfl
      have f0 : w1.frozen? ⟨p, 0, none⟩ = false := hB1.free 0
      have hpg : p ≠ g1 := hB1.ne (O1.blk g1 rfl).choose_spec (by decide)
      have O1 := kept O1
      have HB1 := kept hB1
      have HC0 := kept hch0
      have HF := kept F
      clear hB1 hch0 F hvp
      go_wp2_with fail
      go_meet
      case rel => exact ⟨_, by
        refine ⟨HB1.out.set 0 _, O1.out.setOther (a := ⟨p, 0, none⟩) (fun e => hpg (by simpa [Value.ownBlock] using e.symm)) _, ?_, HF.out⟩
        exact (HC0.out.mono (fun k _ h => .inr h)).trans (Chg.setCell _ _ _) (fun k _ h => .inl h)⟩
    · have h8b : (((n : Int) % 8) == 0) = false := by rw [beq_eq_false_iff_ne]; omega
      have e8 : ¬ l.length % 8 = 0 := by rw [← HNL.out]; exact h8
      have HE := kept e8
      clear h8 e8
      go_wp2_with fail
      go_meet
      case rel => exact ⟨v, by
        refine ⟨HW.out.blk, ?_, Chg.refl _ _, fun g hg => .inl hg.symm⟩
        rw [packN_part l HE.out]; exact HW.out.row⟩
  case rest =>
    obtain ⟨v1, hH⟩ := hcut
    obtain ⟨g, cap, rfl, hcap, hgl⟩ := hH.row.row (by intro e; have := congrArg List.length e; simp at this)
    have hpg : p ≠ g := hH.blk.ne (hH.row.blk g rfl).choose_spec (by decide)
    have hk : n / 8 < l.length / 8 + 1 := by rw [HNL.out]; omega
    obtain ⟨b, hb⟩ : ∃ b, b = byteAt l (n / 8) := ⟨_, rfl⟩
    have hb8 : b < 256 := by rw [hb]; exact byteAt_lt _ _
    have hcb : wc.cell? ⟨g, n / 8, none⟩ = some (.int .u8 (b : Int)) := hH.row.cell (by simp [u8s, getElem?_packN _ _ _ hk, hb])
    have hfb : wc.frozen? ⟨g, n / 8, none⟩ = false := hH.row.free _
    have e0 : wc.cell? ⟨p, 0, none⟩ = some (.slice (some ⟨g, 0, none⟩) (u8s (packN l (l.length / 8 + 1))).length cap) := hH.blk.cell rfl
    have e1 : wc.cell? ⟨p, 1, none⟩ = some (.int .i64 (n : Int)) := by rw [HNL.out]; exact hH.blk.cell rfl
    have ef1 : wc.frozen? ⟨p, 1, none⟩ = false := hH.blk.free 1
    obtain ⟨len, hlen⟩ : ∃ len, len = (u8s (packN l (l.length / 8 + 1))).length := ⟨_, rfl⟩
    have hll : n / 8 < len := by rw [hlen]; simpa using hk
    rw [← hlen] at e0
    have lc0 := lat_cell e0
    have lc1 := lat_cell e1
    have lb := lat_cell hcb
    have HH := kept hH
    have HB := kept hb
    have HL := kept hlen
    clear hH hb hlen hc0 hc1 hf0 hk hcap
    go_wp2_with fail
    refine wp_region_mixL [] [0,1,2,3,4,5,6,7,8,9,10,11,12,13,14,15,16,17,18,19,20,21] [22] (by kernel_rfl) (by kernel_rfl) ?_
    intro K hK
    simp only [pick, List.filterMap_cons, List.filterMap_nil, List.getElem?_cons_zero, List.getElem?_cons_succ]
    refine wpQuiet_nil ?_
    repeat (show wpQuiet _ _ _ _ (_ :: _) _; go_big_quiet_step (fail))
    refine wpQuiet_nil ?_
    show wpList _ _ _ (_ :: _) _ _
    go_wp2_with fail
    refine hK _ _ ?_
    have e8 : n % 8 = l.length % 8 := by rw [HNL.out]
    have hbyte : bits BinOp.or IntKind.u8 (b : Int) (bits BinOp.and IntKind.u64 x 1 % 256 * 2 ^ (n % 8) % 256) = ((b ||| (bitOf x).toNat * 2 ^ (n % 8) : Nat) : Int) := or_byte x hx0 hx1 b (n % 8) hb8 (by omega)
    rw [hbyte]
    generalize hw2 : World.drew (World.setCell wc _ _) = w2
    have hB2 : Blk w2 p #[.slice (some ⟨g, 0, none⟩) (u8s (packN l (l.length / 8 + 1))).length cap, .int .i64 (l.length : Int)] 111 := by
      rw [← hw2]; exact HH.out.blk.setOther (a := ⟨g, n / 8, none⟩) hpg _
    have hO2 : Owns w2 5 (.slice (some ⟨g, 0, none⟩) (u8s (packN l (l.length / 8 + 1))).length cap) (u8s (pack (l ++ [bitOf x]))) := by
      rw [← hw2, pack_snoc, packN_snoc, u8s_set, ← HNL.out, ← HB.out, HNL.out]
      exact HH.out.row.store _ _
    have hC2 : Chg (fun k => k = p ∨ some k = v.ownBlock) w w2 := by
      rw [← hw2]
      refine (HH.out.chg.trans (Chg.setCell wc ⟨g, n / 8, none⟩ _) ?_).trans (Chg.drew _ _) (fun _ _ h => h)
      intro k hk he
      have he' : k = g := he
      rcases HH.out.own g rfl with h | h
      · exact .inr (by rw [he', h])
      · omega
    have d1 : w2.cell? ⟨p, 1, none⟩ = some (.int .i64 (n : Int)) := by rw [HNL.out]; exact hB2.cell rfl
    have df1 : w2.frozen? ⟨p, 1, none⟩ = false := hB2.free 1
    have X1 := kept hB2
    have X2 := kept hO2
    have X3 := kept hC2
    clear hB2 hO2 hC2 hw2 hbyte e8 lc0 lc1 lb e0 e1 ef1 hcb hfb
    go_wp2_with fail
    go_end0
    refine ⟨rfl, _, ⟨?_, ?_⟩, ?_, HH.out.own⟩
    · have := X1.out.set 1 (.int .i64 ((n : Int) + 1))
      simpa [HNL.out] using this
    · exact X2.out.setOther (a := ⟨p, 1, none⟩) (fun e => hpg (by simpa [Value.ownBlock] using e.symm)) _
    · exact X3.out.trans (Chg.setCell w2 ⟨p, 1, none⟩ _) (fun k _ h => .inl h)
end Go.Proofs.Ytnakjencodicmaa

-- ---- Bp
/- bits.New, Writer.Put, Len, Bytes. -/
namespace Go.Proofs.Ytnakjencodicmaa
set_option maxRecDepth 100000
set_option linter.unusedSimpArgs false
set_option linter.unusedVariables false
open Go.RowKit Mix _root_.Go.Proofs.Ytnakjencodicmaa.Own Bits
attribute [local go_sem] max_int min_int

/-- How many bits are put. -/
def clamp (n : Int) : Nat := (max 0 (min n 64)).toNat
theorem clamp_le (n : Int) : clamp n ≤ 64 := by unfold clamp; omega

set_option maxHeartbeats 1000000 in
theorem new_calls (w : World) : Calls Try.prog 23 #[] w fun e w' => ∃ p, e = .returned (.pointer (some ⟨p, 0, none⟩)) ∧ IsW w' p (.slice none 0 0) [] ∧ Below w.heap.size w w' ∧ w.heap.size ≤ p := by
  go_enter Try.func23, Try.ntmps23
  go_wp2
  go_ret
  exact ⟨_, rfl, ⟨Blk.fresh _ _ _, Owns.nil _ _⟩, (Below.refl _ _).alloc (Nat.le_refl _) _, Nat.le_refl _⟩

set_option maxHeartbeats 2000000 in
theorem put_calls (p : Nat) (v : Value) (l : List Bool) (x : Nat) (n : Int) (w : World) (hW : IsW w p v l) (hl : l.length < 1000000000000) (hx : x < 18446744073709551616) (hn0 : -9223372036854775808 ≤ n) (hn1 : n ≤ 9223372036854775807) :
    Calls Try.prog 25 #[.pointer (some ⟨p, 0, none⟩), .int .u64 (x : Int), .int .i64 n] w fun e w' => e = .returned (.tuple #[]) ∧
      ∃ v', IsW w' p v' (l ++ bitsOf x (clamp n)) ∧ Chg (fun k => k = p ∨ some k = v.ownBlock) w w' ∧ ∀ g, v'.ownBlock = some g → some g = v.ownBlock ∨ w.heap.size ≤ g := by
  have HW := kept hW
  have HX := kept hx
  have HL := kept hl
  clear hW hx hl
  obtain ⟨N, hN⟩ : ∃ N, N = clamp n := ⟨_, rfl⟩
  have hN0 : N ≤ 64 := by rw [hN]; exact clamp_le n
  have hNe : mx 0 (mn n 64) = (N : Int) := by rw [hN, mx_eq, mn_eq]; unfold clamp; omega
  have HN := kept hN
  clear hN
  go_enter Try.func25, Try.ntmps25
  go_wp2_with fail
  go_loopw [15] (fun s15 wr => ∃ k : Nat, k ≤ N ∧ s15 = .int .i64 (k : Int) ∧ ∃ v1, IsW wr p v1 (l ++ bitsOf x k) ∧ Chg (fun k => k = p ∨ some k = v.ownBlock) w wr ∧ ∀ g, v1.ownBlock = some g → some g = v.ownBlock ∨ w.heap.size ≤ g)
    (fun s15 _ => N - (intOf s15).toNat)
  case atStart => exact ⟨0, Nat.zero_le _, rfl, v, by simpa [bitsOf] using HW.out, Chg.refl _ _, fun g hg => .inl hg.symm⟩
  case round =>
    obtain ⟨k, hk, rfl, v1, hW1, hC1, hG1⟩ := hrel
    have HW1 := kept hW1
    have HC1 := kept hC1
    have HG1 := kept hG1
    clear hW1 hC1 hG1
    by_cases hlt : k < N
    · have hln : (l ++ bitsOf x k).length < 1099511627776 := by have := HL.out; simp; omega
      have hsh : (x : Int) / 2 ^ k < 18446744073709551616 := by
        have hx := HX.out
        have h1 : (x : Int) / 2 ^ k ≤ x := Int.ediv_le_self _ (by omega)
        omega
      have hsh0 : 0 ≤ (x : Int) / 2 ^ k := Int.ediv_nonneg (by omega) (Int.pow_nonneg (by decide))
      have HS := kept hsh
      have HS0 := kept hsh0
      clear hsh hsh0
      have HLN := kept hln
      clear hln
      go_wp2_with (first | (go_at_call 49; refine (bit_calls p v1 (l ++ bitsOf x k) _ wr HW1.out HLN.out HS0.out HS.out).mono ?_; rintro e w2 ⟨rfl, v2, hW2, hC2, hG2⟩; have HW2 := kept hW2; have HC2 := kept hC2; have HG2 := kept hG2; clear hW2 hC2 hG2))
      go_roundw
      case rel =>
        refine ⟨k + 1, by omega, by go_num, v2, ?_, ?_, ?_⟩
        · rw [bitsOf_succ, ← List.append_assoc, ← bitOf_shift]; exact HW2.out
        · exact HC1.out.trans HC2.out (fun k hk h => by
            rcases h with h | h
            · exact .inl h
            · rcases HG1.out k h.symm with h2 | h2
              · exact .inr h2
              · omega)
        · intro g hg
          rcases HG2.out g hg with h2 | h2
          · exact HG1.out g h2.symm
          · exact .inr (Nat.le_trans HC1.out.size h2)
      case measure => simp [intOf]; omega
    · go_wp2_with fail
      go_end0
      have : k = N := by omega
      subst this
      exact ⟨rfl, v1, by rw [← HN.out]; exact HW1.out, HC1.out, HG1.out⟩

/-- The text that bytes are. -/
def textOf (l : List Nat) : ByteArray := ⟨(l.map UInt8.ofNat).toArray⟩

theorem strOf_eq (l : List Nat) : strOfNums (l.map fun (n : Nat) => (n : Int)) = textOf l := by
  unfold strOfNums textOf
  simp [Function.comp_def]

theorem conv_string {w : World} {v : Value} {l : List Nat} (h : Owns w 5 v (u8s l)) :
    (convert 48 9 v).run Try.prog w = .ok (.string (textOf l)) w := by
  rcases h.form with ⟨rfl, hx⟩ | ⟨g, cap, cur, rfl, hb, hc, hm, hs, ht⟩
  · have : l = [] := by simpa [u8s] using hx
    subst this
    exact run_convert_bytes_nil (P := Try.prog) w 48 5 Try.underlying48 Try.underlying5 0 0 9 Try.underlying9
  · rw [← strOf_eq]
    refine run_convert_bytes_arg (P := Try.prog) w 48 5 Try.underlying48 Try.underlying5 g 0 _ cap _ (by simp) (fun i hi => ?_) 9 Try.underlying9
    simp only [length_u8s] at hi
    rw [Nat.zero_add]
    exact h.cell (by simp [u8s, hi])

set_option maxHeartbeats 1000000 in
theorem bytes_calls (p : Nat) (v : Value) (l : List Bool) (w : World) (hW : IsW w p v l) :
    Calls Try.prog 26 #[.pointer (some ⟨p, 0, none⟩)] w fun e w' => e = .returned (.string (textOf (pack l))) ∧ w = w' := by
  have hc0 : w.cell? ⟨p, 0, none⟩ = some v := hW.blk.cell rfl
  have hcv := conv_string hW.row
  have HW := kept hW
  clear hW
  go_enter Try.func26, Try.ntmps26
  go_wp2
  go_ret
  exact ⟨rfl, rfl⟩
end Go.Proofs.Ytnakjencodicmaa

-- ---- Bf
/- A text, its bits, and bits made a text: plain facts. -/
namespace Go.Proofs.Ytnakjencodicmaa
set_option maxRecDepth 100000
set_option linter.unusedSimpArgs false
set_option linter.unusedVariables false
open Go.RowKit Mix _root_.Go.Proofs.Ytnakjencodicmaa.Own Bits

theorem ext_getD {l m : List Bool} (hl : l.length = m.length) (h : ∀ i, l.getD i false = m.getD i false) : l = m := by
  apply List.ext_getElem hl
  intro i h1 h2
  have := h i
  simp only [List.getD_eq_getElem?_getD, List.getElem?_eq_getElem h1, List.getElem?_eq_getElem h2, Option.getD_some] at this
  exact this

@[simp] theorem size_textOf (l : List Nat) : (textOf l).size = l.length := by simp [textOf, ByteArray.size]

theorem byteS_textOf (l : List Nat) (i : Nat) (h : ∀ x ∈ l, x < 256) : byteS (textOf l) i = l.getD i 0 := by
  unfold byteS textOf
  simp only [List.getD_eq_getElem?_getD]
  rcases Nat.lt_or_ge i l.length with hi | hi
  · have := h _ (List.getElem_mem hi)
    simp [hi]
    omega
  · simp [hi]

theorem pack_lt (l : List Bool) : ∀ x ∈ pack l, x < 256 := packN_lt l _

theorem bitS_pack (l : List Bool) (k : Nat) (hk : k < 8 * ((l.length + 7) / 8)) : bitS (textOf (pack l)) k = l.getD k false := by
  unfold bitS
  rw [byteS_textOf _ _ (pack_lt l)]
  have : (pack l).getD (k / 8) 0 = byteAt l (k / 8) := by
    rw [List.getD_eq_getElem?_getD, pack, getElem?_packN _ _ _ (by omega)]; rfl
  rw [this, testBit_byteAt]
  have e : 8 * (k / 8) + k % 8 = k := by omega
  have e2 : k % 8 < 8 := by omega
  simp [e, e2]

theorem bitsS_textOf (l : List Bool) : bitsS (textOf (pack l)) = l ++ List.replicate (8 * ((l.length + 7) / 8) - l.length) false := by
  apply ext_getD
  · simp; omega
  · intro i
    rw [getD_bitsS]
    simp only [size_textOf, length_pack]
    by_cases h : i < 8 * ((l.length + 7) / 8)
    · rw [bitS_pack l i h]
      simp only [h, decide_true, Bool.true_and, List.getD_eq_getElem?_getD]
      rcases Nat.lt_or_ge i l.length with h2 | h2
      · rw [List.getElem?_append_left h2]
      · rw [List.getElem?_append_right h2, List.getElem?_eq_none h2, List.getElem?_replicate]
        split <;> rfl
    · simp only [h, decide_false, Bool.false_and, List.getD_eq_getElem?_getD]
      rw [List.getElem?_eq_none (by simp; omega)]; rfl

end Go.Proofs.Ytnakjencodicmaa

-- ---- Rw
/- wringerref1's Row: what its methods do to its memory. -/
namespace Go.Proofs.Ytnakjencodicmaa
set_option maxRecDepth 100000
set_option linter.unusedSimpArgs false
set_option linter.unusedVariables false
open Go.RowKit Mix _root_.Go.Proofs.Ytnakjencodicmaa.Own Bits
attribute [local go_sem] max_int min_int

def bits01 (l : List Bool) : List Nat := l.map Bool.toNat
@[simp] theorem length_bits01 (l : List Bool) : (bits01 l).length = l.length := by simp [bits01]

/-- A Row at block p, its bits at v. -/
structure IsR (w : World) (p : Nat) (v : Value) (l : List Bool) : Prop where
  blk : Blk w p #[v] 77
  row : Owns w 5 v (u8s (bits01 l))

theorem IsR.keep {w w' : World} {S : Nat → Prop} {p : Nat} {v : Value} {l : List Bool} (h : IsR w p v l) (hc : Chg S w w') (hp : ¬ S p) (hv : ∀ g, v.ownBlock = some g → ¬ S g) : IsR w' p v l :=
  ⟨hc.keep h.blk hp, h.row.chg hc hv⟩

theorem bit_byte0 (x k : Nat) (hx : x < 18446744073709551616) : bits .and .u64 ((x : Int) / 2 ^ k) 1 % 256 = (((x.testBit k).toNat : Nat) : Int) := by
  have h1 : (x : Int) / 2 ^ k ≤ x := Int.ediv_le_self _ (by omega)
  have h0 : 0 ≤ (x : Int) / 2 ^ k := Int.ediv_nonneg (by omega) (Int.pow_nonneg (by decide))
  rw [Bits.and_one_u64 _ h0 (by omega), bitOf_shift]
  cases x.testBit k <;> simp

set_option maxHeartbeats 4000000 in
theorem rput_calls (p : Nat) (v : Value) (l : List Bool) (x : Nat) (n : Int) (w : World) (hW : IsR w p v l) (hl : l.length < 1000000000000) (hx : x < 18446744073709551616) (hn0 : -9223372036854775808 ≤ n) (hn1 : n ≤ 9223372036854775807) :
    Calls Try.prog 29 #[.pointer (some ⟨p, 0, none⟩), .int .u64 (x : Int), .int .i64 n] w fun e w' => e = .returned (.tuple #[]) ∧
      ∃ v', IsR w' p v' (l ++ bitsOf x (clamp n)) ∧ Chg (fun k => k = p ∨ some k = v.ownBlock) w w' ∧ ∀ g, v'.ownBlock = some g → some g = v.ownBlock ∨ w.heap.size ≤ g := by
  obtain ⟨i0, hi, hz0, hz1, hz2⟩ := info_parts infoU8
  have HW := kept hW
  have HX := kept hx
  have HL := kept hl
  clear hW hx hl
  obtain ⟨N, hN⟩ : ∃ N, N = clamp n := ⟨_, rfl⟩
  have hN0 : N ≤ 64 := by rw [hN]; exact clamp_le n
  have hNe : mx 0 (mn n 64) = (N : Int) := by rw [hN, mx_eq, mn_eq]; unfold clamp; omega
  have HN := kept hN
  clear hN
  go_enter Try.func29, Try.ntmps29
  go_wp2_with fail
  go_loopw [6] (fun s6 wr => ∃ k : Nat, k ≤ N ∧ s6 = .int .i64 (k : Int) ∧ ∃ v1, IsR wr p v1 (l ++ bitsOf x k) ∧ Chg (fun k => k = p ∨ some k = v.ownBlock) w wr ∧ ∀ g, v1.ownBlock = some g → some g = v.ownBlock ∨ w.heap.size ≤ g)
    (fun s6 _ => N - (intOf s6).toNat)
  case atStart => exact ⟨0, Nat.zero_le _, rfl, v, by simpa [bitsOf] using HW.out, Chg.refl _ _, fun g hg => .inl hg.symm⟩
  case round =>
    obtain ⟨k, hk, rfl, v1, hW1, hC1, hG1⟩ := hrel
    have c0 : wr.cell? ⟨p, 0, none⟩ = some v1 := hW1.blk.cell rfl
    have HW1 := kept hW1
    have HC1 := kept hC1
    have HG1 := kept hG1
    clear hW1 hC1 hG1
    by_cases hlt : k < N
    · have lc0 := lat_cell c0
      go_wp2_with fail
      refine wp_region_mixL [0] [1,2,3,4,5,6,7,8,9] [10,11,12,13,14] (by kernel_rfl) (by kernel_rfl) ?_
      intro K hK
      simp only [pick, List.filterMap_cons, List.filterMap_nil, List.getElem?_cons_zero, List.getElem?_cons_succ]
      repeat (show wpQuiet _ _ _ _ (_ :: _) _; go_big_quiet_step (fail))
      have hby := bit_byte0 x k HX.out
      rw [hby]
      clear hby
      show wpList _ _ _ [_, _, _, _, _] _ _
      generalize hwd : World.drew wr = wd
      have HWd : Kept (IsR wd p v1 (l ++ bitsOf x k)) := kept (by rw [← hwd]; exact ⟨HW1.out.blk, HW1.out.row⟩)
      have HCd : Kept (Chg (fun k => k = p ∨ some k = v.ownBlock) w wd) := kept (by rw [← hwd]; exact HC1.out.trans (Chg.drew (fun _ => False) _) (fun _ _ h => h.elim))
      clear hwd lc0 c0
      go_wp2_with (first | (at_builtin; refine wpList_app1 rfl _ _ 48 rfl 5 i0 (.int .u8 0) 1 Try.underlying48 hi hz0 hz1 hz2 rfl v1 _ (.int .u8 ((x.testBit k).toNat : Int)) rfl HWd.out.row rfl rfl ?_ ?_ ?_) | fail)
      · have := HL.out; simp [maxLen]; omega
      · have := HL.out; simp; omega
      intro v2 w2 O2 hch F
      have O2 : Owns w2 5 v2 (u8s (bits01 (l ++ bitsOf x (k + 1)))) := by
        rw [bitsOf_succ, ← List.append_assoc]; simpa [bits01, u8s] using O2
      obtain ⟨g2, cap2, rfl, _, _⟩ := O2.row (by intro e; have := congrArg List.length e; simp at this)
      simp only [length_u8s, length_bits01, List.length_append, length_bitsOf] at O2 F
      have hvp : v1.ownBlock ≠ some p := HWd.out.row.ne HWd.out.blk (by decide)
      have hB2 : Blk w2 p #[v1] 77 := hch.keep HWd.out.blk (fun e => hvp e.symm)
      have d0 : w2.cell? ⟨p, 0, none⟩ = some v1 := hB2.cell rfl
      have f0 : w2.frozen? ⟨p, 0, none⟩ = false := hB2.free 0
      have hpg : p ≠ g2 := hB2.ne (O2.blk g2 rfl).choose_spec (by decide)
      have hch2 : Chg (fun k => k = p ∨ some k = v.ownBlock) w w2 := HCd.out.trans hch (fun k hk h => by
        rcases HG1.out k h.symm with h2 | h2
        · exact .inr h2
        · omega)
      have hsz : w.heap.size ≤ wd.heap.size := HCd.out.size
      have F2 : ∀ g, some g2 = some g → some g = v.ownBlock ∨ w.heap.size ≤ g := fun g hg => by
        rcases F g hg with h2 | h2
        · exact HG1.out g h2.symm
        · omega
      have O2 := kept O2
      have HB2 := kept hB2
      have HC2 := kept hch2
      have HF2 := kept F2
      clear hB2 hch2 hch F F2 hvp
      go_wp2_with fail
      refine hK _ _ ?_
      go_wp2_with fail
      go_roundw
      case rel =>
        refine ⟨k + 1, by omega, by go_num, _, ⟨HB2.out.set 0 _, O2.out.setOther (a := ⟨p, 0, none⟩) (fun e => hpg (by simpa [Value.ownBlock] using e.symm)) _⟩, ?_, HF2.out⟩
        exact HC2.out.trans (Chg.setCell w2 ⟨p, 0, none⟩ _) (fun k _ h => .inl h)
      case measure => simp [intOf]; omega
    · go_wp2_with fail
      go_end0
      have : k = N := by omega
      subst this
      exact ⟨rfl, v1, by rw [← HN.out]; exact HW1.out, HC1.out, HG1.out⟩
end Go.Proofs.Ytnakjencodicmaa

-- ---- Bx
/- bits.Reader: what its methods do. -/
namespace Go.Proofs.Ytnakjencodicmaa
set_option maxRecDepth 100000
set_option linter.unusedSimpArgs false
set_option linter.unusedVariables false
open Go.RowKit Mix _root_.Go.Proofs.Ytnakjencodicmaa.Own Bits
attribute [local go_sem] max_int min_int

/-- A Reader at block p: the text s, the place. -/
def IsRd (w : World) (p : Nat) (s : ByteArray) (k : Nat) : Prop := Blk w p #[.string s, .int .i64 (k : Int)] 116

set_option maxHeartbeats 1000000 in
theorem left_calls (p : Nat) (s : ByteArray) (k : Nat) (w : World) (h : IsRd w p s k) (hs : s.size ≤ 1000000000000) (hk : k ≤ 8 * s.size) :
    Calls Try.prog 52 #[.pointer (some ⟨p, 0, none⟩)] w fun e w' => e = .returned (.int .i64 (8 * (s.size : Int) - k)) ∧ Below w.heap.size w w' := by
  have c0 : w.cell? ⟨p, 0, none⟩ = some (.string s) := Blk.cell h rfl
  have c1 : w.cell? ⟨p, 1, none⟩ = some (.int .i64 (k : Int)) := Blk.cell h rfl
  have l0 := lat_cell c0
  have l1 := lat_cell c1
  have H := kept h
  clear h
  go_enter Try.func52, Try.ntmps52
  go_wp2_with fail
  refine wp_region_quietL (by kernel_rfl) (by kernel_rfl) ?_
  repeat (go_big_quiet_step (fail))
  refine wpQuiet_nil ?_
  intro nq
  go_wp2_with fail
  go_ret
  exact ⟨rfl, nq.below⟩

set_option maxHeartbeats 1000000 in
theorem rbit_calls (p : Nat) (s : ByteArray) (k : Nat) (w : World) (h : IsRd w p s k) (hs : s.size ≤ 1000000000000) (hk : k < 8 * s.size) :
    Calls Try.prog 60 #[.pointer (some ⟨p, 0, none⟩)] w fun e w' => e = .returned (.int .u64 ((bitS s k).toNat : Int)) ∧ IsRd w' p s (k + 1) ∧ Chg (fun b => b = p) w w' := by
  have c0 : w.cell? ⟨p, 0, none⟩ = some (.string s) := Blk.cell h rfl
  have c1 : w.cell? ⟨p, 1, none⟩ = some (.int .i64 (k : Int)) := Blk.cell h rfl
  have l0 := lat_cell c0
  have l1 := lat_cell c1
  have hix := run_ix (P := Try.prog) (T := 9) Try.underlying9 s ((k : Int) / 8) (k / 8) (by omega) (by omega)
  obtain ⟨b, hb⟩ : ∃ b, b = byteS s (k / 8) := ⟨_, rfl⟩
  have hb8 : b < 256 := by rw [hb]; exact byteS_lt _ _
  rw [← hb] at hix
  have HB := kept hb
  clear hb
  have H := kept h
  clear h
  go_enter Try.func60, Try.ntmps60
  go_wp2_with fail
  refine wp_region_quietL (by kernel_rfl) (by kernel_rfl) ?_
  repeat (go_big_quiet_step (fail))
  refine wpQuiet_nil ?_
  intro nq
  have hbit := and_bit b (k % 8) hb8
  rw [hbit]
  have hB1 : Blk nq.w p #[.string s, .int .i64 (k : Int)] 116 := lat_block H.out nq
  have hch := (Chg.of_below (S := fun b => b = p) nq.below)
  generalize nq.w = w1 at hB1 hch ⊢
  have d1 : w1.cell? ⟨p, 1, none⟩ = some (.int .i64 (k : Int)) := hB1.cell rfl
  have f1 : w1.frozen? ⟨p, 1, none⟩ = false := hB1.free 1
  have HB1 := kept hB1
  have HC1 := kept hch
  clear hbit hB1 hch l0 l1 c0 c1 hix
  go_wp2_with fail
  go_ret
  refine ⟨by rw [HB.out]; rfl, ?_, HC1.out.trans (Chg.setCell w1 ⟨p, 1, none⟩ _) (fun _ _ h => h)⟩
  have := HB1.out.set 1 (.int .i64 ((k : Int) + 1))
  simpa [IsRd] using this

set_option maxHeartbeats 2000000 in
theorem get_ok (p : Nat) (s : ByteArray) (k n : Nat) (w : World) (h : IsRd w p s k) (hs : s.size ≤ 1000000000000) (hk : k ≤ 8 * s.size) (hn : n ≤ 64) (hl : k + n ≤ 8 * s.size) :
    Calls Try.prog 51 #[.pointer (some ⟨p, 0, none⟩), .int .i64 (n : Int)] w fun e w' => e = .returned (.tuple #[.int .u64 (ofBits (((bitsS s).drop k).take n) : Int), .int .i64 0]) ∧
      IsRd w' p s (k + n) ∧ Chg (fun b => b = p) w w' := by
  have H := kept h
  clear h
  have t1 : decide ((n : Int) < 0) = false := by simp
  have t2 : decide ((64 : Int) < (n : Int)) = false := by simp; omega
  have t3 : decide (8 * (s.size : Int) - (k : Int) < (n : Int)) = false := by simp; omega
  go_enter Try.func51, Try.ntmps51
  go_wp2_with (first | (go_at_call 52; refine (left_calls p s k w H.out hs hk).mono ?_; rintro e w1 ⟨rfl, hb1⟩; have HB1 := kept hb1; clear hb1))
  go_loopw [7, 27] (fun s7 s27 wr => ∃ i : Nat, i ≤ n ∧ s27 = .int .i64 (i : Int) ∧ s7 = .int .u64 (ofBits (((bitsS s).drop k).take i) : Int) ∧ IsRd wr p s (k + i) ∧ Chg (fun b => b = p) w wr)
    (fun _ s27 _ => n - (intOf s27).toNat)
  case atStart => exact ⟨0, Nat.zero_le _, rfl, by simp [ofBits], by rw [Nat.add_zero]; exact (HB1.out.block p (Blk.lt H.out)).trans H.out, Chg.of_below HB1.out⟩
  case round =>
    obtain ⟨i, hi, rfl, rfl, hR, hC⟩ := hrel
    have HR := kept hR
    have HC := kept hC
    obtain ⟨z, hz⟩ : ∃ z, z = ofBits (((bitsS s).drop k).take i) := ⟨_, rfl⟩
    rw [← hz]
    have HZ := kept hz
    clear hR hC hz
    by_cases hlt : i < n
    · have hki : k + i < 8 * s.size := by omega
      obtain ⟨y, hy⟩ : ∃ y, y = (bitS s (k + i)).toNat := ⟨_, rfl⟩
      have hy1 : y ≤ 1 := by rw [hy]; cases bitS s (k + i) <;> simp
      have HY := kept hy
      clear hy
      go_wp2_with (first | (go_at_call 60; refine (rbit_calls p s (k + i) wr HR.out hs hki).mono ?_; rw [← HY.out]; rintro e w2 ⟨rfl, hR2, hC2⟩; have HR2 := kept hR2; have HC2 := kept hC2; clear hR2 hC2))
      go_roundw
      case rel =>
        refine ⟨i + 1, by omega, by go_num, ?_, HR2.out, HC.out.trans HC2.out (fun _ _ h => h)⟩
        rw [HZ.out, HY.out, drop_step s k i hki, or_step _ _ i (by simp; omega) (by omega)]
      case measure => simp [intOf]; omega
    · go_wp2_with fail
      go_ret2
      have : i = n := by omega
      subst this
      exact ⟨by rw [HZ.out]; rfl, HR.out, HC.out⟩

set_option maxHeartbeats 1000000 in
theorem get_more (p : Nat) (s : ByteArray) (k n : Nat) (w : World) (h : IsRd w p s k) (hs : s.size ≤ 1000000000000) (hk : k ≤ 8 * s.size) (hn : n ≤ 64) (hl : 8 * s.size < k + n) :
    Calls Try.prog 51 #[.pointer (some ⟨p, 0, none⟩), .int .i64 (n : Int)] w fun e w' => e = .returned (.tuple #[.int .u64 0, .int .i64 2]) ∧ Below w.heap.size w w' := by
  have H := kept h
  clear h
  have t1 : decide ((n : Int) < 0) = false := by simp
  have t2 : decide ((64 : Int) < (n : Int)) = false := by simp; omega
  have t3 : decide (8 * (s.size : Int) - (k : Int) < (n : Int)) = true := by simp; omega
  go_enter Try.func51, Try.ntmps51
  go_wp2_with (first | (go_at_call 52; refine (left_calls p s k w H.out hs hk).mono ?_; rintro e w1 ⟨rfl, hb1⟩; have HB1 := kept hb1; clear hb1))
  go_ret2
  exact ⟨rfl, HB1.out⟩

end Go.Proofs.Ytnakjencodicmaa

-- ---- Bg
/- bits.From, and a Reader all of whose memory lies from a block on. -/
namespace Go.Proofs.Ytnakjencodicmaa
set_option maxRecDepth 100000
set_option linter.unusedSimpArgs false
set_option linter.unusedVariables false
open Go.RowKit Mix _root_.Go.Proofs.Ytnakjencodicmaa.Own Bits

set_option maxHeartbeats 1000000 in
theorem from_calls (s : ByteArray) (w : World) : Calls Try.prog 32 #[.string s] w fun e w' => ∃ p, e = .returned (.pointer (some ⟨p, 0, none⟩)) ∧ IsRd w' p s 0 ∧ Below w.heap.size w w' ∧ w.heap.size ≤ p := by
  go_enter Try.func32, Try.ntmps32
  go_wp2_with fail
  go_ret
  exact ⟨_, rfl, Blk.fresh _ _ _, (Below.refl _ _).alloc (Nat.le_refl _) _, Nat.le_refl _⟩
theorem IsRd.keep {w w' : World} {S : Nat → Prop} {p : Nat} {s : ByteArray} {k : Nat} (h : IsRd w p s k) (hc : Chg S w w') (hp : ¬ S p) : IsRd w' p s k := hc.keep h hp
theorem IsRd.later {w w' : World} {p : Nat} {s : ByteArray} {k : Nat} (h : IsRd w p s k) (hc : Below w.heap.size w w') : IsRd w' p s k := (hc.block p (Blk.lt h)).trans h
end Go.Proofs.Ytnakjencodicmaa

-- ---- Bn
/- A Writer of the call's own. -/
namespace Go.Proofs.Ytnakjencodicmaa
set_option maxRecDepth 100000
set_option linter.unusedSimpArgs false
set_option linter.unusedVariables false
open Go.RowKit Mix _root_.Go.Proofs.Ytnakjencodicmaa.Own Bits

/-- A Writer all of whose memory lies from block B on. -/
structure NewW (B : Nat) (w : World) (p : Nat) (v : Value) (l : List Bool) : Prop where
  is : IsW w p v l
  at_ : B ≤ p
  row : ∀ g, v.ownBlock = some g → B ≤ g

theorem NewW.keep {B : Nat} {w w' : World} {S : Nat → Prop} {p : Nat} {v : Value} {l : List Bool} (h : NewW B w p v l) (hc : Chg S w w') (hp : ¬ S p) (hv : ∀ g, v.ownBlock = some g → ¬ S g) : NewW B w' p v l :=
  ⟨h.is.keep hc hp hv, h.at_, h.row⟩
theorem NewW.later {B : Nat} {w w' : World} {p : Nat} {v : Value} {l : List Bool} (h : NewW B w p v l) (hc : Below w.heap.size w w') : NewW B w' p v l :=
  h.keep (Chg.of_below (S := fun _ => False) hc) id (fun _ _ => id)

theorem new_new (B : Nat) (w : World) (hB : B ≤ w.heap.size) : Calls Try.prog 23 #[] w fun e w' => ∃ p, e = .returned (.pointer (some ⟨p, 0, none⟩)) ∧ NewW B w' p (.slice none 0 0) [] ∧ Below w.heap.size w w' ∧ w.heap.size ≤ p :=
  (new_calls w).mono fun e w' ⟨p, he, hW, hb, hp⟩ => ⟨p, he, ⟨hW, Nat.le_trans hB hp, fun g hg => by simp [Value.ownBlock] at hg⟩, hb, hp⟩

theorem put_new (B p : Nat) (v : Value) (l : List Bool) (x : Nat) (n : Int) (w : World) (hB : B ≤ w.heap.size) (hW : NewW B w p v l) (hl : l.length < 1000000000000) (hx : x < 18446744073709551616) (hn0 : -9223372036854775808 ≤ n) (hn1 : n ≤ 9223372036854775807) :
    Calls Try.prog 25 #[.pointer (some ⟨p, 0, none⟩), .int .u64 (x : Int), .int .i64 n] w fun e w' => e = .returned (.tuple #[]) ∧
      ∃ v', NewW B w' p v' (l ++ bitsOf x (clamp n)) ∧ Below B w w' ∧ Chg (fun k => k = p ∨ some k = v.ownBlock) w w' ∧ ∀ g, v'.ownBlock = some g → some g = v.ownBlock ∨ w.heap.size ≤ g :=
  (put_calls p v l x n w hW.is hl hx hn0 hn1).mono fun e w' ⟨he, v', h1, h2, h3⟩ => ⟨he, v', ⟨h1, hW.at_, fun g hg => by
      rcases h3 g hg with h | h
      · exact hW.row g h.symm
      · omega⟩, h2.below hB (fun k hk h => by
      rcases h with h | h
      · have := hW.at_; omega
      · have := hW.row k h.symm; omega), h2, h3⟩
end Go.Proofs.Ytnakjencodicmaa

-- ---- Br
/- bits.Reader: whether nothing is left. -/
namespace Go.Proofs.Ytnakjencodicmaa
set_option maxRecDepth 100000
set_option linter.unusedSimpArgs false
set_option linter.unusedVariables false
open Go.RowKit Mix _root_.Go.Proofs.Ytnakjencodicmaa.Own Bits
attribute [local go_sem] max_int min_int

/-- Whether nothing but noughts is left, and these fewer than eight. -/
def restS (s : ByteArray) (k : Nat) : Bool := decide (8 * s.size < k + 8) && ((bitsS s).drop k).all fun b => !b

theorem restS_byte (s : ByteArray) (k : Nat) (h1 : k < 8 * s.size) (h2 : 8 * s.size < k + 8) : restS s k = (byteS s (s.size - 1) / 2 ^ (k % 8) == 0) := by
  unfold restS
  rw [decide_eq_true h2, Bool.true_and, Bool.eq_iff_iff, ← ofBits_zero, beq_iff_eq]
  have e : ofBits ((bitsS s).drop k) = byteS s (s.size - 1) / 2 ^ (k % 8) := by
    apply Nat.eq_of_testBit_eq
    intro i
    rw [testBit_ofBits, List.getD_eq_getElem?_getD, List.getElem?_drop, ← List.getD_eq_getElem?_getD, getD_bitsS, Nat.testBit_div_two_pow]
    by_cases hi : k + i < 8 * s.size
    · have e1 : (k + i) / 8 = s.size - 1 := by omega
      have e2 : (k + i) % 8 = k % 8 + i := by omega
      simp only [hi, decide_true, Bool.true_and, bitS, e1, e2]
      congr 1; omega
    · simp only [hi, decide_false, Bool.false_and]
      symm
      apply Nat.testBit_lt_two_pow
      have hb := byteS_lt s (s.size - 1)
      have : 2 ^ 8 ≤ 2 ^ (i + k % 8) := Nat.pow_le_pow_right (by decide) (by omega)
      omega
  rw [e]

set_option maxHeartbeats 2000000 in
theorem rest_calls (p : Nat) (s : ByteArray) (k : Nat) (w : World) (h : IsRd w p s k) (hs : s.size ≤ 1000000000000) (hk : k ≤ 8 * s.size) :
    Calls Try.prog 36 #[.pointer (some ⟨p, 0, none⟩)] w fun e w' => e = .returned (.bool (restS s k)) ∧ Below w.heap.size w w' := by
  have c0 : w.cell? ⟨p, 0, none⟩ = some (.string s) := Blk.cell h rfl
  have c1 : w.cell? ⟨p, 1, none⟩ = some (.int .i64 (k : Int)) := Blk.cell h rfl
  have H := kept h
  clear h
  by_cases h8 : k + 8 ≤ 8 * s.size
  · have e : restS s k = false := by unfold restS; rw [decide_eq_false (by omega)]; rfl
    rw [e]
    have t1 : decide ((8 : Int) ≤ 8 * (s.size : Int) - (k : Int)) = true := by simp; omega
    go_enter Try.func36, Try.ntmps36
    go_wp2_with (first | (go_at_call 52; refine (left_calls p s k w H.out hs hk).mono ?_; rintro e w1 ⟨rfl, hb1⟩; have HB1 := kept hb1; clear hb1))
    go_ret
    exact ⟨rfl, HB1.out⟩
  · have t1 : decide ((8 : Int) ≤ 8 * (s.size : Int) - (k : Int)) = false := by simp; omega
    by_cases h0 : k = 8 * s.size
    · have e : restS s k = true := by unfold restS; rw [decide_eq_true (by omega), List.drop_eq_nil_of_le (by simp; omega)]; rfl
      rw [e]
      have t2 : (8 * (s.size : Int) - (k : Int) == 0) = true := by rw [beq_iff_eq]; omega
      go_enter Try.func36, Try.ntmps36
      go_wp2_with (first | (go_at_call 52; refine (left_calls p s k w H.out hs hk).mono ?_; rintro e w1 ⟨rfl, hb1⟩; have h1 : IsRd w1 p s k := (hb1.block p (Blk.lt H.out)).trans H.out; have l0 := lat_cell (Blk.cell h1 (i := 0) rfl); have l1 := lat_cell (Blk.cell h1 (i := 1) rfl); have H1 := kept h1; have HB1 := kept hb1; clear hb1 h1))
      refine wp_region_quietL (by kernel_rfl) (by kernel_rfl) ?_
      repeat (go_big_quiet_step ((go_at_call 52; exact lat_call (left_calls p s k _ (lat_block H1.out _) hs hk))))
      refine wpQuiet_nil ?_
      intro nq
      go_wp2_with fail
      go_ret
      exact ⟨rfl, HB1.out.trans (nq.below.mono HB1.out.size)⟩
    · have e := restS_byte s k (by omega) (by omega)
      rw [e]
      have t2 : (8 * (s.size : Int) - (k : Int) == 0) = false := by rw [beq_eq_false_iff_ne]; omega
      have hix := run_ix (P := Try.prog) (T := 9) Try.underlying9 s ((s.size : Int) - 1) (s.size - 1) (by omega) (by omega)
      obtain ⟨b, hb⟩ : ∃ b, b = byteS s (s.size - 1) := ⟨_, rfl⟩
      have hb8 : b < 256 := by rw [hb]; exact byteS_lt _ _
      rw [← hb] at hix
      have HB := kept hb
      clear hb e
      rw [← HB.out]
      have hbq : Kept (((b : Int) / 2 ^ (k % 8) == 0) = (b / 2 ^ (k % 8) == 0)) := kept (by
        have e : ((b : Int) / 2 ^ (k % 8)) = ((b / 2 ^ (k % 8) : Nat) : Int) := by simp
        rw [Bool.eq_iff_iff, beq_iff_eq, beq_iff_eq, e]
        omega)
      go_enter Try.func36, Try.ntmps36
      go_wp2_with (first | (go_at_call 52; refine (left_calls p s k w H.out hs hk).mono ?_; rintro e w1 ⟨rfl, hb1⟩; have h1 : IsRd w1 p s k := (hb1.block p (Blk.lt H.out)).trans H.out; have l0 := lat_cell (Blk.cell h1 (i := 0) rfl); have l1 := lat_cell (Blk.cell h1 (i := 1) rfl); have H1 := kept h1; have HB1 := kept hb1; clear hb1 h1))
      refine wp_region_quietL (by kernel_rfl) (by kernel_rfl) ?_
      repeat (go_big_quiet_step ((go_at_call 52; exact lat_call (left_calls p s k _ (lat_block H1.out _) hs hk))))
      refine wpQuiet_nil ?_
      intro nq
      go_wp2_with fail
      go_ret
      exact ⟨by show Ending.returned (Value.bool ((b : Int) / 2 ^ (k % 8) == 0)) = _; rw [hbq.out], HB1.out.trans (nq.below.mono HB1.out.size)⟩
end Go.Proofs.Ytnakjencodicmaa

-- ---- Dp
/- The cheapest lengths of codes, level by level: plain facts. No program in sight. -/
namespace Go.Proofs.Ytnakjencodicmaa.Dp
set_option maxRecDepth 100000
set_option linter.unusedSimpArgs false
set_option linter.unusedVariables false

/-- One more candidate: only what is less takes the place. -/
def upd (a : Option (Int × Nat)) (c : Option Int) (k : Nat) : Option (Int × Nat) :=
  match c with
  | none => a
  | some x => match a with
    | none => some (x, k)
    | some (y, m) => if x < y then some (x, k) else some (y, m)
/-- The candidates below n, from the greatest on. -/
def run (c : Nat → Option Int) (a : Option (Int × Nat)) : Nat → Option (Int × Nat)
  | 0 => a
  | n + 1 => run c (upd a (c n) n) n
def best (c : Nat → Option Int) (o : Nat) : Option (Int × Nat) := run c none (o + 1)

/-- The best of the candidates from n to o: the greatest of those that are least. -/
def IsB (c : Nat → Option Int) (n o : Nat) : Option (Int × Nat) → Prop
  | none => ∀ j, n ≤ j → j ≤ o → c j = none
  | some (x, k) => n ≤ k ∧ k ≤ o ∧ c k = some x ∧ ∀ j y, n ≤ j → j ≤ o → c j = some y → x ≤ y ∧ (k < j → x < y)

theorem isB_upd {c : Nat → Option Int} {n o : Nat} {a : Option (Int × Nat)} (h : IsB c (n + 1) o a) (hn : n ≤ o) : IsB c n o (upd a (c n) n) := by
  cases hc : c n with
  | none =>
    show IsB c n o a
    cases a with
    | none =>
      intro j h1 h2
      by_cases e : j = n
      · rw [e]; exact hc
      · exact h j (by omega) h2
    | some p =>
      obtain ⟨x, k⟩ := p
      obtain ⟨h1, h2, h3, h4⟩ := h
      refine ⟨by omega, h2, h3, fun j y j1 j2 hj => ?_⟩
      by_cases e : j = n
      · rw [e, hc] at hj; cases hj
      · exact h4 j y (by omega) j2 hj
  | some x =>
    cases a with
    | none =>
      show IsB c n o (some (x, n))
      refine ⟨Nat.le_refl _, hn, hc, fun j y j1 j2 hj => ?_⟩
      by_cases e : j = n
      · subst e; rw [hc] at hj; cases hj; exact ⟨Int.le_refl _, fun h => by omega⟩
      · rw [h j (by omega) j2] at hj; cases hj
    | some p =>
      obtain ⟨y, m⟩ := p
      obtain ⟨h1, h2, h3, h4⟩ := h
      show IsB c n o (if x < y then some (x, n) else some (y, m))
      by_cases hxy : x < y
      · rw [if_pos hxy]
        refine ⟨Nat.le_refl _, hn, hc, fun j z j1 j2 hj => ?_⟩
        by_cases e : j = n
        · subst e; rw [hc] at hj; cases hj; exact ⟨Int.le_refl _, fun h => by omega⟩
        · have := (h4 j z (by omega) j2 hj).1; exact ⟨by omega, fun _ => by omega⟩
      · rw [if_neg hxy]
        refine ⟨by omega, h2, h3, fun j z j1 j2 hj => ?_⟩
        by_cases e : j = n
        · subst e; rw [hc] at hj; cases hj; exact ⟨by omega, fun h => by omega⟩
        · exact h4 j z (by omega) j2 hj
theorem isB_run {c : Nat → Option Int} {o : Nat} : ∀ (n : Nat) (a : Option (Int × Nat)), n ≤ o + 1 → IsB c n o a → IsB c 0 o (run c a n) := by
  intro n
  induction n with
  | zero => intro a _ h; exact h
  | succ n ih => intro a hn h; exact ih _ (by omega) (isB_upd h (by omega))
theorem best_spec (c : Nat → Option Int) (o : Nat) : IsB c 0 o (best c o) := isB_run _ _ (Nat.le_refl _) (fun j h1 h2 => by omega)
theorem best_some {c : Nat → Option Int} {o k : Nat} {x : Int} (hk : k ≤ o) (hc : c k = some x) : ∃ y m, best c o = some (y, m) ∧ y ≤ x := by
  have := best_spec c o
  cases hb : best c o with
  | none => rw [hb] at this; rw [this k (by omega) hk] at hc; cases hc
  | some p => obtain ⟨y, m⟩ := p; rw [hb] at this; exact ⟨y, m, rfl, (this.2.2.2 k x (by omega) hk hc).1⟩

/-- What the frequencies g cost at least behind a level that has so many open places, r levels from this one on; each that is not told here is one longer. None: it cannot be. -/
def dp : Nat → List Int → Nat → Option Int
  | 0, g, o => if g = [] then (if o = 0 then some 0 else none) else none
  | r + 1, g, o =>
    if g = [] then (if o = 0 then some 0 else none)
    else if o = 0 ∨ g.length < o then none
    else (best (fun k => (dp r (g.drop k) (2 * (o - k))).map (· + (g.drop k).sum)) o).map Prod.fst
def cand (r : Nat) (g : List Int) (o k : Nat) : Option Int := (dp r (g.drop k) (2 * (o - k))).map (· + (g.drop k).sum)
def take (r : Nat) (g : List Int) (o : Nat) : Nat := match best (cand r g o) o with
  | some (_, k) => k
  | none => 0
theorem dp_nil (r o : Nat) : dp r [] o = if o = 0 then some 0 else none := by cases r <;> simp [dp]
theorem dp_out {r : Nat} {g : List Int} {o : Nat} (hg : g ≠ []) (h : o = 0 ∨ g.length < o ∨ r = 0) : dp r g o = none := by
  cases r with
  | zero => simp [dp, hg]
  | succ r =>
    rcases h with h | h | h
    · simp [dp, hg, h]
    · simp [dp, hg, h]
    · omega
theorem dp_in {r : Nat} {g : List Int} {o : Nat} (hg : g ≠ []) (h1 : 1 ≤ o) (h2 : o ≤ g.length) : dp (r + 1) g o = (best (cand r g o) o).map Prod.fst := by
  show (if g = [] then _ else if o = 0 ∨ g.length < o then none else _) = _
  rw [if_neg hg, if_neg (by omega)]; rfl
theorem take_le (r : Nat) (g : List Int) (o : Nat) : take r g o ≤ o := by
  unfold take
  have := best_spec (cand r g o) o
  cases hb : best (cand r g o) o with
  | none => simp
  | some p => obtain ⟨y, m⟩ := p; rw [hb] at this; exact this.2.1
/-- What is known of a state that can be. -/
theorem dp_some {r : Nat} {g : List Int} {o : Nat} {x : Int} (h : dp (r + 1) g o = some x) (hg : g ≠ []) :
    1 ≤ o ∧ o ≤ g.length ∧ ∃ y, dp r (g.drop (take r g o)) (2 * (o - take r g o)) = some y ∧ x = y + (g.drop (take r g o)).sum := by
  by_cases h0 : o = 0 ∨ g.length < o
  · rw [dp_out hg (by omega)] at h; cases h
  refine ⟨by omega, by omega, ?_⟩
  rw [dp_in hg (by omega) (by omega)] at h
  have hs := best_spec (cand r g o) o
  cases hb : best (cand r g o) o with
  | none => rw [hb] at h; cases h
  | some p =>
    obtain ⟨z, k⟩ := p
    have ht : take r g o = k := by unfold take; rw [hb]
    rw [ht]
    rw [hb] at h hs
    simp only [Option.map_some, Option.some.injEq] at h
    obtain ⟨_, h2, h3, _⟩ := hs
    unfold cand at h3
    cases hd : dp r (g.drop k) (2 * (o - k)) with
    | none => rw [hd] at h3; cases h3
    | some y => rw [hd] at h3; simp at h3; exact ⟨y, rfl, by omega⟩

/-- The lengths, from a level on. -/
def lens : Nat → Nat → List Int → Nat → List Nat
  | 0, _, _, _ => []
  | r + 1, d, g, o => if g = [] then [] else List.replicate (take r g o) d ++ lens r (d + 1) (g.drop (take r g o)) (2 * (o - take r g o))
theorem lens_nil (r d o : Nat) : lens r d [] o = [] := by cases r <;> simp [lens]
theorem lens_cons {r d : Nat} {g : List Int} {o : Nat} (hg : g ≠ []) : lens (r + 1) d g o = List.replicate (take r g o) d ++ lens r (d + 1) (g.drop (take r g o)) (2 * (o - take r g o)) := by
  show (if g = [] then _ else _) = _
  rw [if_neg hg]

/-- Sums over lengths. -/
def wsum (L : Nat) (ns : List Nat) : Nat := (ns.map fun n => 2 ^ (L - n)).sum
def cost (d : Nat) : List Int → List Nat → Int
  | f :: fs, n :: ns => f * ((n : Int) - d) + cost d fs ns
  | _, _ => 0
theorem wsum_append (L : Nat) (a b : List Nat) : wsum L (a ++ b) = wsum L a + wsum L b := by simp [wsum]
theorem wsum_replicate (L n k : Nat) : wsum L (List.replicate k n) = k * 2 ^ (L - n) := by simp [wsum]
theorem cost_next (d : Nat) : ∀ (g : List Int) (ns : List Nat), ns.length = g.length → cost d g ns = cost (d + 1) g ns + g.sum := by
  intro g
  induction g with
  | nil => intro ns h; cases ns <;> simp [cost]
  | cons f fs ih =>
    intro ns h
    cases ns with
    | nil => simp at h
    | cons n ns =>
      simp only [cost, List.sum_cons]
      rw [ih ns (by simpa using h), show ((n : Int) - d) = ((n : Int) - ((d + 1 : Nat) : Int)) + 1 by omega, Int.mul_add, Int.mul_one]
      omega
theorem cost_replicate (d : Nat) : ∀ (k : Nat) (g : List Int) (ns : List Nat), cost d g (List.replicate k d ++ ns) = cost d (g.drop k) ns := by
  intro k
  induction k with
  | zero => intro g ns; simp
  | succ k ih =>
    intro g ns
    cases g with
    | nil => cases ns <;> simp [cost, List.replicate_succ]
    | cons f fs =>
      rw [List.replicate_succ, List.cons_append]
      simp only [cost, List.drop_succ_cons]
      rw [ih]; simp

theorem lens_spec (L : Nat) : ∀ (r d : Nat) (g : List Int) (o : Nat) (x : Int), d + r ≤ L + 1 → dp r g o = some x →
    (lens r d g o).length = g.length ∧ (∀ n ∈ lens r d g o, d ≤ n ∧ n < d + r ∧ n + o ≤ d + g.length) ∧ (lens r d g o).Pairwise (· ≤ ·) ∧ wsum L (lens r d g o) = o * 2 ^ (L - d) ∧ cost d g (lens r d g o) = x := by
  intro r
  induction r with
  | zero =>
    intro d g o x hd h
    by_cases hg : g = []
    · subst hg
      rw [dp_nil] at h
      by_cases ho : o = 0
      · subst ho; simp at h; subst h; simp [lens, wsum, cost]
      · rw [if_neg ho] at h; cases h
    · rw [dp_out hg (by omega)] at h; cases h
  | succ r ih =>
    intro d g o x hd h
    by_cases hg : g = []
    · subst hg
      rw [dp_nil] at h
      by_cases ho : o = 0
      · subst ho; simp at h; subst h; simp [lens, wsum, cost]
      · rw [if_neg ho] at h; cases h
    · obtain ⟨h1, h2, y, hy, hx⟩ := dp_some h hg
      have htk := take_le r g o
      rw [lens_cons hg]
      obtain ⟨k, hk⟩ : ∃ k, k = take r g o := ⟨_, rfl⟩
      rw [← hk] at hy hx htk ⊢
      obtain ⟨i1, i2, i3, i4, i5⟩ := ih (d + 1) (g.drop k) (2 * (o - k)) y (by omega) hy
      have hlen : (List.replicate k d ++ lens r (d + 1) (g.drop k) (2 * (o - k))).length = g.length := by
        rw [List.length_append, i1, List.length_replicate, List.length_drop]; omega
      refine ⟨hlen, ?_, ?_, ?_, ?_⟩
      · intro n hn
        rcases List.mem_append.1 hn with hn | hn
        · have := (List.mem_replicate.1 hn).2; omega
        · have h3 := i2 n hn
          rw [List.length_drop] at h3
          have : k < g.length := by
            have hl : 0 < (lens r (d + 1) (g.drop k) (2 * (o - k))).length := List.length_pos_of_mem hn
            rw [i1, List.length_drop] at hl; omega
          have hko : k < o := by
            rcases Nat.lt_or_ge k o with h | h
            · exact h
            · have e : 2 * (o - k) = 0 := by omega
              rw [e] at hy
              have hne : g.drop k ≠ [] := by intro e; have := congrArg List.length e; rw [List.length_drop] at this; simp at this; omega
              rw [dp_out hne (.inl rfl)] at hy; cases hy
          omega
      · rw [List.pairwise_append]
        refine ⟨List.pairwise_replicate.2 (.inr (Nat.le_refl _)), i3, fun a ha b hb => ?_⟩
        have := (List.mem_replicate.1 ha).2
        have := (i2 b hb).1
        omega
      · rw [wsum_append, wsum_replicate, i4]
        by_cases hL : d + 1 ≤ L
        · have e : 2 ^ (L - d) = 2 * 2 ^ (L - (d + 1)) := by
            rw [show L - d = (L - (d + 1)) + 1 by omega, Nat.pow_succ]; omega
          rw [e]
          generalize 2 ^ (L - (d + 1)) = P
          rw [Nat.mul_right_comm 2 (o - k) P, Nat.mul_comm (2 * P) (o - k), ← Nat.add_mul]
          congr 1; omega
        · have hr : r = 0 := by omega
          subst hr
          have ho : 2 * (o - k) = 0 := by
            by_cases hd0 : g.drop k = []
            · rw [hd0, dp_nil] at hy
              by_cases e : 2 * (o - k) = 0
              · exact e
              · rw [if_neg e] at hy; cases hy
            · rw [dp_out hd0 (by omega)] at hy; cases hy
          have : k = o := by omega
          rw [ho, Nat.zero_mul, Nat.add_zero, this]
      · rw [cost_replicate, cost_next d (g.drop k) _ (by rw [i1]), i5, hx]

/-- It can be: so many, no more than the places that the levels below have. -/
theorem dp_can : ∀ (r : Nat) (g : List Int) (o : Nat), 1 ≤ o → o ≤ g.length → g.length ≤ o * 2 ^ r → ∃ x, dp (r + 1) g o = some x := by
  intro r
  induction r with
  | zero =>
    intro g o h1 h2 h3
    have hl : g.length = o := by simp at h3; omega
    have hg : g ≠ [] := by intro e; subst e; simp at hl; omega
    have hc : cand 0 g o o = some (0 + (g.drop o).sum) := by
      unfold cand
      rw [List.drop_eq_nil_of_le (by omega), Nat.sub_self, Nat.mul_zero, dp_nil]; rfl
    obtain ⟨y, m, hb, _⟩ := best_some (Nat.le_refl o) hc
    exact ⟨y, by rw [dp_in hg h1 h2, hb]; rfl⟩
  | succ r ih =>
    intro g o h1 h2 h3
    have hg : g ≠ [] := by intro e; subst e; simp at h2; omega
    by_cases he : g.length = o
    · have hc : cand (r + 1) g o o = some (0 + (g.drop o).sum) := by
        unfold cand
        rw [List.drop_eq_nil_of_le (by omega), Nat.sub_self, Nat.mul_zero, dp_nil]; rfl
      obtain ⟨y, m, hb, _⟩ := best_some (Nat.le_refl o) hc
      exact ⟨y, by rw [dp_in hg h1 h2, hb]; rfl⟩
    · have hp : 1 ≤ 2 ^ r := Nat.pow_pos (by decide)
      have hp2 : 2 ^ (r + 1) = 2 * 2 ^ r := by rw [Nat.pow_succ]; omega
      obtain ⟨k, hk⟩ : ∃ k, k = 2 * o - g.length := ⟨_, rfl⟩
      have hko : k < o := by omega
      have hlen : (g.drop k).length = g.length - k := List.length_drop
      have hbig : g.length - k ≤ 2 * (o - k) * 2 ^ r := by
        by_cases hk0 : k = 0
        · subst hk0
          rw [hp2] at h3
          rw [Nat.sub_zero, Nat.sub_zero, Nat.mul_right_comm, Nat.mul_comm (2 * 2 ^ r) o]
          exact h3
        · have : 2 * (o - k) * 1 ≤ 2 * (o - k) * 2 ^ r := Nat.mul_le_mul_left _ hp
          omega
      obtain ⟨x, hx⟩ := ih (g.drop k) (2 * (o - k)) (by omega) (by omega) (by rw [hlen]; exact hbig)
      have hc : cand (r + 1) g o k = some (x + (g.drop k).sum) := by unfold cand; rw [hx]; rfl
      obtain ⟨y, m, hb, _⟩ := best_some (by omega : k ≤ o) hc
      exact ⟨y, by rw [dp_in hg h1 h2, hb]; rfl⟩

end Go.Proofs.Ytnakjencodicmaa.Dp

-- ---- Hp
/- Heaps that lie in lists: plain facts. No program in sight. -/
namespace Go.Proofs.Ytnakjencodicmaa.Hp
set_option maxRecDepth 100000
set_option linter.unusedSimpArgs false
set_option linter.unusedVariables false
set_option linter.unusedSectionVars false

/-- What a total order's Less says. -/
structure Ord {α : Type} (lt : α → α → Bool) : Prop where
  irr : ∀ a, lt a a = false
  tr : ∀ a b c, lt a b = true → lt b c = true → lt a c = true
  tot : ∀ a b, lt a b = false → lt b a = false → a = b

section
variable {α : Type} {lt : α → α → Bool} (O : Ord lt)
include O
theorem Ord.asym {a b : α} (h : lt a b = true) : lt b a = false := by
  cases e : lt b a with
  | false => rfl
  | true => have := O.tr _ _ _ h e; rw [O.irr] at this; cases this
/-- Not less, in a row. -/
theorem Ord.le {a b c : α} (h1 : lt b a = false) (h2 : lt c b = false) : lt c a = false := by
  cases e : lt c a with
  | false => rfl
  | true =>
    cases e2 : lt a b with
    | true => have := O.tr _ _ _ e e2; rw [this] at h2; cases h2
    | false => have := O.tot _ _ e2 h1; subst this; rw [e] at h2; cases h2
end

variable {α : Type} [Inhabited α]
def at_ (l : List α) (i : Nat) : α := l.getD i default
def swapL (l : List α) (i j : Nat) : List α := (l.set i (at_ l j)).set j (at_ l i)
theorem length_swapL (l : List α) (i j : Nat) : (swapL l i j).length = l.length := by simp [swapL]
theorem at_lt (l : List α) (i : Nat) (h : i < l.length) : at_ l i = l[i] := by simp [at_, List.getD_eq_getElem?_getD, h]
theorem at_swap (l : List α) (i j k : Nat) (hi : i < l.length) (hj : j < l.length) : at_ (swapL l i j) k = if k = j then at_ l i else if k = i then at_ l j else at_ l k := by
  unfold swapL
  by_cases h1 : k = j
  · subst h1; simp [at_, List.getD_eq_getElem?_getD, hj]
  · by_cases h2 : k = i
    · subst h2
      rw [if_neg h1, if_pos rfl]
      unfold at_
      simp only [List.getD_eq_getElem?_getD]
      rw [List.getElem?_set_ne (Ne.symm h1), List.getElem?_set_self hi]; rfl
    · rw [if_neg h1, if_neg h2]
      unfold at_
      simp only [List.getD_eq_getElem?_getD]
      rw [List.getElem?_set_ne (Ne.symm h1), List.getElem?_set_ne (Ne.symm h2)]

theorem perm_set_cons (l : List α) : ∀ (i : Nat) (x : α), i < l.length → (x :: l).Perm (at_ l i :: l.set i x) := by
  induction l with
  | nil => intro i x h; simp at h
  | cons a t ih =>
    intro i x h
    cases i with
    | zero => simp [at_]; exact List.Perm.swap _ _ _
    | succ i =>
      have h2 := ih i x (by simpa using h)
      have e : at_ (a :: t) (i + 1) = at_ t i := by simp [at_]
      rw [e, List.set_cons_succ]
      exact (List.Perm.swap a x t).trans ((h2.cons a).trans (List.Perm.swap _ _ _))
theorem perm_swap (l : List α) (i j : Nat) (hi : i < l.length) (hj : j < l.length) : (swapL l i j).Perm l := by
  by_cases hij : i = j
  · subst hij
    have : swapL l i i = l := by
      unfold swapL; rw [List.set_set]
      rw [at_lt l i hi]; exact List.set_getElem_self hi
    rw [this]
  · have h1 := perm_set_cons l i (at_ l j) hi
    have h2 := perm_set_cons (l.set i (at_ l j)) j (at_ l i) (by simpa using hj)
    have e : at_ (l.set i (at_ l j)) j = at_ l j := by
      unfold at_; simp only [List.getD_eq_getElem?_getD]; rw [List.getElem?_set_ne hij]
    rw [e] at h2
    have h3 := h1.trans h2
    exact ((List.perm_cons _).1 h3).symm

def par (i : Nat) : Nat := (i - 1) / 2
theorem par_lt {i : Nat} (h : 0 < i) : par i < i := by unfold par; omega

/-- The first n elements are a heap. -/
def Heap (lt : α → α → Bool) (l : List α) (n : Nat) : Prop := ∀ i, 0 < i → i < n → lt (at_ l i) (at_ l (par i)) = false
/-- .. but at j, on the way up. -/
def UpInv (lt : α → α → Bool) (l : List α) (n j : Nat) : Prop :=
  (∀ i, 0 < i → i < n → i ≠ j → lt (at_ l i) (at_ l (par i)) = false) ∧ ∀ i, 0 < j → 0 < i → i < n → par i = j → lt (at_ l i) (at_ l (par j)) = false
/-- .. but below j, on the way down. -/
def DownInv (lt : α → α → Bool) (l : List α) (n j : Nat) : Prop :=
  (∀ i, 0 < i → i < n → par i ≠ j → lt (at_ l i) (at_ l (par i)) = false) ∧ ∀ i, 0 < j → 0 < i → i < n → par i = j → lt (at_ l i) (at_ l (par j)) = false

section
variable {lt : α → α → Bool}
theorem up_done {l : List α} {n j : Nat} (h : UpInv lt l n j) (hj : j = 0 ∨ lt (at_ l j) (at_ l (par j)) = false) : Heap lt l n := fun i hi hn => by
  by_cases e : i = j
  · subst e
    rcases hj with hj | hj
    · omega
    · exact hj
  · exact h.1 i hi hn e
theorem up_step (O : Ord lt) {l : List α} {n j : Nat} (h : UpInv lt l n j) (hj : 0 < j) (hn : j < n) (hl : n ≤ l.length) (hlt : lt (at_ l j) (at_ l (par j)) = true) : UpInv lt (swapL l (par j) j) n (par j) := by
  have hp := par_lt hj
  have A := fun k => at_swap l (par j) j k (by omega) (by omega)
  constructor
  · intro i hi hin hip
    rw [A i, A (par i)]
    have hpi := par_lt hi
    by_cases e : i = j
    · subst e
      rw [if_pos rfl, if_neg (by omega), if_pos rfl]
      exact O.asym hlt
    · rw [if_neg e, if_neg hip]
      by_cases e1 : par i = j
      · rw [if_pos e1]; exact h.2 i hj hi hin e1
      · rw [if_neg e1]
        by_cases e2 : par i = par j
        · rw [if_pos e2]
          have := h.1 i hi hin e
          rw [e2] at this
          exact O.le (O.asym hlt) this
        · rw [if_neg e2]; exact h.1 i hi hin e
  · intro i hp0 hi hin hip
    have hpp := par_lt hp0
    rw [A i, A (par (par j)), if_neg (show par (par j) ≠ j by omega), if_neg (show par (par j) ≠ par j by omega)]
    have h1 := h.1 (par j) hp0 (by omega) (by omega)
    by_cases e : i = j
    · rw [if_pos e]; exact h1
    · have := par_lt hi
      rw [if_neg e, if_neg (by omega)]
      have h2 := h.1 i hi hin e
      rw [hip] at h2
      exact O.le h1 h2
theorem up_start {l : List α} {x : α} (h : Heap lt l l.length) : UpInv lt (l ++ [x]) (l.length + 1) l.length := by
  have A : ∀ k, k < l.length → at_ (l ++ [x]) k = at_ l k := fun k hk => by simp [at_, List.getD_eq_getElem?_getD, List.getElem?_append_left hk]
  constructor
  · intro i hi hin hne
    have := par_lt hi
    rw [A i (by omega), A (par i) (by omega)]
    exact h i hi (by omega)
  · intro i h0 hi hin hp
    have := par_lt hi
    omega

theorem down_done {l : List α} {n j : Nat} (h : DownInv lt l n j) (hc : ∀ i, 0 < i → i < n → par i = j → lt (at_ l i) (at_ l j) = false) : Heap lt l n := fun i hi hn => by
  by_cases e : par i = j
  · rw [e]; exact hc i hi hn e
  · exact h.1 i hi hn e
theorem down_step (O : Ord lt) {l : List α} {n i0 j : Nat} (h : DownInv lt l n i0) (hj : 0 < j) (hn : j < n) (hl : n ≤ l.length) (hp : par j = i0) (hlt : lt (at_ l j) (at_ l i0) = true) (hc : ∀ i, 0 < i → i < n → par i = i0 → lt (at_ l i) (at_ l j) = false) : DownInv lt (swapL l i0 j) n j := by
  have hpj := par_lt hj
  rw [hp] at hpj
  have A := fun k => at_swap l i0 j k (by omega) (by omega)
  constructor
  · intro i hi hin hpi
    have hpi2 := par_lt hi
    rw [A i, A (par i), if_neg hpi]
    by_cases e : i = j
    · subst e
      rw [if_pos rfl, if_pos hp]
      exact O.asym hlt
    · rw [if_neg e]
      by_cases e1 : par i = i0
      · rw [if_pos e1, if_neg (show i ≠ i0 by omega)]
        exact hc i hi hin e1
      · rw [if_neg e1]
        by_cases e2 : i = i0
        · rw [if_pos e2]
          subst e2
          exact h.2 j hi hj hn hp
        · rw [if_neg e2]; exact h.1 i hi hin e1
  · intro i h0 hi hin hpi
    have hpi2 := par_lt hi
    rw [hp, A i, A i0, if_neg (show i ≠ j by omega), if_neg (show i ≠ i0 by omega), if_neg (show i0 ≠ j by omega), if_pos rfl]
    have := h.1 i hi hin (by omega)
    rw [hpi] at this
    exact this

theorem heap_min (O : Ord lt) {l : List α} {n : Nat} (h : Heap lt l n) : ∀ i, i < n → lt (at_ l i) (at_ l 0) = false := by
  intro i
  induction i using Nat.strongRecOn with
  | _ i ih =>
    intro hi
    by_cases e : i = 0
    · subst e; exact O.irr _
    · have hp := par_lt (show 0 < i by omega)
      exact O.le (ih (par i) hp (by omega)) (h i (by omega) hi)

/-- Behind the first and the last one changed for one another. -/
theorem pop_start {l : List α} {n : Nat} (hl : l.length = n + 1) (h : Heap lt l (n + 1)) : DownInv lt (swapL l 0 n) n 0 := by
  have A := fun k => at_swap l 0 n k (by omega) (by omega)
  constructor
  · intro i hi hin hp
    have := par_lt hi
    rw [A i, A (par i), if_neg (by omega), if_neg (by omega), if_neg (by omega), if_neg hp]
    exact h i hi (by omega)
  · intro i h0; omega

/-- What is told by one pop: the least, and what is left. -/
theorem pop_end (O : Ord lt) {l l2 : List α} {n : Nat} (hl : l.length = n + 1) (h : Heap lt l (n + 1)) (hp : l2.Perm l) (hn : at_ l2 n = at_ l 0) :
    l.Perm (at_ l2 n :: l2.take n) ∧ ∀ y ∈ l2.take n, lt y (at_ l2 n) = false := by
  have hl2 : l2.length = n + 1 := hp.length_eq.trans hl
  have e : l2 = l2.take n ++ [at_ l2 n] := by
    have h1 : l2.take (n + 1) = l2 := List.take_of_length_le (by omega)
    rw [List.take_succ_eq_append_getElem (by omega)] at h1
    rw [at_lt l2 n (by omega)]; exact h1.symm
  refine ⟨hp.symm.trans ?_, ?_⟩
  · have : (l2.take n ++ [at_ l2 n]).Perm (at_ l2 n :: l2.take n) := List.perm_append_comm
    exact (List.Perm.of_eq e).trans this
  · intro y hy
    have hyl : y ∈ l := hp.mem_iff.1 (List.mem_of_mem_take hy)
    obtain ⟨i, hi, rfl⟩ := List.mem_iff_getElem.1 hyl
    rw [hn, ← at_lt l i hi]
    exact heap_min O h i (by omega)
theorem heap_take {l : List α} {n : Nat} (h : Heap lt l n) : Heap lt (l.take n) n := fun i hi hin => by
  have A : ∀ k, k < n → at_ (l.take n) k = at_ l k := fun k hk => by simp [at_, List.getD_eq_getElem?_getD, List.getElem?_take, hk]
  have := par_lt hi
  rw [A i hin, A (par i) (by omega)]
  exact h i hi hin
/-- The first of those that are in order is the least. -/
theorem pop_head (O : Ord lt) {rest h : List α} {x : α} (hs : rest.Pairwise fun a b => lt b a = false) (hp : rest.Perm (x :: h)) (hx : ∀ y ∈ h, lt y x = false) : ∃ rest', rest = x :: rest' ∧ rest'.Perm h := by
  cases rest with
  | nil => have := hp.length_eq; simp at this
  | cons r rest' =>
    have hr : r = x := by
      have h1 : r ∈ x :: h := hp.mem_iff.1 (by simp)
      rcases List.mem_cons.1 h1 with rfl | h1
      · rfl
      · have h2 := hx r h1
        have h3 : x ∈ r :: rest' := hp.mem_iff.2 (by simp)
        rcases List.mem_cons.1 h3 with rfl | h3
        · rfl
        · exact O.tot _ _ h2 ((List.pairwise_cons.1 hs).1 x h3)
    subst hr
    exact ⟨rest', rfl, (List.perm_cons _).1 hp⟩
end
end Go.Proofs.Ytnakjencodicmaa.Hp

-- ---- Ol
/- The places of numbers above nought, the greatest number first: plain facts. No program in sight. -/
namespace Go.Proofs.Ytnakjencodicmaa.Ol
set_option maxRecDepth 100000
set_option linter.unusedSimpArgs false
set_option linter.unusedVariables false
set_option linter.unusedSectionVars false
open Hp

/-- A place and its number: the greater number first, of two alike the lesser place. -/
def ltG (a b : Int × Int) : Bool := decide (b.2 < a.2 ∨ (a.2 = b.2 ∧ a.1 < b.1))
/-- A place and its number: the lesser number first, of two alike the lesser place. -/
def ltL (a b : Int × Int) : Bool := decide (a.2 < b.2 ∨ (a.2 = b.2 ∧ a.1 < b.1))
theorem oL : Ord ltL where
  irr a := by unfold ltL; rw [decide_eq_false]; omega
  tr a b c h1 h2 := by unfold ltL at *; rw [decide_eq_true_eq] at *; omega
  tot a b h1 h2 := by
    unfold ltL at *; rw [decide_eq_false_iff_not] at *
    obtain ⟨a1, a2⟩ := a; obtain ⟨b1, b2⟩ := b
    simp only at h1 h2
    have e1 : a2 = b2 := by omega
    have e2 : a1 = b1 := by omega
    rw [e1, e2]

/-- A place with its number. -/
def pr (f : List Int) (i : Nat) : Int × Int := ((i : Int), f.getD i 0)
/-- Those above nought, of the first n. -/
def posL (f : List Int) (n : Nat) : List Nat := (List.range n).filter fun i => decide (0 < f.getD i 0)
theorem posL_zero (f : List Int) : posL f 0 = [] := rfl
theorem posL_succ (f : List Int) (n : Nat) : posL f (n + 1) = posL f n ++ (if 0 < f.getD n 0 then [n] else []) := by
  unfold posL; rw [List.range_succ, List.filter_append]
  by_cases h : 0 < f.getD n 0
  · rw [if_pos h]; simp [h, -List.getD_eq_getElem?_getD]
  · rw [if_neg h]; simp [h, -List.getD_eq_getElem?_getD]
theorem mem_posL {f : List Int} {n i : Nat} : i ∈ posL f n ↔ i < n ∧ 0 < f.getD i 0 := by simp [posL, -List.getD_eq_getElem?_getD]
theorem length_posL (f : List Int) (n : Nat) : (posL f n).length ≤ n := by
  unfold posL; have := List.length_filter_le (fun i => decide (0 < f.getD i 0)) (List.range n); simpa using this
theorem nodup_posL (f : List Int) (n : Nat) : (posL f n).Nodup := List.nodup_range.filter _

/-- In order. -/
def Fall (f : List Int) (l : List Nat) : Prop := l.Pairwise fun a b => ltG (pr f b) (pr f a) = false

/-- i stands behind all that are no less than it. -/
def ins (f : List Int) (i : Nat) : List Nat → List Nat
  | [] => [i]
  | a :: t => if f.getD a 0 < f.getD i 0 then i :: a :: t else a :: ins f i t
theorem perm_ins (f : List Int) (i : Nat) (l : List Nat) : (ins f i l).Perm (i :: l) := by
  induction l with
  | nil => exact List.Perm.refl _
  | cons a t ih =>
    unfold ins
    split
    · exact List.Perm.refl _
    · exact (ih.cons a).trans (List.Perm.swap _ _ _)
theorem fall_ins {f : List Int} {i : Nat} {l : List Nat} (h : Fall f l) (hi : ∀ a ∈ l, a < i) : Fall f (ins f i l) := by
  induction l with
  | nil => simp [Fall, ins]
  | cons a t ih =>
    obtain ⟨h1, h2⟩ := List.pairwise_cons.1 h
    have hai := hi a (by simp)
    unfold ins
    split
    · rename_i hlt
      refine List.pairwise_cons.2 ⟨fun b hb => ?_, h⟩
      rcases List.mem_cons.1 hb with rfl | hb
      · unfold ltG pr; rw [decide_eq_false_iff_not]; simp only; omega
      · have := h1 b hb
        unfold ltG pr at *; rw [decide_eq_false_iff_not] at *; simp only at *; omega
    · rename_i hge
      refine List.pairwise_cons.2 ⟨fun b hb => ?_, ih h2 fun b hb => hi b (List.mem_cons_of_mem _ hb)⟩
      have hb2 := (perm_ins f i t).mem_iff.1 hb
      rcases List.mem_cons.1 hb2 with rfl | hb2
      · unfold ltG pr; rw [decide_eq_false_iff_not]; simp only; omega
      · exact h1 b hb2
/-- Where it is to stand, told from the end. -/
theorem ins_at {f : List Int} {i : Nat} {l : List Nat} (h : Fall f l) (k : Nat) (hk : k ≤ l.length) (h1 : ∀ a ∈ l.drop k, f.getD a 0 < f.getD i 0) (h2 : 0 < k → ¬ f.getD (l.getD (k - 1) 0) 0 < f.getD i 0) : ins f i l = l.take k ++ i :: l.drop k := by
  induction l generalizing k with
  | nil => simp at hk; subst hk; rfl
  | cons a t ih =>
    cases k with
    | zero =>
      have := h1 a (by simp)
      unfold ins
      rw [if_pos this]; simp
    | succ k =>
      obtain ⟨g1, g2⟩ := List.pairwise_cons.1 h
      have hge : ¬ f.getD a 0 < f.getD i 0 := by
        have h3 := h2 (by omega)
        cases k with
        | zero => simpa using h3
        | succ k =>
          have hkl : k < t.length := by simp at hk; omega
          have e : (a :: t).getD (k + 1 + 1 - 1) 0 = t[k] := by simp [List.getD_eq_getElem?_getD, hkl]
          rw [e] at h3
          have := g1 t[k] (List.getElem_mem _)
          unfold ltG pr at this; rw [decide_eq_false_iff_not] at this; simp only at this; omega
      unfold ins
      rw [if_neg hge]
      have := ih g2 k (by simpa using hk) (by simpa using h1) (fun hk0 => by
        have h3 := h2 (by omega)
        cases k with
        | zero => omega
        | succ k => simpa using h3)
      rw [this]; simp

/-- The document's: one by one. -/
def ordN (f : List Int) : Nat → List Nat
  | 0 => []
  | n + 1 => if 0 < f.getD n 0 then ins f n (ordN f n) else ordN f n
def ordL (f : List Int) : List Nat := ordN f f.length
theorem ordN_spec (f : List Int) (n : Nat) : Fall f (ordN f n) ∧ (ordN f n).Perm (posL f n) := by
  induction n with
  | zero => exact ⟨List.Pairwise.nil, List.Perm.refl _⟩
  | succ n ih =>
    obtain ⟨h1, h2⟩ := ih
    unfold ordN
    rw [posL_succ]
    by_cases h : 0 < f.getD n 0
    · rw [if_pos h, if_pos h]
      refine ⟨fall_ins h1 fun a ha => (mem_posL.1 (h2.mem_iff.1 ha)).1, ?_⟩
      exact (perm_ins f n _).trans ((h2.cons n).trans (List.perm_append_comm (l₁ := [n])))
    · rw [if_neg h, if_neg h, List.append_nil]; exact ⟨h1, h2⟩
theorem ordL_fall (f : List Int) : Fall f (ordL f) := (ordN_spec f _).1
theorem ordL_perm (f : List Int) : (ordL f).Perm (posL f f.length) := (ordN_spec f _).2
theorem mem_ordL {f : List Int} {i : Nat} : i ∈ ordL f ↔ i < f.length ∧ 0 < f.getD i 0 := by rw [(ordL_perm f).mem_iff, mem_posL]
theorem nodup_ordL (f : List Int) : (ordL f).Nodup := (ordL_perm f).nodup_iff.2 (nodup_posL f _)
theorem length_ordL (f : List Int) : (ordL f).length ≤ f.length := by rw [(ordL_perm f).length_eq]; exact length_posL f _
theorem length_ordN (f : List Int) (n : Nat) : (ordN f n).length ≤ n := by rw [(ordN_spec f n).2.length_eq]; exact length_posL f _
theorem mem_ordN {f : List Int} {n i : Nat} : i ∈ ordN f n ↔ i < n ∧ 0 < f.getD i 0 := by rw [(ordN_spec f n).2.mem_iff, mem_posL]

end Go.Proofs.Ytnakjencodicmaa.Ol

-- ---- Dl
/- The cheapest lengths by class: plain facts. No program in sight. -/
namespace Go.Proofs.Ytnakjencodicmaa.Dp
set_option maxRecDepth 100000
set_option linter.unusedSimpArgs false
set_option linter.unusedVariables false
open Ol

/-- Lengths at the places of classes. -/
def scat (out : List Int) : List Nat → List Nat → List Int
  | c :: cs, n :: ns => scat (out.set c (n : Int)) cs ns
  | _, _ => out
theorem scat_nil (out : List Int) (ns : List Nat) : scat out [] ns = out := by cases ns <;> rfl
theorem length_scat : ∀ (cs ns : List Nat) (out : List Int), (scat out cs ns).length = out.length := by
  intro cs
  induction cs with
  | nil => intro ns out; rw [scat_nil]
  | cons c cs ih =>
    intro ns out
    cases ns with
    | nil => rfl
    | cons n ns => simp only [scat]; rw [ih, List.length_set]
theorem scat_snoc : ∀ (cs ns : List Nat) (out : List Int) (c n : Nat), cs.length = ns.length → scat out (cs ++ [c]) (ns ++ [n]) = (scat out cs ns).set c (n : Int) := by
  intro cs
  induction cs with
  | nil => intro ns out c n h; cases ns with
    | nil => simp [scat]
    | cons a t => simp at h
  | cons a cs ih =>
    intro ns out c n h
    cases ns with
    | nil => simp at h
    | cons b ns => simp only [List.cons_append, scat]; exact ih ns _ c n (by simpa using h)
theorem scat_out : ∀ (cs ns : List Nat) (out : List Int) (c : Nat), c ∉ cs → (scat out cs ns).getD c 0 = out.getD c 0 := by
  intro cs
  induction cs with
  | nil => intro ns out c _; rw [scat_nil]
  | cons a cs ih =>
    intro ns out c hc
    cases ns with
    | nil => rfl
    | cons n ns =>
      simp only [scat]
      rw [ih ns _ c (fun h => hc (List.mem_cons_of_mem _ h))]
      have : a ≠ c := fun e => hc (by rw [e]; simp)
      simp only [List.getD_eq_getElem?_getD, List.getElem?_set_ne this]
theorem scat_at : ∀ (cs ns : List Nat) (out : List Int) (i : Nat), cs.Nodup → (∀ c ∈ cs, c < out.length) → i < cs.length → i < ns.length → (scat out cs ns).getD (cs.getD i 0) 0 = ((ns.getD i 0 : Nat) : Int) := by
  intro cs
  induction cs with
  | nil => intro ns out i _ _ h; simp at h
  | cons a cs ih =>
    intro ns out i hnd hm h1 h2
    cases ns with
    | nil => simp at h2
    | cons n ns =>
      obtain ⟨n1, n2⟩ := List.nodup_cons.1 hnd
      cases i with
      | zero =>
        simp only [scat, List.getD_cons_zero]
        rw [scat_out cs ns _ a n1]
        simp [List.getD_eq_getElem?_getD, List.getElem?_set_self (hm a (by simp))]
      | succ i =>
        simp only [scat, List.getD_cons_succ]
        exact ih ns _ i n2 (fun c hc => by rw [List.length_set]; exact hm c (List.mem_cons_of_mem _ hc)) (by simpa using h1) (by simpa using h2)

theorem sum_set (W : Int → Nat) : ∀ (l : List Int) (i : Nat) (v : Int), i < l.length → ((l.set i v).map W).sum + W (l.getD i 0) = (l.map W).sum + W v := by
  intro l
  induction l with
  | nil => intro i v h; simp at h
  | cons a t ih =>
    intro i v h
    cases i with
    | zero => simp; omega
    | succ i =>
      have := ih i v (by simpa using h)
      simp only [List.set_cons_succ, List.map_cons, List.sum_cons, List.getD_cons_succ]
      omega
theorem sum_scat (W : Int → Nat) (h0 : W 0 = 0) : ∀ (cs ns : List Nat) (out : List Int), cs.Nodup → (∀ c ∈ cs, c < out.length ∧ out.getD c 0 = 0) → cs.length = ns.length →
    ((scat out cs ns).map W).sum = (out.map W).sum + (ns.map fun n : Nat => W (n : Int)).sum := by
  intro cs
  induction cs with
  | nil => intro ns out _ _ h; cases ns with
    | nil => simp [scat]
    | cons a t => simp at h
  | cons a cs ih =>
    intro ns out hnd hm h
    cases ns with
    | nil => simp at h
    | cons n ns =>
      obtain ⟨n1, n2⟩ := List.nodup_cons.1 hnd
      obtain ⟨h1, h2⟩ := hm a (by simp)
      have hs := sum_set W out a (n : Int) h1
      rw [h2, h0] at hs
      simp only [scat, List.map_cons, List.sum_cons]
      rw [ih ns _ n2 (fun c hc => ?_) (by simpa using h)]
      · omega
      · obtain ⟨g1, g2⟩ := hm c (List.mem_cons_of_mem _ hc)
        have : a ≠ c := fun e => n1 (by rw [e]; exact hc)
        rw [List.length_set]
        refine ⟨g1, ?_⟩
        simp only [List.getD_eq_getElem?_getD, List.getElem?_set_ne this] at g2 ⊢
        exact g2

/-- The frequencies in order. -/
def ofs (f : List Int) : List Int := (ordL f).map fun i => f.getD i 0
theorem length_ofs (f : List Int) : (ofs f).length = (ordL f).length := by simp [ofs]
theorem ofs_at (f : List Int) (i : Nat) (h : i < (ordL f).length) : (ofs f).getD i 0 = f.getD ((ordL f).getD i 0) 0 := by
  unfold ofs; simp [List.getD_eq_getElem?_getD, h]
theorem ofs_fall (f : List Int) : (ofs f).Pairwise (· ≥ ·) := by
  unfold ofs
  rw [List.pairwise_map]
  refine (ordL_fall f).imp fun {a b} h => ?_
  unfold ltG pr at h; rw [decide_eq_false_iff_not] at h; simp only at h
  show f.getD b 0 ≤ f.getD a 0
  omega

/-- The lengths in order. -/
def lensOf (f : List Int) (m : Nat) : List Nat := if (ordL f).length = 1 then [1] else lens m 1 (ofs f) 2
/-- The document's lengths. -/
def lenL (f : List Int) (m : Nat) : List Int := scat (List.replicate 65 0) (ordL f) (lensOf f m)
theorem length_lenL (f : List Int) (m : Nat) : (lenL f m).length = 65 := by unfold lenL; rw [length_scat]; simp

/-- What may be asked. -/
structure Fq (f : List Int) (m : Nat) : Prop where
  len : f.length = 65
  each : ∀ x ∈ f, 0 ≤ x ∧ x ≤ 16777216
  lo : 7 ≤ m
  hi : m ≤ 15

theorem Fq.can {f : List Int} {m : Nat} (h : Fq f m) (h2 : 2 ≤ (ordL f).length) : ∃ x, dp m (ofs f) 2 = some x := by
  obtain ⟨r, rfl⟩ : ∃ r, m = r + 1 := ⟨m - 1, by have := h.lo; omega⟩
  have hl := length_ordL f
  refine dp_can r (ofs f) 2 (by decide) (by rw [length_ofs]; exact h2) ?_
  rw [length_ofs]
  have : 2 ^ 6 ≤ 2 ^ r := Nat.pow_le_pow_right (by decide) (by have := h.lo; omega)
  have e := h.len
  omega
theorem Fq.spec {f : List Int} {m : Nat} (h : Fq f m) :
    (lensOf f m).length = (ordL f).length ∧ (∀ n ∈ lensOf f m, 1 ≤ n ∧ n ≤ m) ∧ (lensOf f m).Pairwise (· ≤ ·) ∧ (2 ≤ (ordL f).length → wsum 15 (lensOf f m) = 32768 ∧ dp m (ofs f) 2 = some (cost 1 (ofs f) (lensOf f m))) := by
  by_cases h1 : (ordL f).length = 1
  · have e : lensOf f m = [1] := by unfold lensOf; rw [if_pos h1]
    rw [e]
    refine ⟨by simp [h1], fun n hn => ?_, by simp, fun h => by omega⟩
    simp at hn; subst hn; have := h.lo; omega
  · have e : lensOf f m = lens m 1 (ofs f) 2 := by unfold lensOf; rw [if_neg h1]
    rw [e]
    by_cases h0 : (ordL f).length = 0
    · have : ofs f = [] := List.length_eq_zero_iff.1 (by rw [length_ofs]; exact h0)
      rw [this, lens_nil]
      exact ⟨by simp [h0], fun n hn => by (cases hn), List.Pairwise.nil, fun h => by omega⟩
    · obtain ⟨x, hx⟩ := h.can (by omega)
      obtain ⟨s1, s2, s3, s4, s5⟩ := lens_spec 15 m 1 (ofs f) 2 x (by have := h.hi; omega) hx
      refine ⟨by rw [s1, length_ofs], fun n hn => by have := s2 n hn; omega, s3, fun _ => ⟨by rw [s4], by rw [hx, s5]⟩⟩

theorem getD_rep (n c : Nat) : (List.replicate n (0 : Int)).getD c 0 = 0 := by
  simp only [List.getD_eq_getElem?_getD, List.getElem?_replicate]; split <;> rfl
theorem Fq.at {f : List Int} {m : Nat} (h : Fq f m) (i : Nat) (hi : i < (ordL f).length) : (lenL f m).getD ((ordL f).getD i 0) 0 = (((lensOf f m).getD i 0 : Nat) : Int) := by
  unfold lenL
  refine scat_at _ _ _ i (nodup_ordL f) (fun c hc => ?_) hi (by rw [h.spec.1]; exact hi)
  have := (mem_ordL.1 hc).1
  rw [h.len] at this
  simpa using this
theorem lenL_out {f : List Int} {m : Nat} (c : Nat) (hc : c ∉ ordL f) : (lenL f m).getD c 0 = 0 := by
  unfold lenL
  rw [scat_out _ _ _ c hc, getD_rep]
theorem idx_of {l : List Nat} {c : Nat} (h : c ∈ l) : ∃ i, i < l.length ∧ l.getD i 0 = c := by
  obtain ⟨i, hi, e⟩ := List.getElem_of_mem h
  exact ⟨i, hi, by simp [List.getD_eq_getElem?_getD, hi, e]⟩
theorem Fq.pos {f : List Int} {m : Nat} (h : Fq f m) (c : Nat) : (0 < (lenL f m).getD c 0 ↔ 0 < f.getD c 0) ∧ 0 ≤ (lenL f m).getD c 0 ∧ (lenL f m).getD c 0 ≤ m := by
  by_cases hc : c ∈ ordL f
  · obtain ⟨i, hi, e⟩ := idx_of hc
    have h1 := h.at i hi
    rw [e] at h1
    have h2 := h.spec.2.1 ((lensOf f m).getD i 0) (by
      have : i < (lensOf f m).length := by rw [h.spec.1]; exact hi
      simp [List.getD_eq_getElem?_getD, this])
    have h3 := (mem_ordL.1 hc).2
    rw [h1]
    exact ⟨⟨fun _ => h3, fun _ => by omega⟩, by omega, by omega⟩
  · rw [lenL_out c hc]
    refine ⟨⟨fun h => by omega, fun h3 => ?_⟩, by omega, by omega⟩
    have hcl : c < f.length := by
      rcases Nat.lt_or_ge c f.length with h | h
      · exact h
      · rw [List.getD_eq_getElem?_getD, List.getElem?_eq_none h] at h3; simp at h3
    exact absurd (mem_ordL.2 ⟨hcl, h3⟩) hc
/-- More often, no longer. -/
theorem Fq.mono {f : List Int} {m : Nat} (h : Fq f m) (a b : Nat) (hab : f.getD a 0 > f.getD b 0) (hb : f.getD b 0 > 0) : (lenL f m).getD a 0 ≤ (lenL f m).getD b 0 := by
  have inn : ∀ c, 0 < f.getD c 0 → c ∈ ordL f := fun c h3 => by
    have hcl : c < f.length := by
      rcases Nat.lt_or_ge c f.length with h | h
      · exact h
      · rw [List.getD_eq_getElem?_getD, List.getElem?_eq_none h] at h3; simp at h3
    exact mem_ordL.2 ⟨hcl, h3⟩
  obtain ⟨i, hi, ei⟩ := idx_of (inn a (by omega))
  obtain ⟨j, hj, ej⟩ := idx_of (inn b hb)
  have h1 := h.at i hi
  have h2 := h.at j hj
  rw [ei] at h1; rw [ej] at h2; rw [h1, h2]
  have hij : i < j := by
    rcases Nat.lt_trichotomy i j with hlt | heq | hgt
    · exact hlt
    · subst heq; rw [ei] at ej; rw [ej] at hab; omega
    · have := List.pairwise_iff_getElem.1 (ofs_fall f) j i (by rw [length_ofs]; exact hj) (by rw [length_ofs]; exact hi) hgt
      have e1 : (ofs f)[j]'(by rw [length_ofs]; exact hj) = f.getD b 0 := by
        have := ofs_at f j hj; rw [ej] at this; rw [← this]; simp [List.getD_eq_getElem?_getD, length_ofs, hj]
      have e2 : (ofs f)[i]'(by rw [length_ofs]; exact hi) = f.getD a 0 := by
        have := ofs_at f i hi; rw [ei] at this; rw [← this]; simp [List.getD_eq_getElem?_getD, length_ofs, hi]
      rw [e1, e2] at this
      have : f.getD a 0 ≤ f.getD b 0 := this
      omega
  have hs := h.spec
  have hl1 : i < (lensOf f m).length := by rw [hs.1]; exact hi
  have hl2 : j < (lensOf f m).length := by rw [hs.1]; exact hj
  have := List.pairwise_iff_getElem.1 hs.2.2.1 i j hl1 hl2 hij
  simp only [List.getD_eq_getElem?_getD, List.getElem?_eq_getElem hl1, List.getElem?_eq_getElem hl2, Option.getD_some]
  omega

/-- Whether lengths may be. -/
def ks (l : List Int) : Nat := (l.map fun n => if 0 < n then 2 ^ (15 - n.toNat) else 0).sum
def sm (l : List Int) : Nat := (l.map fun n => if 0 < n then 1 else 0).sum
def mayL (l : List Int) : Bool := decide (l.length = 65 ∧ (∀ n ∈ l, 0 ≤ n ∧ n ≤ 15) ∧ (sm l = 0 ∨ ks l = 32768 ∨ (sm l = 1 ∧ ks l = 16384)))
theorem sum_rep (W : Int → Nat) (h : W 0 = 0) (n : Nat) : ((List.replicate n (0 : Int)).map W).sum = 0 := by simp [h]
theorem Fq.sums {f : List Int} {m : Nat} (h : Fq f m) : ks (lenL f m) = wsum 15 (lensOf f m) ∧ sm (lenL f m) = (ordL f).length := by
  have hc : ∀ c ∈ ordL f, c < (List.replicate 65 (0 : Int)).length ∧ (List.replicate 65 (0 : Int)).getD c 0 = 0 := fun c hc => by
    have := (mem_ordL.1 hc).1
    rw [h.len] at this
    exact ⟨by simpa using this, getD_rep _ _⟩
  have hs := h.spec
  constructor
  · unfold ks lenL
    rw [sum_scat _ (by simp) _ _ _ (nodup_ordL f) hc hs.1.symm, sum_rep _ (by simp), Nat.zero_add]
    unfold wsum
    congr 1
    refine List.map_congr_left fun n hn => ?_
    have := (hs.2.1 n hn).1
    rw [if_pos (by omega)]; simp
  · unfold sm lenL
    rw [sum_scat _ (by simp) _ _ _ (nodup_ordL f) hc hs.1.symm, sum_rep _ (by simp), Nat.zero_add]
    have e : ((lensOf f m).map fun n : Nat => if 0 < (n : Int) then 1 else 0) = (lensOf f m).map fun _ => 1 := by
      refine List.map_congr_left fun n hn => ?_
      have := (hs.2.1 n hn).1
      rw [if_pos (by omega)]
    rw [e, ← hs.1, List.map_const', List.sum_replicate_nat, Nat.mul_one]
theorem Fq.may {f : List Int} {m : Nat} (h : Fq f m) : mayL (lenL f m) = true := by
  unfold mayL
  rw [decide_eq_true_eq]
  refine ⟨length_lenL f m, fun n hn => ?_, ?_⟩
  · obtain ⟨i, hi, e⟩ := List.getElem_of_mem hn
    have := (h.pos i).2
    have e2 : (lenL f m).getD i 0 = n := by simp [List.getD_eq_getElem?_getD, hi, e]
    rw [e2] at this
    have := h.hi
    omega
  · obtain ⟨h1, h2⟩ := h.sums
    by_cases h0 : (ordL f).length = 0
    · left; omega
    · by_cases h3 : (ordL f).length = 1
      · right; right
        refine ⟨by omega, ?_⟩
        rw [h1]
        have e : lensOf f m = [1] := by unfold lensOf; rw [if_pos h3]
        rw [e]; rfl
      · right; left
        rw [h1]; exact (h.spec.2.2.2 (by omega)).1
end Go.Proofs.Ytnakjencodicmaa.Dp

-- ---- Cd
/- The codes of lengths: plain facts. No program in sight. -/
namespace Go.Proofs.Ytnakjencodicmaa.Cd
set_option maxRecDepth 100000
set_option linter.unusedSimpArgs false
set_option linter.unusedVariables false
open Ol Dp

/-- The places with a length, the shortest first, of two alike the lesser place. -/
def ordS (f : List Int) : List Nat := (List.range' 1 15).flatMap fun n : Nat => (List.range f.length).filter fun i => f.getD i 0 == (n : Int)
theorem mem_ordS {f : List Int} {i : Nat} : i ∈ ordS f ↔ i < f.length ∧ 1 ≤ f.getD i 0 ∧ f.getD i 0 ≤ 15 := by
  unfold ordS
  simp only [List.mem_flatMap, List.mem_range'_1, List.mem_filter, List.mem_range, beq_iff_eq]
  constructor
  · rintro ⟨n, h1, h2, h3⟩; omega
  · rintro ⟨h1, h2, h3⟩; exact ⟨(f.getD i 0).toNat, by omega, h1, by omega⟩
theorem sorted_ordS (f : List Int) : (ordS f).Pairwise fun a b => f.getD a 0 < f.getD b 0 ∨ (f.getD a 0 = f.getD b 0 ∧ a < b) := by
  unfold ordS
  rw [List.pairwise_flatMap]
  refine ⟨fun n _ => ?_, ?_⟩
  · refine List.Pairwise.imp_of_mem (fun {a b} ha hb h => ?_) (List.pairwise_lt_range.filter _)
    have h1 := (List.mem_filter.1 ha).2
    have h2 := (List.mem_filter.1 hb).2
    rw [beq_iff_eq] at h1 h2
    exact .inr ⟨by rw [h1, h2], h⟩
  · refine (List.pairwise_lt_range' (s := 1) (n := 15)).imp fun {m n} hmn a ha b hb => ?_
    have h1 := (List.mem_filter.1 ha).2
    have h2 := (List.mem_filter.1 hb).2
    rw [beq_iff_eq] at h1 h2
    left; rw [h1, h2]; omega
theorem nodup_ordS (f : List Int) : (ordS f).Nodup := (sorted_ordS f).imp fun {a b} h e => by
  subst e; omega
theorem perm_ordS (f : List Int) (h : ∀ x ∈ f, x ≤ 15) : (ordS f).Perm (posL f f.length) := by
  rw [List.perm_ext_iff_of_nodup (nodup_ordS f) (nodup_posL f _)]
  intro i
  rw [mem_ordS, mem_posL]
  constructor
  · rintro ⟨h1, h2, h3⟩; exact ⟨h1, by omega⟩
  · rintro ⟨h1, h2⟩
    have := h (f.getD i 0) (by simp [List.getD_eq_getElem?_getD, h1])
    exact ⟨h1, by omega, this⟩
theorem pairs_ordS (f : List Int) : ((ordS f).map (pr f)).Pairwise fun a b => ltL b a = false := by
  rw [List.pairwise_map]
  refine (sorted_ordS f).imp fun {a b} h => ?_
  unfold ltL pr; rw [decide_eq_false_iff_not]; simp only; omega
theorem length_ordS (f : List Int) (h : ∀ x ∈ f, x ≤ 15) : (ordS f).length ≤ f.length := by rw [(perm_ordS f h).length_eq]; exact length_posL f _

/-- The next code: its bits, how many. -/
def nx (st : Nat × Nat) (n : Nat) : Nat × Nat := if st.2 = 0 then (0, n) else ((st.1 + 1) * 2 ^ (n - st.2), n)
def cstep (f : List Int) (s : List (Int × Int) × (Nat × Nat)) (c : Nat) : List (Int × Int) × (Nat × Nat) :=
  (s.1.set c (((nx s.2 (f.getD c 0).toNat).1 : Int), ((nx s.2 (f.getD c 0).toNat).2 : Int)), nx s.2 (f.getD c 0).toNat)
def cst (f : List Int) (done : List Nat) : List (Int × Int) × (Nat × Nat) := done.foldl (cstep f) (List.replicate 65 (0, 0), (0, 0))
theorem cst_snoc (f : List Int) (done : List Nat) (c : Nat) : cst f (done ++ [c]) = cstep f (cst f done) c := by unfold cst; rw [List.foldl_append]; rfl
theorem length_cst (f : List Int) (done : List Nat) : (cst f done).1.length = 65 := by
  unfold cst
  have : ∀ (d : List Nat) (s : List (Int × Int) × (Nat × Nat)), (d.foldl (cstep f) s).1.length = s.1.length := by
    intro d
    induction d with
    | nil => intro s; rfl
    | cons c t ih => intro s; rw [List.foldl_cons, ih]; simp [cstep]
  rw [this]; simp
/-- The document's codes. -/
def codeL (f : List Int) : List (Int × Int) := (cst f (ordS f)).1

/-- What the codes so far fill. -/
def kd (f : List Int) (l : List Nat) : Nat := (l.map fun c => 2 ^ (15 - (f.getD c 0).toNat)).sum
theorem kd_append (f : List Int) (a b : List Nat) : kd f (a ++ b) = kd f a + kd f b := by simp [kd]
theorem kd_perm (f : List Int) {a b : List Nat} (h : a.Perm b) : kd f a = kd f b := by unfold kd; exact (h.map _).sum_nat
def Inv (st : Nat × Nat) (K : Nat) : Prop := (st.2 = 0 ∧ K = 0) ∨ (1 ≤ st.2 ∧ st.2 ≤ 15 ∧ (st.1 + 1) * 2 ^ (15 - st.2) = K)
theorem inv_nx {st : Nat × Nat} {K n : Nat} (h : Inv st K) (h1 : 1 ≤ n) (h2 : n ≤ 15) (h3 : st.2 ≤ n) : Inv (nx st n) (K + 2 ^ (15 - n)) := by
  unfold nx
  rcases h with ⟨h0, hK⟩ | ⟨a, b, hK⟩
  · rw [if_pos h0, hK]
    exact .inr ⟨h1, h2, by simp⟩
  · rw [if_neg (by omega)]
    refine .inr ⟨h1, h2, ?_⟩
    show ((st.1 + 1) * 2 ^ (n - st.2) + 1) * 2 ^ (15 - n) = _
    rw [Nat.add_mul, Nat.one_mul, Nat.mul_assoc, ← Nat.pow_add, show n - st.2 + (15 - n) = 15 - st.2 by omega, hK]
theorem cst_inv (f : List Int) : ∀ (done : List Nat), (done.Pairwise fun a b => f.getD a 0 ≤ f.getD b 0) → (∀ c ∈ done, 1 ≤ f.getD c 0 ∧ f.getD c 0 ≤ 15) →
    Inv (cst f done).2 (kd f done) ∧ (∀ c, (∀ a ∈ done, f.getD a 0 ≤ c) → ((cst f done).2.2 : Int) ≤ max c 0) := by
  intro done
  have key : ∀ (d : List Nat) (s : List (Int × Int) × (Nat × Nat)) (K : Nat), Inv s.2 K → (d.Pairwise fun a b => f.getD a 0 ≤ f.getD b 0) → (∀ c ∈ d, 1 ≤ f.getD c 0 ∧ f.getD c 0 ≤ 15) → (∀ c ∈ d, (s.2.2 : Int) ≤ f.getD c 0) →
      Inv (d.foldl (cstep f) s).2 (K + kd f d) ∧ (∀ c, (s.2.2 : Int) ≤ c → (∀ a ∈ d, f.getD a 0 ≤ c) → ((d.foldl (cstep f) s).2.2 : Int) ≤ c) := by
    intro d
    induction d with
    | nil => intro s K h _ _ _; exact ⟨by simpa [kd] using h, fun c hc _ => hc⟩
    | cons a t ih =>
      intro s K h hs hm hl
      obtain ⟨s1, s2⟩ := List.pairwise_cons.1 hs
      have ha := hm a (by simp)
      have hla := hl a (by simp)
      have h2 := inv_nx (n := (f.getD a 0).toNat) h (by omega) (by omega) (by omega)
      have hn2 : (nx s.2 (f.getD a 0).toNat).2 = (f.getD a 0).toNat := by unfold nx; split <;> rfl
      obtain ⟨i1, i2⟩ := ih (cstep f s a) (K + 2 ^ (15 - (f.getD a 0).toNat)) h2 s2 (fun c hc => hm c (List.mem_cons_of_mem _ hc)) (fun c hc => by
        have := s1 c hc
        show ((nx s.2 (f.getD a 0).toNat).2 : Int) ≤ _
        rw [hn2]; omega)
      refine ⟨?_, fun c hc hall => ?_⟩
      · rw [List.foldl_cons]
        have e : K + kd f (a :: t) = K + 2 ^ (15 - (f.getD a 0).toNat) + kd f t := by unfold kd; rw [List.map_cons, List.sum_cons, Nat.add_assoc]
        rw [e]; exact i1
      · rw [List.foldl_cons]
        refine i2 c ?_ (fun b hb => hall b (List.mem_cons_of_mem _ hb))
        show ((nx s.2 (f.getD a 0).toNat).2 : Int) ≤ _
        rw [hn2]; have := hall a (by simp); omega
  intro hs hm
  have h := key done (List.replicate 65 (0, 0), (0, 0)) 0 (.inl ⟨rfl, rfl⟩) hs hm (fun c hc => by have := hm c hc; show (0 : Int) ≤ _; omega)
  rw [Nat.zero_add] at h
  refine ⟨h.1, fun c hc => ?_⟩
  have h3 := h.2 (max c 0) (by show (0 : Int) ≤ _; omega) (fun a ha => by have := hc a ha; omega)
  exact h3
theorem kd_pos (f : List Int) : ∀ n, n ≤ f.length → kd f (posL f n) = ((f.take n).map fun x => if 0 < x then 2 ^ (15 - x.toNat) else 0).sum := by
  intro n
  induction n with
  | zero => intro _; rw [posL_zero]; simp [kd]
  | succ n ih =>
    intro hn
    have e : f.take (n + 1) = f.take n ++ [f.getD n 0] := by rw [List.take_succ_eq_append_getElem (by omega)]; simp [List.getD_eq_getElem?_getD, show n < f.length by omega]
    rw [posL_succ, kd_append, ih (by omega), e, List.map_append, List.sum_append]
    congr 1
    by_cases h : 0 < f.getD n 0
    · rw [if_pos h]; simp only [kd, List.map_cons, List.map_nil, List.sum_cons, List.sum_nil]; rw [if_pos h]
    · rw [if_neg h]; simp only [kd, List.map_cons, List.map_nil, List.sum_cons, List.sum_nil]; rw [if_neg h]; rfl
theorem kd_all (f : List Int) (h : ∀ x ∈ f, x ≤ 15) : kd f (ordS f) = ks f := by
  rw [kd_perm f (perm_ordS f h), kd_pos f f.length (Nat.le_refl _), List.take_length]; rfl
theorem sm_pos : ∀ (f : List Int) (x : Int), x ∈ f → 0 < x → 1 ≤ sm f := by
  intro f
  induction f with
  | nil => intro x h; cases h
  | cons a t ih =>
    intro x h hp
    unfold sm
    rw [List.map_cons, List.sum_cons]
    rcases List.mem_cons.1 h with rfl | h
    · rw [if_pos hp]; omega
    · have := ih x h hp; unfold sm at this; omega
/-- Lengths that may be fill no more than there is. -/
theorem ks_le {f : List Int} (h : mayL f = true) : ks f ≤ 32768 := by
  unfold mayL at h
  rw [decide_eq_true_eq] at h
  rcases h.2.2 with h1 | h1 | h1
  · have : ks f = 0 := by
      have h0 : ∀ x ∈ f, ¬ 0 < x := by
        intro x hx hp
        have hm := sm_pos f x hx hp
        omega
      unfold ks
      have e : f.map (fun n => if 0 < n then 2 ^ (15 - n.toNat) else 0) = f.map fun _ => 0 := List.map_congr_left fun x hx => by rw [if_neg (h0 x hx)]
      rw [e, List.map_const', List.sum_replicate_nat, Nat.mul_zero]
    omega
  · omega
  · omega
end Go.Proofs.Ytnakjencodicmaa.Cd

-- ---- Owk
/- Rows of elements of several cells that a call makes for itself. No program in sight. -/
namespace Go.Proofs.Ytnakjencodicmaa.Own
set_option maxRecDepth 100000
set_option linter.unusedSimpArgs false
set_option linter.unusedVariables false
open Go Go.RowKit

/-- v is a slice of n elements of sz cells each, alone in a block of its own, or nil. -/
def OwnK (w : World) (e : TypeId) (sz : Nat) (v : Value) (n : Nat) (cs : List Value) : Prop := w.ownsRow 0 e sz v n cs
theorem OwnK.keep {w w' : World} {e : TypeId} {sz n : Nat} {v : Value} {cs : List Value} (h : OwnK w e sz v n cs) (hk : ∀ g, v.ownBlock = some g → g < w.heap.size → w'.heap[g]? = w.heap[g]?) : OwnK w' e sz v n cs := by
  refine ⟨h.1, ?_⟩
  rcases h.2 with hn | ⟨g, cap, cur, rfl, hb, hgg, rest⟩
  · exact .inl hn
  · exact .inr ⟨g, cap, cur, rfl, hb, (hk g rfl (lt_of_some hgg)).trans hgg, rest⟩
theorem OwnK.chg {w w' : World} {S : Nat → Prop} {e : TypeId} {sz n : Nat} {v : Value} {cs : List Value} (h : OwnK w e sz v n cs) (hc : Chg S w w') (hn : ∀ g, v.ownBlock = some g → ¬ S g) : OwnK w' e sz v n cs :=
  h.keep fun g hg hl => hc.block g hl (hn g hg)
theorem OwnK.later {w w' : World} {e : TypeId} {sz n : Nat} {v : Value} {cs : List Value} (h : OwnK w e sz v n cs) (hb : Below w.heap.size w w') : OwnK w' e sz v n cs := h.keep fun g _ hl => hb.block g hl
theorem OwnK.setOther {w : World} {e : TypeId} {sz n : Nat} {v : Value} {cs : List Value} (h : OwnK w e sz v n cs) {a : Addr} (hn : v.ownBlock ≠ some a.block) (u : Value) : OwnK (w.setCell a u) e sz v n cs :=
  h.keep fun g hg _ => Below.heap_setCell w a u g fun e => hn (by rw [hg, e])
theorem OwnK.lt {w : World} {e : TypeId} {sz n : Nat} {v : Value} {cs : List Value} (h : OwnK w e sz v n cs) : ∀ g, v.ownBlock = some g → g < w.heap.size := fun g hg => (World.ownsRow.lt h g hg).2
theorem OwnK.blk {w : World} {e : TypeId} {sz n : Nat} {v : Value} {cs : List Value} (h : OwnK w e sz v n cs) : ∀ g, v.ownBlock = some g → ∃ cur, Blk w g cur e := by
  intro g hg
  rcases h.2 with ⟨rfl, _⟩ | ⟨g', cap, cur, rfl, _, hb, _⟩
  · simp [Value.ownBlock] at hg
  · simp [Value.ownBlock] at hg; subst hg; exact ⟨cur, hb⟩
theorem OwnK.ne {w : World} {e t : TypeId} {sz n : Nat} {v : Value} {cs : List Value} {p : Nat} {ds : Array Value} (h : OwnK w e sz v n cs) (k : Blk w p ds t) (hne : e ≠ t) : v.ownBlock ≠ some p := by
  intro hg
  obtain ⟨cur, hb⟩ := h.blk p hg
  exact hb.ne k hne rfl
theorem OwnK.slice {w : World} {e : TypeId} {sz n : Nat} {v : Value} {cs : List Value} (h : OwnK w e sz v n cs) : ∃ a cap, v = .slice a n cap ∧ n ≤ cap ∧ cap ≤ maxLen ∧ (0 < n → ∃ g, a = some ⟨g, 0, none⟩) := by
  rcases h.2 with ⟨rfl, rfl⟩ | ⟨g, cap, cur, rfl, _, _, hc, hm, _⟩
  · exact ⟨none, 0, rfl, Nat.le_refl _, by simp [maxLen], fun h => absurd h (by omega)⟩
  · exact ⟨_, cap, rfl, hc, hm, fun _ => ⟨g, rfl⟩⟩
theorem OwnK.cell {w : World} {e : TypeId} {sz g n cap : Nat} {cs : List Value} (h : OwnK w e sz (.slice (some ⟨g, 0, none⟩) n cap) n cs) {j : Nat} {u : Value} (hu : cs[j]? = some u) : w.cell? ⟨g, j, none⟩ = some u := by
  have hj : j < cs.length := (List.getElem?_eq_some_iff.1 hu).1
  rw [World.ownsRow.cellAt h j (by have := h.1; omega), hu]
theorem OwnK.nil (w : World) (e : TypeId) (sz : Nat) : OwnK w e sz (.slice none 0 0) 0 [] := World.ownsRow_nil w 0 e sz
theorem OwnK.free {w : World} {e : TypeId} {sz g n cap : Nat} {cs : List Value} (h : OwnK w e sz (.slice (some ⟨g, 0, none⟩) n cap) n cs) (j : Nat) : w.frozen? ⟨g, j, none⟩ = false := by
  obtain ⟨cur, hb⟩ := h.blk g rfl
  exact hb.free j
theorem OwnK.store {w : World} {e : TypeId} {sz g n cap : Nat} {cs : List Value} (h : OwnK w e sz (.slice (some ⟨g, 0, none⟩) n cap) n cs) (j : Nat) (u : Value) :
    OwnK (w.setCell ⟨g, j, none⟩ u) e sz (.slice (some ⟨g, 0, none⟩) n cap) n (cs.set j u) := by
  rcases h.2 with ⟨hv, _⟩ | ⟨g', cap', cur, hv, hb, hgg, hc, hm, hs, ht⟩
  · simp at hv
  · simp only [Value.slice.injEq, Option.some.injEq, Addr.mk.injEq, and_true, true_and] at hv
    obtain ⟨rfl, rfl⟩ := hv
    have h2 : Blk (w.setCell ⟨g, j, none⟩ u) g (cur.setIfInBounds j u) e := Blk.set hgg j u
    refine ⟨by rw [List.length_set]; exact h.1, .inr ⟨g, cap, _, rfl, hb, h2, hc, hm, by simpa using hs, ?_⟩⟩
    rw [Array.toList_setIfInBounds, List.take_set, ht]

section
variable {P : Program} {w : World}
/-- 'append' of one element that lies in a new block. -/
theorem wpList_appK1 {ops : Array Oper} {rest : List Oper} {o : Oper} {a : Act} {Q : Exit → Act → World → Prop} (hgd : o.guard = none) (s x : Operand) (t : TypeId)
    (ho : o.op = .call { callee := .builtin .append, args := #[s, x], argTypes := #[t, t] })
    (e : TypeId) (i : TypeInfo) (z : Value) (size bytes : Nat) (ht : P.underlying t = some (.slice e)) (hi : P.info? e = some i) (hz : i.zero = some z)
    (hsize : i.size = size) (hby : i.bytes = bytes) (hzs : z.cells.size = size) (hsz : 0 < size)
    (v : Value) (n : Nat) (cs us : List Value) (hs : a.eval s = v) (hown : OwnK w e size v n cs) (hu : us.length = size) (h1 : ∀ u ∈ us, u.oneCell' = true)
    (hx : a.eval x = .slice (some ⟨w.heap.size, 0, none⟩) 1 1)
    (h63 : n + 1 ≤ maxLen) (hbytes : (n + 1) * bytes ≤ 140737488355328)
    (h : ∀ v' w', OwnK w' e size v' (n + 1) (cs ++ us) → Chg (fun k => some k = v.ownBlock) w w' → (∀ g, v'.ownBlock = some g → some g = v.ownBlock ∨ w.heap.size ≤ g) → wpList P ops Q rest (a.put o.dst v') w') :
    wpList P ops Q (o :: rest) a (w.alloc (.cells us.toArray e)) := by
  refine wpList_append_own_at (w := w.alloc (.cells us.toArray e)) hgd s x t ho 0 e i z size bytes ht hi hz hsize hby hzs hsz v n cs hs (hown.later ((Below.refl _ _).alloc (Nat.le_refl _) _)) ⟨w.heap.size, 0, none⟩ 1 1 us hx (by rw [hu]; simp) ?_ h1 h63 hbytes (Nat.zero_le _) ?_
  · intro j u hj
    have hb : Blk (w.alloc (.cells us.toArray e)) w.heap.size us.toArray e := Blk.fresh _ _ _
    have := hb.cell (i := j) (v := u) (by simpa using hj)
    rw [show (⟨w.heap.size, 0, none⟩ : Addr).add j = ⟨w.heap.size, j, none⟩ from by unfold Addr.add; split <;> simp_all]
    exact this
  · intro v' w' k1 k2 _ k4
    refine h v' w' k1 ((Chg.alloc _ w _).trans (Chg.of_grown k2) fun _ _ h => h) fun g hg => ?_
    rcases k4 with k4 | k4
    · left; rw [← k4]; exact hg.symm
    · right; rw [k4] at hg; simp at hg; omega

end
end Go.Proofs.Ytnakjencodicmaa.Own

-- ---- Hac
/- A heap's own methods: what the calls answer, and what they do to the heap's memory. -/
namespace Go.Proofs.Ytnakjencodicmaa.CanonH
set_option maxRecDepth 100000
set_option linter.unusedSimpArgs false
set_option linter.unusedVariables false
open Go.RowKit Mix _root_.Go.Proofs.Ytnakjencodicmaa.Own Ol Hp
attribute [local go_sem] Own.max_int Own.min_int

/-- Pairs, their cells one behind the other. -/
def fl (l : List (Int × Int)) : List Value := l.flatMap fun a => [.int .i64 a.1, .int .i64 a.2]
theorem length_fl (l : List (Int × Int)) : (fl l).length = l.length * 2 := by
  induction l with
  | nil => rfl
  | cons a t ih => simp only [fl, List.flatMap_cons, List.length_append, List.length_cons, List.length_nil] at *; omega
theorem fl_append (a b : List (Int × Int)) : fl (a ++ b) = fl a ++ fl b := by simp [fl, List.flatMap_append]
theorem fl_at (l : List (Int × Int)) : ∀ (i : Nat), i < l.length → (fl l)[i * 2]? = some (.int .i64 (at_ l i).1) ∧ (fl l)[i * 2 + 1]? = some (.int .i64 (at_ l i).2) := by
  induction l with
  | nil => intro i h; simp at h
  | cons a t ih =>
    intro i h
    cases i with
    | zero => exact ⟨rfl, rfl⟩
    | succ i =>
      have := ih i (by simpa using h)
      have e : at_ (a :: t) (i + 1) = at_ t i := by simp [at_]
      rw [e]
      have e2 : fl (a :: t) = .int .i64 a.1 :: .int .i64 a.2 :: fl t := rfl
      rw [e2, show (i + 1) * 2 = i * 2 + 1 + 1 by omega]
      exact this
theorem fl_set (l : List (Int × Int)) : ∀ (i : Nat) (x : Int × Int), i < l.length → fl (l.set i x) = ((fl l).set (i * 2) (.int .i64 x.1)).set (i * 2 + 1) (.int .i64 x.2) := by
  induction l with
  | nil => intro i x h; simp at h
  | cons a t ih =>
    intro i x h
    have e2 : fl (a :: t) = .int .i64 a.1 :: .int .i64 a.2 :: fl t := rfl
    cases i with
    | zero => rw [e2]; rfl
    | succ i =>
      have := ih i x (by simpa using h)
      rw [e2, show (i + 1) * 2 = i * 2 + 1 + 1 by omega]
      simp only [List.set_cons_succ]
      rw [← this]; rfl

theorem infoE : (Try.prog.info? 106).map (fun i => (i.zero, i.size, i.bytes)) = some (some (.agg #[.int .i64 0, .int .i64 0]), 2, 16) := by kernel_rfl
theorem info_partsE {i : Option TypeInfo} {z : Value} {s b : Nat} (h : i.map (fun i => (i.zero, i.size, i.bytes)) = some (some z, s, b)) : ∃ i0, i = some i0 ∧ i0.zero = some z ∧ i0.size = s ∧ i0.bytes = b := by
  cases i with
  | none => simp at h
  | some i => simp at h; exact ⟨i, rfl, h.1, h.2.1, h.2.2⟩

set_option maxHeartbeats 4000000 in
theorem less_calls (g n cap : Nat) (l : List (Int × Int)) (i j : Nat) (w : World) (hO : OwnK w 106 2 (.slice (some ⟨g, 0, none⟩) n cap) n (fl l)) (hi : i < n) (hj : j < n) (b : Bool) (hb : b = ltL (at_ l i) (at_ l j)) :
    Calls Try.prog 78 #[.slice (some ⟨g, 0, none⟩) n cap, .int .i64 (i : Int), .int .i64 (j : Int)] w fun e w' => e = .returned (.bool b) ∧ Below w.heap.size w w' := by
  have hln : l.length = n := by have := hO.1; rw [length_fl] at this; omega
  obtain ⟨c1, c2⟩ := fl_at l i (by omega)
  obtain ⟨d1, d2⟩ := fl_at l j (by omega)
  have c1 := hO.cell c1
  have c2 := hO.cell c2
  have d1 := hO.cell d1
  have d2 := hO.cell d2
  generalize at_ l i = a at c1 c2 hb
  generalize at_ l j = c at d1 d2 hb
  obtain ⟨a1, a2⟩ := a
  obtain ⟨b1, b2⟩ := c
  unfold ltL at hb
  have l1 := lat_cell c1
  have l2 := lat_cell c2
  have l3 := lat_cell d1
  have l4 := lat_cell d2
  clear hO c1 c2 d1 d2 hln
  by_cases h1 : a2 < b2
  · have e : b = true := by rw [hb, decide_eq_true_eq]; exact .inl h1
    subst e
    have t1 : decide (a2 < b2) = true := by simpa using h1
    clear hb h1
    go_enter Try.func78, Try.ntmps78
    go_wp2_with fail
    refine wp_region_quietL (by kernel_rfl) (by kernel_rfl) ?_
    repeat (go_big_quiet_step (fail))
    refine wpQuiet_nil ?_
    intro nq
    go_wp2_with fail
    go_ret
    exact ⟨rfl, nq.below⟩
  · have t1 : decide (a2 < b2) = false := by simpa using h1
    by_cases h2 : a2 = b2
    · subst h2
      have t2 : (a2 == a2) = true := by simp
      have e : b = decide (a1 < b1) := by rw [hb]; congr 1; rw [eq_iff_iff]; exact ⟨fun h => h.elim (fun h => absurd h h1) (fun h => h.2), fun h => .inr ⟨rfl, h⟩⟩
      subst e
      clear hb h1
      by_cases h3 : a1 < b1
      · have t3 : decide (a1 < b1) = true := by simpa using h3
        rw [t3]
        clear h3
        go_enter Try.func78, Try.ntmps78
        go_wp2_with fail
        refine wp_region_quietL (by kernel_rfl) (by kernel_rfl) ?_
        repeat (go_big_quiet_step (fail))
        refine wpQuiet_nil ?_
        intro nq
        go_wp2_with fail
        go_ret
        exact ⟨rfl, nq.below⟩
      · have t3 : decide (a1 < b1) = false := by simpa using h3
        rw [t3]
        clear h3
        go_enter Try.func78, Try.ntmps78
        go_wp2_with fail
        refine wp_region_quietL (by kernel_rfl) (by kernel_rfl) ?_
        repeat (go_big_quiet_step (fail))
        refine wpQuiet_nil ?_
        intro nq
        go_wp2_with fail
        go_ret
        exact ⟨rfl, nq.below⟩
    · have t2 : (a2 == b2) = false := by simpa using h2
      have e : b = false := by rw [hb, decide_eq_false_iff_not]; rintro (h | h); exact h1 h; exact h2 h.1
      subst e
      clear hb h1 h2
      go_enter Try.func78, Try.ntmps78
      go_wp2_with fail
      refine wp_region_quietL (by kernel_rfl) (by kernel_rfl) ?_
      repeat (go_big_quiet_step (fail))
      refine wpQuiet_nil ?_
      intro nq
      go_wp2_with fail
      go_ret
      exact ⟨rfl, nq.below⟩
end Go.Proofs.Ytnakjencodicmaa.CanonH

-- ---- Hbc
/- A heap's Swap, Push and Pop of its own. -/
namespace Go.Proofs.Ytnakjencodicmaa.CanonH
set_option maxRecDepth 100000
set_option linter.unusedSimpArgs false
set_option linter.unusedVariables false
open Go.RowKit Mix _root_.Go.Proofs.Ytnakjencodicmaa.Own Ol Hp
attribute [local go_sem] Own.max_int Own.min_int

set_option maxHeartbeats 4000000 in
theorem swap_calls (g n cap : Nat) (l : List (Int × Int)) (i j : Nat) (w : World) (hO : OwnK w 106 2 (.slice (some ⟨g, 0, none⟩) n cap) n (fl l)) (hi : i < n) (hj : j < n) :
    Calls Try.prog 81 #[.slice (some ⟨g, 0, none⟩) n cap, .int .i64 (i : Int), .int .i64 (j : Int)] w fun e w' => e = .returned (.tuple #[]) ∧ OwnK w' 106 2 (.slice (some ⟨g, 0, none⟩) n cap) n (fl (swapL l i j)) ∧ Chg (fun b => b = g) w w' := by
  have hln : l.length = n := by have := hO.1; rw [length_fl] at this; omega
  obtain ⟨c1, c2⟩ := fl_at l i (by omega)
  obtain ⟨d1, d2⟩ := fl_at l j (by omega)
  have c1 := hO.cell c1
  have c2 := hO.cell c2
  have d1 := hO.cell d1
  have d2 := hO.cell d2
  have hsw : fl (swapL l i j) = ((((fl l).set (i * 2) (.int .i64 (at_ l j).1)).set (i * 2 + 1) (.int .i64 (at_ l j).2)).set (j * 2) (.int .i64 (at_ l i).1)).set (j * 2 + 1) (.int .i64 (at_ l i).2) := by
    unfold swapL
    rw [fl_set _ j _ (by rw [List.length_set]; omega), fl_set l i _ (by omega)]
  generalize at_ l i = a at c1 c2 hsw
  generalize at_ l j = c at d1 d2 hsw
  obtain ⟨a1, a2⟩ := a
  obtain ⟨b1, b2⟩ := c
  have l1 := lat_cell c1
  have l2 := lat_cell c2
  have l3 := lat_cell d1
  have l4 := lat_cell d2
  have HO := kept hO
  have HSw := kept hsw
  clear hO c1 c2 d1 d2 hln hsw
  go_enter Try.func81, Try.ntmps81
  go_wp2_with fail
  refine wp_region_mixL [2,3] [0,1,4,5,6,7,8,9,10,11,12] [13,14,15] (by kernel_rfl) (by kernel_rfl) ?_
  intro K hK
  simp only [pick, List.filterMap_cons, List.filterMap_nil, List.getElem?_cons_zero, List.getElem?_cons_succ]
  repeat (show wpQuiet _ _ _ _ (_ :: _) _; go_big_quiet_step (fail))
  refine wpQuiet_nil ?_
  show wpList _ _ _ [_, _, _] _ _
  generalize hwd : World.drew w = wd
  have HOd : Kept (OwnK wd 106 2 (.slice (some ⟨g, 0, none⟩) n cap) n (fl l)) := kept (by rw [← hwd]; exact HO.out.later ((Below.refl _ _).drew))
  have HCd : Kept (Chg (fun b => b = g) w wd) := kept (by rw [← hwd]; exact Chg.drew _ _)
  have c1 : wd.cell? ⟨g, i * 2, none⟩ = some (.int .i64 a1) := by rw [← hwd]; exact l1 (Lat.drew w)
  have c2 : wd.cell? ⟨g, i * 2 + 1, none⟩ = some (.int .i64 a2) := by rw [← hwd]; exact l2 (Lat.drew w)
  have d1 : wd.cell? ⟨g, j * 2, none⟩ = some (.int .i64 b1) := by rw [← hwd]; exact l3 (Lat.drew w)
  have d2 : wd.cell? ⟨g, j * 2 + 1, none⟩ = some (.int .i64 b2) := by rw [← hwd]; exact l4 (Lat.drew w)
  have q1 := HOd.out.free (i * 2)
  have q2 := HOd.out.free (i * 2 + 1)
  have q3 := HOd.out.free (j * 2)
  have q4 := HOd.out.free (j * 2 + 1)
  clear hwd l1 l2 l3 l4
  have HFin : Kept (OwnK ((((wd.setCell ⟨g, i * 2, none⟩ (.int .i64 b1)).setCell ⟨g, i * 2 + 1, none⟩ (.int .i64 b2)).setCell ⟨g, j * 2, none⟩ (.int .i64 a1)).setCell ⟨g, j * 2 + 1, none⟩ (.int .i64 a2)) 106 2 (.slice (some ⟨g, 0, none⟩) n cap) n (fl (swapL l i j)) ∧
      Chg (fun b => b = g) w ((((wd.setCell ⟨g, i * 2, none⟩ (.int .i64 b1)).setCell ⟨g, i * 2 + 1, none⟩ (.int .i64 b2)).setCell ⟨g, j * 2, none⟩ (.int .i64 a1)).setCell ⟨g, j * 2 + 1, none⟩ (.int .i64 a2))) := kept (by
    rw [HSw.out]
    exact ⟨(((HOd.out.store _ _).store _ _).store _ _).store _ _, (((HCd.out.trans (Chg.setCell _ _ _) (fun _ _ h => h)).trans (Chg.setCell _ _ _) (fun _ _ h => h)).trans (Chg.setCell _ _ _) (fun _ _ h => h)).trans (Chg.setCell _ _ _) (fun _ _ h => h)⟩)
  by_cases hij : i = j
  · subst hij
    go_wp2_with fail
    refine hK _ _ ?_
    go_wp2_with fail
    go_end0
    exact ⟨rfl, HFin.out.1, HFin.out.2⟩
  · have n1 : i * 2 ≠ j * 2 := by omega
    have n2 : i * 2 + 1 ≠ j * 2 := by omega
    have n3 : i * 2 ≠ j * 2 + 1 := by omega
    have n4 : i * 2 + 1 ≠ j * 2 + 1 := by omega
    go_wp2_with fail
    refine hK _ _ ?_
    go_wp2_with fail
    go_end0
    exact ⟨rfl, HFin.out.1, HFin.out.2⟩

theorem assertE (x : TypeId) (v : Value) (w : World) : (Instr.typeAssert (.iface 106 v) x 106 true).run Try.prog w = .ok (.tuple #[v, .bool true]) w := by kernel_rfl

/-- A heap at block p, its pairs at v. -/
structure IsHp (w : World) (p : Nat) (v : Value) (l : List (Int × Int)) : Prop where
  blk : Blk w p #[v] 103
  row : OwnK w 106 2 v l.length (fl l)
theorem IsHp.later {w w' : World} {p : Nat} {v : Value} {l : List (Int × Int)} (h : IsHp w p v l) (hb : Below w.heap.size w w') : IsHp w' p v l := ⟨(hb.block p h.blk.lt).trans h.blk, h.row.later hb⟩
theorem IsHp.keep {w w' : World} {S : Nat → Prop} {p : Nat} {v : Value} {l : List (Int × Int)} (h : IsHp w p v l) (hc : Chg S w w') (hp : ¬ S p) (hv : ∀ g, v.ownBlock = some g → ¬ S g) : IsHp w' p v l :=
  ⟨hc.keep h.blk hp, h.row.chg hc hv⟩
theorem IsHp.ne {w : World} {p : Nat} {v : Value} {l : List (Int × Int)} (h : IsHp w p v l) : v.ownBlock ≠ some p := h.row.ne h.blk (by decide)
theorem IsHp.row0 {w : World} {p : Nat} {v : Value} {l : List (Int × Int)} (h : IsHp w p v l) (h0 : 0 < l.length) : ∃ g cap, v = .slice (some ⟨g, 0, none⟩) l.length cap ∧ l.length ≤ cap ∧ cap ≤ maxLen ∧ g ≠ p ∧ g < w.heap.size := by
  obtain ⟨a, cap, rfl, h1, h2, h3⟩ := h.row.slice
  obtain ⟨g, rfl⟩ := h3 h0
  exact ⟨g, cap, rfl, h1, h2, fun e => h.ne (by simp [Value.ownBlock, e]), h.row.lt g rfl⟩

set_option maxHeartbeats 4000000 in
theorem push_calls (p : Nat) (v : Value) (l : List (Int × Int)) (a1 a2 : Int) (w : World) (h : IsHp w p v l) (hl : l.length ≤ 1000000) :
    Calls Try.prog 80 #[.pointer (some ⟨p, 0, none⟩), .iface 106 (.agg #[.int .i64 a1, .int .i64 a2])] w fun e w' => e = .returned (.tuple #[]) ∧
      ∃ v', IsHp w' p v' (l ++ [(a1, a2)]) ∧ Chg (fun b => b = p ∨ some b = v.ownBlock) w w' ∧ ∀ g, v'.ownBlock = some g → some g = v.ownBlock ∨ w.heap.size ≤ g := by
  obtain ⟨j0, hj, hy0, hy1, hy2⟩ := info_partsE infoE
  have hpl := h.blk.lt
  have hta := assertE
  have c0 : w.cell? ⟨p, 0, none⟩ = some v := h.blk.cell rfl
  have H := kept h
  clear h
  go_enter Try.func80, Try.ntmps80
  go_wp2_with fail
  obtain ⟨C, hC⟩ : ∃ C, C = w.heap.size := ⟨_, rfl⟩
  rw [← hC]
  generalize hwa : World.alloc w _ = wa
  have hG : Blk wa C #[.int .i64 a1, .int .i64 a2] 106 := by rw [← hwa, hC]; exact Blk.fresh _ _ _
  have hBa : Below w.heap.size w wa := by rw [← hwa]; exact (Below.refl _ _).alloc (Nat.le_refl _) _
  have HA := kept (H.out.later hBa)
  have HBa := kept hBa
  have HCs := kept hC
  have g0 : wa.cell? ⟨C, 0, none⟩ = some (.int .i64 a1) := hG.cell rfl
  have g1 : wa.cell? ⟨C, 1, none⟩ = some (.int .i64 a2) := hG.cell rfl
  have c1 : wa.cell? ⟨p, 0, none⟩ = some v := HA.out.blk.cell rfl
  have k0 := lat_cell g0
  have k1 := lat_cell g1
  have k2 := lat_cell c1
  clear hwa hG hBa c0 g0 g1 c1 hta hC
  refine wp_region_mixL [0] [1,2,3,4] [5,6,7,8] (by kernel_rfl) (by kernel_rfl) ?_
  intro K hK
  simp only [pick, List.filterMap_cons, List.filterMap_nil, List.getElem?_cons_zero, List.getElem?_cons_succ]
  repeat (show wpQuiet _ _ _ _ (_ :: _) _; go_big_quiet_step (fail))
  refine wpQuiet_nil ?_
  show wpList _ _ _ [_, _, _, _] _ _
  generalize hwd : World.drew wa = wd
  have HD : Kept (IsHp wd p v l) := kept (by rw [← hwd]; exact HA.out.later ((Below.refl _ _).drew))
  have HBd : Kept (Below w.heap.size w wd) := kept (by rw [← hwd]; exact HBa.out.drew)
  clear hwd k0 k1 k2
  obtain ⟨va, vc, rfl, _⟩ := HD.out.row.slice
  go_wp2_with (first | (at_builtin; refine wpList_appK1 rfl _ _ 103 rfl 106 j0 (.agg #[.int .i64 0, .int .i64 0]) 2 16 Try.underlying103 hj hy0 hy1 hy2 rfl (by decide) (.slice va l.length vc) l.length _ [.int .i64 a1, .int .i64 a2] rfl HD.out.row rfl (by intro u hu; simp at hu; rcases hu with rfl | rfl <;> rfl) rfl ?_ ?_ ?_))
  · simp [maxLen]; omega
  · omega
  intro v7 w7 O7 C7 F7
  obtain ⟨a7, cap7, rfl, _⟩ := O7.slice
  have hne : (Value.slice va l.length vc).ownBlock ≠ some p := HD.out.ne
  have hB7 : Blk w7 p #[.slice va l.length vc] 103 := C7.keep HD.out.blk (fun e => hne e.symm)
  have c7 : w7.cell? ⟨p, 0, none⟩ = some (.slice va l.length vc) := hB7.cell rfl
  have f7 : w7.frozen? ⟨p, 0, none⟩ = false := hB7.free 0
  have HB7 := kept hB7
  have HO7 : Kept (OwnK w7 106 2 (.slice a7 (l.length + 1) cap7) (l.length + 1) (fl (l ++ [(a1, a2)]))) := kept (by rw [fl_append]; exact O7)
  have HC7 : Kept (Chg (fun b => b = p ∨ some b = (Value.slice va l.length vc).ownBlock) w w7) := kept ((Chg.of_below HBd.out).trans C7 (fun b _ h => .inr h))
  have HF7 : Kept (∀ g, (Value.slice a7 (l.length + 1) cap7).ownBlock = some g → some g = (Value.slice va l.length vc).ownBlock ∨ w.heap.size ≤ g) := kept (fun g hg => (F7 g hg).imp id fun h => Nat.le_trans HBd.out.size h)
  clear hB7 O7 C7 F7 hne
  go_wp2_with fail
  refine hK _ _ ?_
  go_wp2_with fail
  go_end0
  have hl1 : (l ++ [(a1, a2)]).length = l.length + 1 := by simp
  refine ⟨rfl, _, ⟨HB7.out.set 0 _, ?_⟩, HC7.out.trans (Chg.setCell _ ⟨p, 0, none⟩ _) (fun b _ h => .inl h), HF7.out⟩
  rw [hl1]
  exact HO7.out.setOther (a := ⟨p, 0, none⟩) (HO7.out.ne HB7.out (by decide)) _

set_option maxHeartbeats 4000000 in
theorem pop_calls (p g n cap : Nat) (l : List (Int × Int)) (w : World) (h : IsHp w p (.slice (some ⟨g, 0, none⟩) (n + 1) cap) l) (hn : l.length = n + 1) (hl : n ≤ 1000000) :
    Calls Try.prog 79 #[.pointer (some ⟨p, 0, none⟩)] w fun e w' => e = .returned (.iface 106 (.agg #[.int .i64 (at_ l n).1, .int .i64 (at_ l n).2])) ∧
      IsHp w' p (.slice (some ⟨g, 0, none⟩) n cap) (l.take n) ∧ Chg (fun b => b = p) w w' := by
  have hgp : g ≠ p := fun e => h.ne (by simp [Value.ownBlock, e])
  have hrow : OwnK w 106 2 (.slice (some ⟨g, 0, none⟩) (n + 1) cap) (n + 1) (fl l) := by have := h.row; rw [hn] at this; exact this
  obtain ⟨_, cap', hv, hnc, hcm, _⟩ := hrow.slice
  simp only [Value.slice.injEq, true_and] at hv
  obtain ⟨rfl, rfl⟩ := hv
  simp only [maxLen] at hcm
  obtain ⟨c1, c2⟩ := fl_at l n (by omega)
  have c1 := hrow.cell c1
  have c2 := hrow.cell c2
  have c0 : w.cell? ⟨p, 0, none⟩ = some (.slice (some ⟨g, 0, none⟩) (n + 1) cap) := h.blk.cell rfl
  have f0 : w.frozen? ⟨p, 0, none⟩ = false := h.blk.free 0
  have hpl := h.blk.lt
  have hgl := hrow.lt g rfl
  obtain ⟨a1, ha1⟩ : ∃ a1, a1 = (at_ l n).1 := ⟨_, rfl⟩
  obtain ⟨a2, ha2⟩ : ∃ a2, a2 = (at_ l n).2 := ⟨_, rfl⟩
  rw [← ha1] at c1
  rw [← ha2] at c2
  rw [← ha1, ← ha2]
  have hcut : OwnK w 106 2 (.slice (some ⟨g, 0, none⟩) n cap) n (fl (l.take n)) := by
    refine ⟨by rw [length_fl, List.length_take]; omega, ?_⟩
    rcases hrow.2 with ⟨hv, _⟩ | ⟨g', cap', cur, hv, hb, hgg, h1, h2, h3, h4⟩
    · simp at hv
    · simp only [Value.slice.injEq, Option.some.injEq, Addr.mk.injEq, and_true, true_and] at hv
      obtain ⟨rfl, rfl⟩ := hv
      refine .inr ⟨g, cap, cur, rfl, hb, hgg, by omega, h2, h3, ?_⟩
      have e : fl l = fl (l.take n) ++ fl (l.drop n) := by rw [← fl_append, List.take_append_drop]
      rw [e] at h4
      have h5 := congrArg (List.take (n * 2)) h4
      rw [List.take_take, Nat.min_eq_left (by omega), List.take_left' (by rw [length_fl, List.length_take]; omega)] at h5
      exact h5
  have HCut := kept hcut
  have HBl := kept h.blk
  have HLt := kept (show (l.take n).length = n by rw [List.length_take]; omega)
  have hcap : n ≤ cap := by omega
  clear h hrow ha1 ha2 hcut hn
  go_enter Try.func79, Try.ntmps79
  go_wp2_with fail
  go_ret
  refine ⟨rfl, ⟨(HBl.out.set 0 _).alloc _, ?_⟩, (Chg.setCell w ⟨p, 0, none⟩ _).trans (Chg.alloc (fun _ => False) _ _) (fun _ _ h => h.elim)⟩
  rw [HLt.out]
  exact (HCut.out.setOther (a := ⟨p, 0, none⟩) (by simpa [Value.ownBlock] using hgp) _).later ((Below.refl _ _).alloc (Nat.le_refl _) _)
end Go.Proofs.Ytnakjencodicmaa.CanonH

-- ---- Hcc
/- The library's heap over these methods: up, down, Push, Pop. -/
namespace Go.Proofs.Ytnakjencodicmaa.CanonH
set_option maxRecDepth 100000
set_option linter.unusedSimpArgs false
set_option linter.unusedVariables false
open Go.RowKit Mix _root_.Go.Proofs.Ytnakjencodicmaa.Own Ol Hp
attribute [local go_sem] Own.max_int Own.min_int

theorem par_t (j : Nat) : ((j : Int) - 1).tdiv 2 = (par j : Int) := by
  unfold par
  rcases Nat.eq_zero_or_pos j with h | h
  · subst h; rfl
  · rw [Int.tdiv_eq_ediv_of_nonneg (by omega)]; omega
theorem par_e (j : Nat) (h : 0 < j) : ((j : Int) - 1) / 2 = (par j : Int) := by unfold par; omega

theorem load_rows (a : Addr) (v : Value) (w : World) (h : w.cell? a = some v) : (loadVar 103 a).run Try.prog w = .ok v w := by
  simp [loadVar, Sem.run_bind, isAgg, run_underlying Try.underlying103 w, h, Result.andThen]
theorem method_len (a : Addr) (v : Value) (w : World) (h : w.cell? a = some v) : (Go.method 251 101 (.pointer (some a)) "Len").run Try.prog w = .ok (45, v) w := by
  have e1 : (Go.method 251 101 (.pointer (some a)) "Len").run Try.prog w = ((receiverAt 101 (.val (.pointer (some a))) false (some (("Len".splitOn ".").getLastD "Len"))) >>= fun r => pure ((45 : FuncId), r)).run Try.prog w := by kernel_rfl
  have e2 : (receiverAt 101 (.val (.pointer (some a))) false (some (("Len".splitOn ".").getLastD "Len"))).run Try.prog w = (loadVar 103 a).run Try.prog w := by kernel_rfl
  rw [e1, Sem.run_bind, e2, load_rows a v w h]
  rfl
theorem method_less (a : Addr) (v : Value) (w : World) (h : w.cell? a = some v) : (Go.method 251 101 (.pointer (some a)) "Less").run Try.prog w = .ok (78, v) w := by
  have e1 : (Go.method 251 101 (.pointer (some a)) "Less").run Try.prog w = ((receiverAt 101 (.val (.pointer (some a))) false (some (("Less".splitOn ".").getLastD "Less"))) >>= fun r => pure ((78 : FuncId), r)).run Try.prog w := by kernel_rfl
  have e2 : (receiverAt 101 (.val (.pointer (some a))) false (some (("Less".splitOn ".").getLastD "Less"))).run Try.prog w = (loadVar 103 a).run Try.prog w := by kernel_rfl
  rw [e1, Sem.run_bind, e2, load_rows a v w h]
  rfl
theorem method_swap (a : Addr) (v : Value) (w : World) (h : w.cell? a = some v) : (Go.method 251 101 (.pointer (some a)) "Swap").run Try.prog w = .ok (81, v) w := by
  have e1 : (Go.method 251 101 (.pointer (some a)) "Swap").run Try.prog w = ((receiverAt 101 (.val (.pointer (some a))) false (some (("Swap".splitOn ".").getLastD "Swap"))) >>= fun r => pure ((81 : FuncId), r)).run Try.prog w := by kernel_rfl
  have e2 : (receiverAt 101 (.val (.pointer (some a))) false (some (("Swap".splitOn ".").getLastD "Swap"))).run Try.prog w = (loadVar 103 a).run Try.prog w := by kernel_rfl
  rw [e1, Sem.run_bind, e2, load_rows a v w h]
  rfl
theorem method_push (a : Addr) (w : World) : (Go.method 251 101 (.pointer (some a)) "Push").run Try.prog w = .ok (80, .pointer (some a)) w := by kernel_rfl
theorem method_pop (a : Addr) (w : World) : (Go.method 251 101 (.pointer (some a)) "Pop").run Try.prog w = .ok (79, .pointer (some a)) w := by kernel_rfl

attribute [local go_sem] method_len method_less method_swap method_push method_pop

set_option maxHeartbeats 8000000 in
theorem up_calls (p g n cap : Nat) (l : List (Int × Int)) (j : Nat) (w : World) (h : IsHp w p (.slice (some ⟨g, 0, none⟩) n cap) l) (hn : l.length = n) (hnb : n ≤ 1000000) (hj : j < n) (hu : UpInv ltL l n j) :
    Calls Try.prog 58 #[.iface 101 (.pointer (some ⟨p, 0, none⟩)), .int .i64 (j : Int)] w fun e w' => e = .returned (.tuple #[]) ∧
      ∃ l', IsHp w' p (.slice (some ⟨g, 0, none⟩) n cap) l' ∧ l'.length = n ∧ Heap ltL l' n ∧ l'.Perm l ∧ Chg (fun b => b = g) w w' := by
  have H := kept h
  have HU := kept hu
  have HN := kept hn
  clear h hu hn
  go_enter Try.func58, Try.ntmps58
  go_wp2_with fail
  go_loopw [1] (fun s1 wr => ∃ (k : Nat) (l1 : List (Int × Int)), s1 = .int .i64 (k : Int) ∧ k < n ∧ IsHp wr p (.slice (some ⟨g, 0, none⟩) n cap) l1 ∧ l1.length = n ∧ UpInv ltL l1 n k ∧ l1.Perm l ∧ Chg (fun b => b = g) w wr) (fun s1 _ => (intOf s1).toNat)
  case atStart => exact ⟨j, l, rfl, hj, H.out, HN.out, HU.out, List.Perm.refl _, Chg.refl _ _⟩
  case round =>
    obtain ⟨k, l1, rfl, hk, hh, hl1, hui, hpm, hch⟩ := hrel
    have c0 : wr.cell? ⟨p, 0, none⟩ = some (.slice (some ⟨g, 0, none⟩) n cap) := hh.blk.cell rfl
    have HH := kept hh
    have HL1 := kept hl1
    have HUI := kept hui
    have HPM := kept hpm
    have HCh := kept hch
    clear hh hl1 hui hpm hch
    by_cases hk0 : k = 0
    · subst hk0
      have HF : Kept (Heap ltL l1 n) := kept (up_done HUI.out (.inl rfl))
      go_wp2_with fail
      go_end0
      exact ⟨rfl, l1, HH.out, HL1.out, HF.out, HPM.out, HCh.out⟩
    · have hpt := par_t k
      have hpe := par_e k (by omega)
      have hpl := par_lt (show 0 < k by omega)
      obtain ⟨q, hq⟩ : ∃ q, q = par k := ⟨_, rfl⟩
      rw [← hq] at hpt hpe hpl
      have hne : ((q : Int) == (k : Int)) = false := by rw [beq_eq_false_iff_ne]; omega
      obtain ⟨b, hb⟩ : ∃ b, b = ltL (at_ l1 k) (at_ l1 q) := ⟨_, rfl⟩
      have hrow : OwnK wr 106 2 (.slice (some ⟨g, 0, none⟩) n cap) n (fl l1) := by have := HH.out.row; rw [HL1.out] at this; exact this
      have hless := less_calls g n cap l1 k q wr hrow hk (by omega) b hb
      have HLess := kept hless
      have HQ := kept hq
      have HBq := kept hb
      have hk0' : 0 < k := by omega
      clear hless hrow hq hb hk0
      cases b with
      | false =>
        have HF : Kept (Heap ltL l1 n) := kept (up_done HUI.out (.inr (by rw [← HQ.out]; exact HBq.out.symm)))
        go_wp2_with (first | (go_at_call 78; refine HLess.out.mono ?_; rintro e w2 ⟨rfl, hb2⟩; have HH2 := kept (HH.out.later hb2); have HCh2 := kept (HCh.out.trans (Chg.of_below (S := fun _ => False) hb2) (fun _ _ h => h.elim)); clear hb2))
        go_end0
        exact ⟨rfl, l1, HH2.out, HL1.out, HF.out, HPM.out, HCh2.out⟩
      | true =>
        go_wp2_with (first
          | (go_at_call 78; refine HLess.out.mono ?_; rintro e w2 ⟨rfl, hb2⟩; have HH2 := kept (HH.out.later hb2); have HCh2 := kept (HCh.out.trans (Chg.of_below (S := fun _ => False) hb2) (fun _ _ h => h.elim)); have c2 : w2.cell? ⟨p, 0, none⟩ = some (.slice (some ⟨g, 0, none⟩) n cap) := HH2.out.blk.cell rfl; have HS : Kept (OwnK w2 106 2 (.slice (some ⟨g, 0, none⟩) n cap) n (fl l1)) := kept (by have := HH2.out.row; rw [HL1.out] at this; exact this); clear hb2)
          | (go_at_call 81; refine (swap_calls g n cap l1 q k _ HS.out (by omega) hk).mono ?_; rintro e w3 ⟨rfl, ho3, hc3⟩
             have HH3 : Kept (IsHp w3 p (.slice (some ⟨g, 0, none⟩) n cap) (swapL l1 q k)) := kept ⟨hc3.keep HH2.out.blk (fun e => HH2.out.ne (by simp [Value.ownBlock, e])), by rw [length_swapL, HL1.out]; exact ho3⟩
             have HCh3 := kept (HCh2.out.trans hc3 (fun _ _ h => h)); clear ho3 hc3))
        go_roundw
        case rel =>
          have h1 := up_step oL HUI.out (by omega) hk (by rw [HL1.out]; exact Nat.le_refl _) (by rw [← HQ.out]; exact HBq.out.symm)
          rw [← HQ.out] at h1
          exact ⟨q, swapL l1 q k, rfl, by omega, HH3.out, by rw [length_swapL]; exact HL1.out, h1, (perm_swap l1 q k (by rw [HL1.out]; omega) (by rw [HL1.out]; exact hk)).trans HPM.out, HCh3.out⟩
        case measure => simp [intOf]; omega
end Go.Proofs.Ytnakjencodicmaa.CanonH

-- ---- Hdc
/- The library's heap: down. -/
namespace Go.Proofs.Ytnakjencodicmaa.CanonH
set_option maxRecDepth 100000
set_option linter.unusedSimpArgs false
set_option linter.unusedVariables false
open Go.RowKit Mix _root_.Go.Proofs.Ytnakjencodicmaa.Own Ol Hp
attribute [local go_sem] Own.max_int Own.min_int
attribute [local go_sem] method_len method_less method_swap method_push method_pop

theorem par_two {i k : Nat} (h0 : 0 < i) (h : par i = k) : i = 2 * k + 1 ∨ i = 2 * k + 2 := by unfold par at h; omega
theorem par_l (k : Nat) : par (2 * k + 1) = k := by unfold par; omega
theorem par_r (k : Nat) : par (2 * k + 2) = k := by unfold par; omega

/-- What holds on the way down. -/
structure DownS (w wr : World) (p g N cap n : Nat) (l l1 : List (Int × Int)) (k : Nat) : Prop where
  hp : IsHp wr p (.slice (some ⟨g, 0, none⟩) N cap) l1
  len : l1.length = N
  inv : DownInv ltL l1 n k
  perm : l1.Perm l
  far : ∀ i, n ≤ i → at_ l1 i = at_ l i
  chg : Chg (fun b => b = g) w wr

theorem DownS.later {w wr w' : World} {p g N cap n : Nat} {l l1 : List (Int × Int)} {k : Nat} (h : DownS w wr p g N cap n l l1 k) (hb : Below wr.heap.size wr w') : DownS w w' p g N cap n l l1 k :=
  ⟨h.hp.later hb, h.len, h.inv, h.perm, h.far, h.chg.trans (Chg.of_below (S := fun _ => False) hb) (fun _ _ h => h.elim)⟩
theorem DownS.row {w wr : World} {p g N cap n : Nat} {l l1 : List (Int × Int)} {k : Nat} (h : DownS w wr p g N cap n l l1 k) : OwnK wr 106 2 (.slice (some ⟨g, 0, none⟩) N cap) N (fl l1) := by
  have := h.hp.row; rw [h.len] at this; exact this
theorem DownS.swap {w wr w' : World} {p g N cap n : Nat} {l l1 : List (Int × Int)} {k j : Nat} (h : DownS w wr p g N cap n l l1 k) (hn : n ≤ N) (hj0 : 0 < j) (hj : j < n) (hp : par j = k) (hlt : ltL (at_ l1 j) (at_ l1 k) = true) (hc : ∀ i, 0 < i → i < n → par i = k → ltL (at_ l1 i) (at_ l1 j) = false)
    (ho : OwnK w' 106 2 (.slice (some ⟨g, 0, none⟩) N cap) N (fl (swapL l1 k j))) (hch : Chg (fun b => b = g) wr w') : DownS w w' p g N cap n l (swapL l1 k j) j := by
  have hpl := par_lt hj0
  rw [hp] at hpl
  refine ⟨⟨hch.keep h.hp.blk (fun e => h.hp.ne (by simp [Value.ownBlock, e])), by rw [length_swapL, h.len]; exact ho⟩, by rw [length_swapL]; exact h.len, down_step oL h.inv hj0 hj (by rw [h.len]; exact hn) hp hlt hc, (perm_swap l1 k j (by rw [h.len]; omega) (by rw [h.len]; omega)).trans h.perm, fun i hi => ?_, h.chg.trans hch (fun _ _ h => h)⟩
  rw [at_swap l1 k j i (by rw [h.len]; omega) (by rw [h.len]; omega), if_neg (by omega), if_neg (by omega)]
  exact h.far i hi

set_option maxHeartbeats 16000000 in
theorem down_calls (p g N cap n : Nat) (l : List (Int × Int)) (i0 : Nat) (w : World) (h : IsHp w p (.slice (some ⟨g, 0, none⟩) N cap) l) (hN : l.length = N) (hNb : N ≤ 1000000) (hn : n ≤ N) (hi0 : i0 ≤ N) (hu : DownInv ltL l n i0) :
    Calls Try.prog 59 #[.iface 101 (.pointer (some ⟨p, 0, none⟩)), .int .i64 (i0 : Int), .int .i64 (n : Int)] w fun e w' => ∃ b l', e = .returned (.bool b) ∧ IsHp w' p (.slice (some ⟨g, 0, none⟩) N cap) l' ∧ l'.length = N ∧ Heap ltL l' n ∧ l'.Perm l ∧ (∀ i, n ≤ i → at_ l' i = at_ l i) ∧ Chg (fun b => b = g) w w' := by
  have HS0 : Kept (DownS w w p g N cap n l l i0) := kept ⟨h, hN, hu, List.Perm.refl _, fun _ _ => rfl, Chg.refl _ _⟩
  clear h hu hN
  go_enter Try.func59, Try.ntmps59
  go_wp2_with fail
  go_loopw [7] (fun s7 wr => ∃ (k : Nat) (l1 : List (Int × Int)), s7 = .int .i64 (k : Int) ∧ k ≤ N ∧ DownS w wr p g N cap n l l1 k) (fun s7 _ => N - (intOf s7).toNat)
  case atStart => exact ⟨i0, l, rfl, hi0, HS0.out⟩
  case round =>
    obtain ⟨k, l1, rfl, hk, hs⟩ := hrel
    have c0 : wr.cell? ⟨p, 0, none⟩ = some (.slice (some ⟨g, 0, none⟩) N cap) := hs.hp.blk.cell rfl
    have HS := kept hs
    have hless := fun i j (wx : World) (hx : DownS w wx p g N cap n l l1 k) (hi : i < N) (hj : j < N) => less_calls g N cap l1 i j wx hx.row hi hj _ rfl
    have HLess := kept hless
    clear hs hless HS0
    by_cases hA : n ≤ 2 * k + 1
    · have hd : decide ((2 * (k : Int) + 1) < (n : Int)) = false := by simp; omega
      have hA2 : (n : Int) ≤ 2 * (k : Int) + 1 := by omega
      have HF : Kept (Heap ltL l1 n) := kept (down_done HS.out.inv fun i h0 hi hp => by rcases par_two h0 hp with e | e <;> omega)
      go_wp2_with fail
      go_ret
      exact ⟨_, l1, rfl, HS.out.hp, HS.out.len, HF.out, HS.out.perm, HS.out.far, HS.out.chg⟩
    · have hB : 2 * k + 1 < n := by omega
      have hB2 : ¬ (n : Int) ≤ 2 * (k : Int) + 1 := by omega
      have hB3 : (2 * (k : Int) + 1) < (n : Int) := by omega
      by_cases hC : 2 * k + 2 < n
      · have hC2 : (2 * (k : Int) + 1 + 1) < (n : Int) := by omega
        cases hR : ltL (at_ l1 (2 * k + 2)) (at_ l1 (2 * k + 1)) with
        | true =>
          have HL1 : Kept (Calls Try.prog 78 #[.slice (some ⟨g, 0, none⟩) N cap, .int .i64 (2 * (k : Int) + 1 + 1), .int .i64 (2 * (k : Int) + 1)] wr fun e w' => e = .returned (.bool true) ∧ Below wr.heap.size wr w') := kept (by have h := HLess.out (2 * k + 2) (2 * k + 1) wr HS.out (by omega) (by omega); rw [hR, show ((2 * k + 2 : Nat) : Int) = 2 * (k : Int) + 1 + 1 by omega, show ((2 * k + 1 : Nat) : Int) = 2 * (k : Int) + 1 by omega] at h; exact h)
          have HKids : Kept (∀ i, 0 < i → i < n → par i = k → ltL (at_ l1 i) (at_ l1 (2 * k + 2)) = false) := kept (fun i h0 hi hp => by
            rcases par_two h0 hp with e | e <;> subst e; exact oL.asym hR; exact oL.irr _)
          have hL2 := fun wx hx => HLess.out (2 * k + 2) k wx hx (by omega) (by omega)
          rw [show ((2 * k + 2 : Nat) : Int) = 2 * (k : Int) + 1 + 1 by omega] at hL2
          have HL2 := kept hL2
          clear hL2
          cases hb : ltL (at_ l1 (2 * k + 2)) (at_ l1 k) with
          | false =>
            rw [hb] at HL2
            have HB := kept hb
            clear hb HLess
            go_wp2_with fail
            refine HL1.out.mono ?_
            rintro e w1 ⟨rfl, hb1⟩
            have HS1 := kept (HS.out.later hb1)
            have c1 : w1.cell? ⟨p, 0, none⟩ = some (.slice (some ⟨g, 0, none⟩) N cap) := HS1.out.hp.blk.cell rfl
            clear hb1
            go_wp2_with fail
            refine (HL2.out _ HS1.out).mono ?_
            rintro e w2 ⟨rfl, hb2⟩
            have HS2 := kept (HS1.out.later hb2)
            have c2 : w2.cell? ⟨p, 0, none⟩ = some (.slice (some ⟨g, 0, none⟩) N cap) := HS2.out.hp.blk.cell rfl
            clear hb2
            have HF : Kept (Heap ltL l1 n) := kept (down_done HS2.out.inv fun i h0 hi hp => oL.le HB.out (HKids.out i h0 hi hp))
            go_wp2_with fail
            go_ret
            exact ⟨_, l1, rfl, HS2.out.hp, HS2.out.len, HF.out, HS2.out.perm, HS2.out.far, HS2.out.chg⟩
          | true =>
            rw [hb] at HL2
            have HB := kept hb
            clear hb HLess
            go_wp2_with fail
            refine HL1.out.mono ?_
            rintro e w1 ⟨rfl, hb1⟩
            have HS1 := kept (HS.out.later hb1)
            have c1 : w1.cell? ⟨p, 0, none⟩ = some (.slice (some ⟨g, 0, none⟩) N cap) := HS1.out.hp.blk.cell rfl
            clear hb1
            go_wp2_with fail
            refine (HL2.out _ HS1.out).mono ?_
            rintro e w2 ⟨rfl, hb2⟩
            have HS2 := kept (HS1.out.later hb2)
            have c2 : w2.cell? ⟨p, 0, none⟩ = some (.slice (some ⟨g, 0, none⟩) N cap) := HS2.out.hp.blk.cell rfl
            clear hb2
            have HSw := kept (swap_calls g N cap l1 k (2 * k + 2) w2 HS2.out.row (by omega) (by omega))
            rw [show ((2 * k + 2 : Nat) : Int) = 2 * (k : Int) + 1 + 1 by omega] at HSw
            go_wp2_with fail
            refine HSw.out.mono ?_
            rintro e w3 ⟨rfl, ho3, hc3⟩
            have HS3 := kept (HS2.out.swap hn (by omega) (by omega) (par_r k) HB.out HKids.out ho3 hc3)
            clear ho3 hc3
            go_wp2_with fail
            go_roundw
            case rel => exact ⟨2 * k + 2, _, by congr 1, by omega, HS3.out⟩
            case measure => simp [intOf]; omega
        | false =>
          have HL1 : Kept (Calls Try.prog 78 #[.slice (some ⟨g, 0, none⟩) N cap, .int .i64 (2 * (k : Int) + 1 + 1), .int .i64 (2 * (k : Int) + 1)] wr fun e w' => e = .returned (.bool false) ∧ Below wr.heap.size wr w') := kept (by have h := HLess.out (2 * k + 2) (2 * k + 1) wr HS.out (by omega) (by omega); rw [hR, show ((2 * k + 2 : Nat) : Int) = 2 * (k : Int) + 1 + 1 by omega, show ((2 * k + 1 : Nat) : Int) = 2 * (k : Int) + 1 by omega] at h; exact h)
          have HKids : Kept (∀ i, 0 < i → i < n → par i = k → ltL (at_ l1 i) (at_ l1 (2 * k + 1)) = false) := kept (fun i h0 hi hp => by
            rcases par_two h0 hp with e | e <;> subst e; exact oL.irr _; exact hR)
          have hL2 := fun wx hx => HLess.out (2 * k + 1) k wx hx (by omega) (by omega)
          rw [show ((2 * k + 1 : Nat) : Int) = 2 * (k : Int) + 1 by omega] at hL2
          have HL2 := kept hL2
          clear hL2
          cases hb : ltL (at_ l1 (2 * k + 1)) (at_ l1 k) with
          | false =>
            rw [hb] at HL2
            have HB := kept hb
            clear hb HLess
            go_wp2_with fail
            refine HL1.out.mono ?_
            rintro e w1 ⟨rfl, hb1⟩
            have HS1 := kept (HS.out.later hb1)
            have c1 : w1.cell? ⟨p, 0, none⟩ = some (.slice (some ⟨g, 0, none⟩) N cap) := HS1.out.hp.blk.cell rfl
            clear hb1
            go_wp2_with fail
            refine (HL2.out _ HS1.out).mono ?_
            rintro e w2 ⟨rfl, hb2⟩
            have HS2 := kept (HS1.out.later hb2)
            have c2 : w2.cell? ⟨p, 0, none⟩ = some (.slice (some ⟨g, 0, none⟩) N cap) := HS2.out.hp.blk.cell rfl
            clear hb2
            have HF : Kept (Heap ltL l1 n) := kept (down_done HS2.out.inv fun i h0 hi hp => oL.le HB.out (HKids.out i h0 hi hp))
            go_wp2_with fail
            go_ret
            exact ⟨_, l1, rfl, HS2.out.hp, HS2.out.len, HF.out, HS2.out.perm, HS2.out.far, HS2.out.chg⟩
          | true =>
            rw [hb] at HL2
            have HB := kept hb
            clear hb HLess
            go_wp2_with fail
            refine HL1.out.mono ?_
            rintro e w1 ⟨rfl, hb1⟩
            have HS1 := kept (HS.out.later hb1)
            have c1 : w1.cell? ⟨p, 0, none⟩ = some (.slice (some ⟨g, 0, none⟩) N cap) := HS1.out.hp.blk.cell rfl
            clear hb1
            go_wp2_with fail
            refine (HL2.out _ HS1.out).mono ?_
            rintro e w2 ⟨rfl, hb2⟩
            have HS2 := kept (HS1.out.later hb2)
            have c2 : w2.cell? ⟨p, 0, none⟩ = some (.slice (some ⟨g, 0, none⟩) N cap) := HS2.out.hp.blk.cell rfl
            clear hb2
            have HSw := kept (swap_calls g N cap l1 k (2 * k + 1) w2 HS2.out.row (by omega) (by omega))
            rw [show ((2 * k + 1 : Nat) : Int) = 2 * (k : Int) + 1 by omega] at HSw
            go_wp2_with fail
            refine HSw.out.mono ?_
            rintro e w3 ⟨rfl, ho3, hc3⟩
            have HS3 := kept (HS2.out.swap hn (by omega) (by omega) (par_l k) HB.out HKids.out ho3 hc3)
            clear ho3 hc3
            go_wp2_with fail
            go_roundw
            case rel => exact ⟨2 * k + 1, _, by congr 1, by omega, HS3.out⟩
            case measure => simp [intOf]; omega
      · have hC2 : ¬ (2 * (k : Int) + 1 + 1) < (n : Int) := by omega
        have HKids : Kept (∀ i, 0 < i → i < n → par i = k → ltL (at_ l1 i) (at_ l1 (2 * k + 1)) = false) := kept (fun i h0 hi hp => by
          rcases par_two h0 hp with e | e; subst e; exact oL.irr _; omega)
        have hL2 := fun wx hx => HLess.out (2 * k + 1) k wx hx (by omega) (by omega)
        rw [show ((2 * k + 1 : Nat) : Int) = 2 * (k : Int) + 1 by omega] at hL2
        have HL2 := kept hL2
        clear hL2
        cases hb : ltL (at_ l1 (2 * k + 1)) (at_ l1 k) with
        | false =>
          rw [hb] at HL2
          have HB := kept hb
          clear hb HLess
          go_wp2_with fail
          refine (HL2.out _ HS.out).mono ?_
          rintro e w2 ⟨rfl, hb2⟩
          have HS2 := kept (HS.out.later hb2)
          have c2 : w2.cell? ⟨p, 0, none⟩ = some (.slice (some ⟨g, 0, none⟩) N cap) := HS2.out.hp.blk.cell rfl
          clear hb2
          have HF : Kept (Heap ltL l1 n) := kept (down_done HS2.out.inv fun i h0 hi hp => oL.le HB.out (HKids.out i h0 hi hp))
          go_wp2_with fail
          go_ret
          exact ⟨_, l1, rfl, HS2.out.hp, HS2.out.len, HF.out, HS2.out.perm, HS2.out.far, HS2.out.chg⟩
        | true =>
          rw [hb] at HL2
          have HB := kept hb
          clear hb HLess
          go_wp2_with fail
          refine (HL2.out _ HS.out).mono ?_
          rintro e w2 ⟨rfl, hb2⟩
          have HS2 := kept (HS.out.later hb2)
          have c2 : w2.cell? ⟨p, 0, none⟩ = some (.slice (some ⟨g, 0, none⟩) N cap) := HS2.out.hp.blk.cell rfl
          clear hb2
          have HSw := kept (swap_calls g N cap l1 k (2 * k + 1) w2 HS2.out.row (by omega) (by omega))
          rw [show ((2 * k + 1 : Nat) : Int) = 2 * (k : Int) + 1 by omega] at HSw
          go_wp2_with fail
          refine HSw.out.mono ?_
          rintro e w3 ⟨rfl, ho3, hc3⟩
          have HS3 := kept (HS2.out.swap hn (by omega) (by omega) (par_l k) HB.out HKids.out ho3 hc3)
          clear ho3 hc3
          go_wp2_with fail
          go_roundw
          case rel => exact ⟨2 * k + 1, _, by congr 1, by omega, HS3.out⟩
          case measure => simp [intOf]; omega
end Go.Proofs.Ytnakjencodicmaa.CanonH

-- ---- Hec
/- The library's heap: Push and Pop. -/
namespace Go.Proofs.Ytnakjencodicmaa.CanonH
set_option maxRecDepth 100000
set_option linter.unusedSimpArgs false
set_option linter.unusedVariables false
open Go.RowKit Mix _root_.Go.Proofs.Ytnakjencodicmaa.Own Ol Hp
attribute [local go_sem] Own.max_int Own.min_int
attribute [local go_sem] method_len method_less method_swap method_push method_pop

theorem hlen_calls (a : Option Addr) (n cap : Nat) (w : World) : Calls Try.prog 45 #[.slice a n cap] w fun e w' => e = .returned (.int .i64 (n : Int)) ∧ Below w.heap.size w w' := by
  go_enter Try.func45, Try.ntmps45
  go_wp2_with fail
  go_ret
  exact ⟨rfl, Below.refl _ _⟩

set_option maxHeartbeats 4000000 in
theorem hpush_calls (p : Nat) (v : Value) (l : List (Int × Int)) (a1 a2 : Int) (w : World) (h : IsHp w p v l) (hl : l.length < 1000000) (hh : Heap ltL l l.length) :
    Calls Try.prog 44 #[.iface 101 (.pointer (some ⟨p, 0, none⟩)), .iface 106 (.agg #[.int .i64 a1, .int .i64 a2])] w fun e w' => e = .returned (.tuple #[]) ∧
      ∃ v' l', IsHp w' p v' l' ∧ Heap ltL l' l'.length ∧ l'.Perm (l ++ [(a1, a2)]) ∧ Chg (fun b => b = p ∨ some b = v.ownBlock) w w' ∧ ∀ g, v'.ownBlock = some g → some g = v.ownBlock ∨ w.heap.size ≤ g := by
  have H := kept h
  have HHe := kept hh
  clear h hh
  go_enter Try.func44, Try.ntmps44
  go_wp2_with fail
  refine (push_calls p v l a1 a2 _ H.out (by omega)).mono ?_
  rintro e w1 ⟨rfl, v1, h1, hc1, hf1⟩
  have hl1 : (l ++ [(a1, a2)]).length = l.length + 1 := by simp
  obtain ⟨g, cap, rfl, _, _, hgp, hgl⟩ := h1.row0 (by omega)
  rw [hl1] at h1 hf1
  have c1 : w1.cell? ⟨p, 0, none⟩ = some (.slice (some ⟨g, 0, none⟩) (l.length + 1) cap) := by
    have := h1.blk.cell (i := 0) rfl
    exact this
  have hup := fun w1b (hb : Below w1.heap.size w1 w1b) => up_calls p g (l.length + 1) cap (l ++ [(a1, a2)]) l.length w1b (h1.later hb) hl1 (by omega) (by omega) (up_start HHe.out)
  have HUp := kept hup
  have HC1 := kept hc1
  have HF1 := kept (hf1 g rfl)

  clear hup hc1 hf1 h1
  go_wp2_with (first | (go_at_call 45; refine (hlen_calls _ _ _ _).mono ?_; rintro e w1b ⟨rfl, hbl⟩; have HC1b := kept (HC1.out.trans (Chg.of_below (S := fun _ => False) hbl) (fun _ _ h => h.elim)); have HUpb := HUp.out w1b hbl; clear hbl) | (go_at_call 58; refine HUpb.mono ?_; rintro e w2 ⟨rfl, l', h2, hl2, hh2, hp2, hc2⟩; have H2 := kept h2; have HL2 := kept hl2; have HH2 := kept hh2; have HP2 := kept hp2; have HC2 := kept hc2; clear h2 hl2 hh2 hp2 hc2))
  go_end0
  refine ⟨rfl, _, l', H2.out, by rw [HL2.out]; exact HH2.out, HP2.out, HC1b.out.trans HC2.out (fun b hb h => ?_), ?_⟩
  · subst h
    rcases HF1.out with h | h
    · exact .inr h
    · omega
  · intro g' hg'
    simp only [Value.ownBlock, Option.map_some, Option.some.injEq] at hg'
    rw [← hg']; exact HF1.out

set_option maxHeartbeats 4000000 in
theorem hpop_calls (p g n cap : Nat) (l : List (Int × Int)) (w : World) (h : IsHp w p (.slice (some ⟨g, 0, none⟩) (n + 1) cap) l) (hn : l.length = n + 1) (hl : n < 1000000) (hh : Heap ltL l (n + 1)) :
    Calls Try.prog 46 #[.iface 101 (.pointer (some ⟨p, 0, none⟩))] w fun e w' => e = .returned (.iface 106 (.agg #[.int .i64 (at_ l 0).1, .int .i64 (at_ l 0).2])) ∧
      ∃ l', IsHp w' p (.slice (some ⟨g, 0, none⟩) n cap) l' ∧ l'.length = n ∧ Heap ltL l' n ∧ l.Perm (at_ l 0 :: l') ∧ (∀ y ∈ l', ltL y (at_ l 0) = false) ∧ Chg (fun b => b = p ∨ b = g) w w' := by
  have hgp : g ≠ p := fun e => h.ne (by simp [Value.ownBlock, e])
  have H := kept h
  have HHe := kept hh
  have HN := kept hn
  have c0 : w.cell? ⟨p, 0, none⟩ = some (.slice (some ⟨g, 0, none⟩) (n + 1) cap) := h.blk.cell rfl
  have hrow : OwnK w 106 2 (.slice (some ⟨g, 0, none⟩) (n + 1) cap) (n + 1) (fl l) := by have := h.row; rw [hn] at this; exact this
  have HSw0 := kept (fun w0 (hb : Below w.heap.size w w0) => swap_calls g (n + 1) cap l 0 n w0 (hrow.later hb) (by omega) (by omega))

  clear h hh hn hrow
  go_enter Try.func46, Try.ntmps46
  go_wp2_with (first | (go_at_call 45; refine (hlen_calls _ _ _ _).mono ?_; rintro e w0 ⟨rfl, hbl⟩; have H0 := kept (H.out.later hbl); have HC0 := kept (Chg.of_below (S := fun b => b = p ∨ b = g) hbl); have HSw := kept (HSw0.out w0 hbl); have c00 : w0.cell? ⟨p, 0, none⟩ = some (.slice (some ⟨g, 0, none⟩) (n + 1) cap) := H0.out.blk.cell rfl; clear hbl)
                     | (go_at_call 81; refine HSw.out.mono ?_; rintro e w1 ⟨rfl, ho1, hc1⟩
                        have H1 : Kept (IsHp w1 p (.slice (some ⟨g, 0, none⟩) (n + 1) cap) (swapL l 0 n)) := kept ⟨hc1.keep H0.out.blk (fun e => H0.out.ne (by simp [Value.ownBlock, e])), by rw [length_swapL, HN.out]; exact ho1⟩
                        have HC1 := kept (HC0.out.trans hc1 (fun _ _ h => .inr h))
                        have c1 : w1.cell? ⟨p, 0, none⟩ = some (.slice (some ⟨g, 0, none⟩) (n + 1) cap) := H1.out.blk.cell rfl
                        have HDn := kept (down_calls p g (n + 1) cap n (swapL l 0 n) 0 w1 H1.out (by rw [length_swapL]; exact HN.out) (by omega) (by omega) (by omega) (pop_start HN.out HHe.out))
                        clear ho1 hc1)
                     | (go_at_call 59; refine HDn.out.mono ?_; rintro e w2 ⟨b, l2, rfl, h2, hl2, hh2, hp2, hf2, hc2⟩
                        have HPop := kept (pop_calls p g n cap l2 w2 h2 hl2 (by omega))
                        have HH2 := kept hh2
                        have HP2 : Kept (l2.Perm l) := kept (hp2.trans (perm_swap l 0 n (by rw [HN.out]; omega) (by rw [HN.out]; omega)))
                        have HF2 : Kept (at_ l2 n = at_ l 0) := kept (by rw [hf2 n (Nat.le_refl _), at_swap l 0 n n (by rw [HN.out]; omega) (by rw [HN.out]; omega), if_pos rfl])
                        have HC2 := kept hc2
                        have HL2 := kept hl2
                        clear h2 hl2 hh2 hp2 hf2 hc2)
                     | (go_at_call 79; refine HPop.out.mono ?_; rintro e w3 ⟨rfl, h3, hc3⟩; have H3 := kept h3; have HC3 := kept hc3; clear h3 hc3))
  go_ret
  obtain ⟨h1, h2⟩ := pop_end oL HN.out HHe.out HP2.out HF2.out
  rw [HF2.out] at h1 h2 ⊢
  refine ⟨rfl, l2.take n, H3.out, by rw [List.length_take, HL2.out]; omega, heap_take HH2.out, h1, h2, ?_⟩
  exact (HC1.out.trans HC2.out (fun _ _ h => .inr h)).trans HC3.out (fun _ _ h => .inl h)
end Go.Proofs.Ytnakjencodicmaa.CanonH

-- ---- Kd
/- Between the print's words for rows and those of this claim's own texts. No program in sight. -/
namespace Go.Proofs.Ytnakjencodicmaa.Own
set_option maxRecDepth 100000
set_option linter.unusedSimpArgs false
set_option linter.unusedVariables false
open Go Go.RowKit Go.Proofs.YtnakjencodicmaaW.PrintWords

theorem rd_of_C {k : IntKind} {w : World} {A : Option Addr} {n : Nat} {xs : List Int} (h : Kd.C (Kd.int k) w A n xs) : Rd w (.slice A n n) (ints k xs) := by
  obtain ⟨h1, h2, h3⟩ := h
  subst h1
  refine ⟨A, xs.length, by rw [length_ints], by rw [length_ints]; exact Nat.le_refl _, h2, fun i u hu => ?_⟩
  have hi : i < xs.length := by have := (List.getElem?_eq_some_iff.1 hu).1; rwa [length_ints] at this
  obtain ⟨ad, rfl, hc⟩ := h3 (by omega)
  obtain ⟨c, hcl, hK, hcell⟩ := hc i _ (List.getElem?_eq_getElem hi)
  refine ⟨ad, rfl, ?_⟩
  have hK2 : c = [.int k xs[i]] := hK
  have := hcell 0 (.int k xs[i]) (by rw [hK2]; rfl)
  have e : u = .int k xs[i] := by
    unfold ints at hu; rw [List.getElem?_map, List.getElem?_eq_getElem hi] at hu; simp at hu; exact hu.symm
  rw [e]; simpa [Kd.int, Kd.scalar] using this

theorem own_low {w : World} {base e size n : Nat} {v : Value} {xs : List Value} (h : w.ownsRow 0 e size v n xs) (hb : ∀ g, v.ownBlock = some g → base ≤ g) : w.ownsRow base e size v n xs := by
  refine ⟨h.1, ?_⟩
  rcases h.2 with hn | ⟨g, cap, cur, rfl, _, r⟩
  · exact .inl hn
  · exact .inr ⟨g, cap, cur, rfl, hb g rfl, r⟩

/-- A row of elements, their cells one behind the other. -/
theorem R_of_flat {α : Type} (d : Kd α) (enc : α → List Value) {e : Nat} {w : World} {base : Nat} {v : Value} {xs : List α} (hM : ∀ ok x, d.M w base ok x (enc x)) (hl : ∀ x, (enc x).length = d.sz)
    (h : w.ownsRow 0 e d.sz v xs.length (xs.flatMap enc)) (hb : ∀ g, v.ownBlock = some g → base ≤ g) : Kd.R d e w base (fun _ => True) v xs := by
  refine ⟨fun _ _ => trivial, xs.flatMap enc, own_low h hb, ?_⟩
  have key : ∀ (xs : List α), (xs.flatMap enc).length = xs.length * d.sz ∧ ∀ j p, xs[j]? = some p → ((xs.flatMap enc).drop (j * d.sz)).take d.sz = enc p := by
    intro xs
    induction xs with
    | nil => exact ⟨by simp, fun j p hj => by simp at hj⟩
    | cons a t ih =>
      have ha := hl a
      refine ⟨by rw [List.flatMap_cons, List.length_append, ih.1, ha, List.length_cons, Nat.succ_mul]; omega, fun j p hj => ?_⟩
      rw [List.flatMap_cons]
      cases j with
      | zero => simp at hj; subst hj; rw [Nat.zero_mul, List.drop_zero]; exact List.take_left' ha
      | succ j =>
        have e2 : (j + 1) * d.sz = (enc a).length + j * d.sz := by rw [ha, Nat.succ_mul]; omega
        rw [e2, ← List.drop_drop, List.drop_left]
        exact ih.2 j p (by simpa using hj)
  exact ⟨(key xs).1, fun j p hj => by rw [(key xs).2 j p hj]; exact hM _ p⟩

theorem flat_ints (k : IntKind) (xs : List Int) : xs.flatMap (fun x => [Value.int k x]) = ints k xs := by
  unfold ints; induction xs with
  | nil => rfl
  | cons a t ih => simp [ih]
theorem R_of_owns {k : IntKind} {e : Nat} {w : World} {base : Nat} {v : Value} {xs : List Int} (h : Owns w e v (ints k xs)) (hb : ∀ g, v.ownBlock = some g → base ≤ g) : Kd.R (Kd.int k) e w base (fun _ => True) v xs := by
  refine R_of_flat (Kd.int k) (fun x => [Value.int k x]) (fun ok x => rfl) (fun _ => rfl) ?_ hb
  rw [flat_ints]
  have h2 : w.ownsRow 0 e 1 v (ints k xs).length (ints k xs) := h
  rwa [length_ints] at h2
end Go.Proofs.Ytnakjencodicmaa.Own

-- ---- Ub
/- Words of the print's plain functions: small facts. No program in sight. -/
namespace Go.Proofs.Ytnakjencodicmaa.PA
set_option maxRecDepth 100000
set_option linter.unusedVariables false
set_option linter.unusedSimpArgs false
open Go.RowKit Go.Proofs.YtnakjencodicmaaW.PrintWords Go.Proofs.YtnakjencodicmaaW.PrintLast Go.Proofs.YtnakjencodicmaaW.PrintMore

theorem w64 {x : Int} (h1 : -9223372036854775808 ≤ x) (h2 : x ≤ 9223372036854775807) : wrap64 x = x := by unfold wrap64; omega
theorem rd_nat (xs : List Int) (i : Nat) : rd xs (i : Int) = xs.getD i 0 := by unfold rd; rw [Int.toNat_natCast]
theorem pow2_le (k m : Nat) (h : k ≤ m) : 2 ^ k ≤ 2 ^ m := Nat.pow_le_pow_right (by decide) h
theorem i64_wrap_nat (n : Nat) (h : n < 9223372036854775808) : IntKind.i64.wrap (n : Int) = (n : Int) := by
  simp [IntKind.wrap, IntKind.bits, IntKind.signed]; omega
theorem shl_nat (x k : Nat) (hk : k ≤ 62) (h : x * 2 ^ k < 9223372036854775808) : shl .i64 (x : Int) (k : Int) = ((x * 2 ^ k : Nat) : Int) := by
  unfold shl
  have e : min ((k : Int).toNat) (IntKind.bits .i64) = k := by simp [IntKind.bits]; omega
  rw [e]
  have e2 : (x : Int) * 2 ^ k = ((x * 2 ^ k : Nat) : Int) := by simp
  rw [e2, i64_wrap_nat _ h]
theorem shl_1 (k : Nat) (hk : k ≤ 62) : shl .i64 1 (k : Int) = ((2 ^ k : Nat) : Int) := by
  have h := shl_nat 1 k hk (by have := pow2_le k 62 hk; rw [Nat.one_mul]; have e : 2 ^ 62 = 4611686018427387904 := by decide
                               omega)
  rw [Nat.one_mul] at h; exact h
theorem shr_nat (x k : Nat) (hk : k ≤ 64) : shr .i64 (x : Int) (k : Int) = ((x / 2 ^ k : Nat) : Int) := by
  unfold shr
  have e : min ((k : Int).toNat) (IntKind.bits .i64) = k := by simp [IntKind.bits]; omega
  rw [e]; simp
theorem tdiv_nat (a b : Nat) : Int.tdiv (a : Int) (b : Int) = ((a / b : Nat) : Int) := by
  rw [Int.tdiv_eq_ediv_of_nonneg (by omega)]; simp
theorem tmod_nat (a b : Nat) : Int.tmod (a : Int) (b : Int) = ((a % b : Nat) : Int) := by
  rw [Int.tmod_eq_emod_of_nonneg (by omega)]; simp

/-- What a loop comes to, from some number of rounds on: by what is left to do. -/
theorem evq {α : Type} {g : Nat → Option α} {r s : α} (e : r = s) (h : Ev g r) : Ev g s := e ▸ h
/-- A call whose answer needs no rounds. -/
theorem Ev.bind0 {α β : Type} {x : Option α} {f : Nat → α → Option β} {a : α} {r : β} (h : x = some a) (k : Ev (fun n => f n a) r) : Ev (fun n => x.bind (f n)) r := by
  subst h; exact k
theorem Ev.ite_pos {α : Type} {c : Prop} [Decidable c] {f g : Nat → Option α} {r : α} (h : c) (k : Ev f r) : Ev (fun n => if c then f n else g n) r := by
  simpa only [if_pos h] using k
theorem Ev.ite_neg {α : Type} {c : Prop} [Decidable c] {f g : Nat → Option α} {r : α} (h : ¬ c) (k : Ev g r) : Ev (fun n => if c then f n else g n) r := by
  simpa only [if_neg h] using k
theorem Ev.ofSome {α : Type} {r s : α} (h : r = s) : Ev (fun _ => some r) s := by subst h; exact Ev.now r
theorem mx_max (x y : Int) : mx x y = max x y := by unfold mx; split <;> omega
end Go.Proofs.Ytnakjencodicmaa.PA

-- ---- PAx0

namespace Go.Proofs.Ytnakjencodicmaa.PA
open Go.RowKit Go.Proofs.YtnakjencodicmaaW.PrintWords Go.Proofs.YtnakjencodicmaaW.PrintLast Go.Proofs.YtnakjencodicmaaW.PrintMore
attribute [local go_sem] max2_int min2_int max_two min_two max_three min_three max_four min_four   -- for this text's walks alone
set_option linter.unusedVariables false
set_option linter.unusedSimpArgs false



def errW : Option Int → Value
  | none => .nilIface
  | some c => .iface 0 (.int .i64 c)
theorem errW_none : errW none = .nilIface := rfl
theorem errW_some (c : Int) : errW (some c) = .iface 0 (.int .i64 c) := rfl

theorem info2 : (Try.prog.info? 2).map (fun i => (i.zero, i.size, i.bytes)) = some (some (.int .i64 0), 1, 8) := by kernel_rfl
theorem info3 : (Try.prog.info? 3).map (fun i => (i.zero, i.size, i.bytes)) = some (some (.int .i64 0), 1, 8) := by kernel_rfl
theorem info54 : (Try.prog.info? 54).map (fun i => (i.zero, i.size, i.bytes)) = some (some (.agg #[(.int .i64 0), (.int .u64 0)]), 2, 16) := by kernel_rfl
theorem info69 : (Try.prog.info? 69).map (fun i => (i.zero, i.size, i.bytes)) = some (some (.agg #[(.int .i64 0), (.int .i64 0)]), 2, 16) := by kernel_rfl
-- the values' own types
/-! #### struct type 106 -/
structure S106 where
  f0 : Int
  f1 : Int
/-! #### struct type 69 -/
structure S69 where
  f0 : Int
  f1 : Int
def z69 : S69 := ⟨(0 : Int), (0 : Int)⟩
def k69 : Kd S69 := Kd.iso (Kd.pair (Kd.int .i64) (Kd.int .i64)) (fun x : S69 => (x.f0, x.f1))
theorem k69_openM {w : World} {base : Nat} {ok : Nat → Prop} {x : S69} {cs : List Value} (h : k69.M w base ok x cs) : cs = [.int .i64 x.f0, .int .i64 x.f1] := by
  obtain ⟨_, _, rfl, rfl, rfl⟩ := h
  exact rfl
theorem k69_mkM (w : World) (base : Nat) (ok : Nat → Prop) (x : S69)  : k69.M w base ok x [.int .i64 x.f0, .int .i64 x.f1] := ⟨[.int .i64 x.f0], [.int .i64 x.f1], rfl, rfl, rfl⟩
def rd_T69 (xs : List S69) (i : Int) : S69 := xs.getD i.toNat z69
/-! #### struct type 54 -/
structure S54 where
  f0 : Int
  f1 : Int
def z54 : S54 := ⟨(0 : Int), (0 : Int)⟩
def k54 : Kd S54 := Kd.iso (Kd.pair (Kd.int .i64) (Kd.int .u64)) (fun x : S54 => (x.f0, x.f1))
theorem k54_open {w : World} {x : S54} {cs : List Value} (h : k54.K w x cs) : cs = [.int .i64 x.f0, .int .u64 x.f1] := by
  obtain ⟨_, _, rfl, rfl, rfl⟩ := h
  exact rfl
theorem k54_mkM (w : World) (base : Nat) (ok : Nat → Prop) (x : S54)  : k54.M w base ok x [.int .i64 x.f0, .int .u64 x.f1] := ⟨[.int .i64 x.f0], [.int .u64 x.f1], rfl, rfl, rfl⟩
def rd_T54 (xs : List S54) (i : Int) : S54 := xs.getD i.toNat z54
theorem at_T54 {w : World} {A : Option Addr} {n : Nat} {xs : List S54} (h : Kd.C k54 w A n xs) (i : Int) (h0 : 0 ≤ i) (h1 : i < n) : ∃ ad , A = some ad ∧ w.cell? (ad.add (i.toNat * 2)) = some (.int .i64 (rd_T54 xs i).f0) ∧ w.cell? ⟨(ad.add (i.toNat * 2)).block, (ad.add (i.toNat * 2)).off + 1, none⟩ = some (.int .u64 (rd_T54 xs i).f1) := by
  obtain ⟨ad, c, e, _, hK, hc0⟩ := Kd.C_get h z54 i h0 h1
  have hc : ∀ j u, c[j]? = some u → w.cell? (ad.add (i.toNat * 2 + j)) = some u := hc0
  obtain rfl := k54_open hK
  exact ⟨ad, e, hc 0 _ rfl, by rw [← add_field _ _ 1 (by omega)]; exact hc 1 _ rfl⟩

end Go.Proofs.Ytnakjencodicmaa.PA

-- ---- PAx2

namespace Go.Proofs.Ytnakjencodicmaa.PA
open Go.RowKit Go.Proofs.YtnakjencodicmaaW.PrintWords Go.Proofs.YtnakjencodicmaaW.PrintLast Go.Proofs.YtnakjencodicmaaW.PrintMore
attribute [local go_sem] max2_int min2_int max_two min_two max_three min_three max_four min_four   -- for this text's walks alone
set_option linter.unusedVariables false
set_option linter.unusedSimpArgs false

/-! ### canon_May: function 43 -/
mutual
def canon_May.l0 : Nat → Int → Int → List Int → Int → Int → Option (Bool)
  | 0, _, _, _, _, _ => none
  | k + 1, x3, x4, x10, x11, x12 => if x12 < x11 then (if 0 ≤ x12 then (if x12 < (x10.length : Int) then (if (rd x10 x12) < 0 then (canon_May.j1 k x3 x4 (rd x10 x12) x10 x11 x12 true) else (canon_May.j1 k x3 x4 (rd x10 x12) x10 x11 x12 (decide ((rd x10 x12) > 15)))) else (none)) else (none)) else (if x4 = 0 then (some true) else (if x3 = 32768 then (some true) else (if x4 = 1 then (some (x3 == 16384)) else (some false))))
def canon_May.j1 : Nat → Int → Int → Int → List Int → Int → Int → Bool → Option (Bool)
  | 0, _, _, _, _, _, _, _ => none
  | k + 1, x3, x4, x6, x10, x11, x12, x21 => if x21 = true then (some false) else (if x6 > 0 then (if 0 ≤ (wrap64 (15 - x6)) then (canon_May.l0 k (wrap64 (x3 + (shl .i64 1 (wrap64 (15 - x6))))) (wrap64 (x4 + 1)) x10 x11 (wrap64 (x12 + 1))) else (none)) else (canon_May.l0 k x3 x4 x10 x11 (wrap64 (x12 + 1))))
end
def canon_May.f (k : Nat) (l0 : List Int) : Option (Bool) := if (l0.length : Int) = 65 then (canon_May.l0 k 0 0 l0 (l0.length : Int) 0) else (some false)
theorem canon_May.mono_l : ∀ k, (∀ y0 y1 y2 y3 y4, LeO (canon_May.l0 k y0 y1 y2 y3 y4) (canon_May.l0 (k + 1) y0 y1 y2 y3 y4)) ∧ (∀ y0 y1 y2 y3 y4 y5 y6, LeO (canon_May.j1 k y0 y1 y2 y3 y4 y5 y6) (canon_May.j1 (k + 1) y0 y1 y2 y3 y4 y5 y6))
  | 0 => ⟨fun _ _ _ _ _ r h => by simp [canon_May.l0] at h, fun _ _ _ _ _ _ _ r h => by simp [canon_May.j1] at h⟩
  | k + 1 => by
    obtain ⟨ih0, ih1⟩ := canon_May.mono_l k
    refine ⟨?_, ?_⟩
    · intro y0 y1 y2 y3 y4
      unfold canon_May.l0
      repeat' first
      | (with_reducible exact ih0 _ _ _ _ _)
      | (with_reducible exact ih1 _ _ _ _ _ _ _)
      | (with_reducible exact LeO.refl _)
      | (with_reducible exact LeO.none _)
      | (with_reducible refine LeO.ite ?_ ?_)
      | (with_reducible refine LeO.bind ?_ (fun _ => ?_))
      | exact ih0 _ _ _ _ _
      | exact ih1 _ _ _ _ _ _ _
      | exact LeO.none _
      | refine LeO.ite ?_ ?_
      | refine LeO.bind ?_ (fun _ => ?_)
    · intro y0 y1 y2 y3 y4 y5 y6
      unfold canon_May.j1
      repeat' first
      | (with_reducible exact ih0 _ _ _ _ _)
      | (with_reducible exact ih1 _ _ _ _ _ _ _)
      | (with_reducible exact LeO.refl _)
      | (with_reducible exact LeO.none _)
      | (with_reducible refine LeO.ite ?_ ?_)
      | (with_reducible refine LeO.bind ?_ (fun _ => ?_))
      | exact ih0 _ _ _ _ _
      | exact ih1 _ _ _ _ _ _ _
      | exact LeO.none _
      | refine LeO.ite ?_ ?_
      | refine LeO.bind ?_ (fun _ => ?_)
theorem canon_May.mono : ∀ a0 k, LeO (canon_May.f k a0) (canon_May.f (k + 1) a0) := by
  intro a0 k
  obtain ⟨ih0, ih1⟩ := canon_May.mono_l k
  unfold canon_May.f
  repeat' first
      | (with_reducible exact ih0 _ _ _ _ _)
      | (with_reducible exact ih1 _ _ _ _ _ _ _)
      | (with_reducible exact LeO.refl _)
      | (with_reducible exact LeO.none _)
      | (with_reducible refine LeO.ite ?_ ?_)
      | (with_reducible refine LeO.bind ?_ (fun _ => ?_))
      | exact ih0 _ _ _ _ _
      | exact ih1 _ _ _ _ _ _ _
      | exact LeO.none _
      | refine LeO.ite ?_ ?_
      | refine LeO.bind ?_ (fun _ => ?_)
set_option maxHeartbeats 8000000 in
set_option maxRecDepth 100000 in
theorem canon_May.calls (k : Nat) (A0 : Option Addr) (c0 : Nat) (l0 : List Int) (r : Bool) (w : World) (hr0 : Kd.C (Kd.int .i64) w A0 l0.length l0) (hc0 : l0.length ≤ c0) (h : canon_May.f k l0 = some r) :
    Calls Try.prog 43 #[.slice A0 l0.length c0] w fun e w' => e = .returned (.bool r) ∧ Drawn0 w w' := by
  have HR0 := Aside0.mk hr0
  have HC0 := Aside0.mk hc0
  clear hr0 hc0
  have H : (if (l0.length : Int) = 65 then (canon_May.l0 k 0 0 l0 (l0.length : Int) 0) else (some false)) = some r := h
  clear h
  by_cases c2 : (l0.length : Int) = 65
  · rw [if_pos c2] at H
    have c2b0 : ((l0.length : Int) == 65) = true := beq_iff_eq.mpr c2
    have c2b1 : ((l0.length : Int) != 65) = false := bne_eq_false_iff_eq.mpr c2
    clear c2
    have H' := Aside0.mk H
    clear H
    go_enter Try.func43, Try.ntmps43
    go_wp2
    go_loopg [3, 4, 12] k (fun kq v3 v4 v12 w' => ∃ (x3_1 : Int) (x4_1 : Int) (x12_1 : Int), v3 = .int .i64 x3_1 ∧ v4 = .int .i64 x4_1 ∧ v12 = .int .i64 x12_1 ∧ Aside0 (canon_May.l0 kq x3_1 x4_1 l0 (l0.length : Int) x12_1 = some r) ∧ Aside0 (kq ≤ k) ∧ Drawn0 w w')
    case atStart => exact ⟨(0), (0), (0), (by first | rfl | (simp; done) | (simp [*]; done)), (by first | rfl | (simp; done) | (simp [*]; done)), (by first | rfl | (simp; done) | (simp [*]; done)), H', ⟨Nat.le_refl _⟩, by repeat (first | exact Drawn0.refl _ | apply Drawn0.step)⟩
    case round =>
      clear H'
      try clear c2
      try clear c2b0
      try clear c2b1
      try clear p2
      obtain ⟨x3_1, x4_1, x12_1, rfl, rfl, rfl, HA, HK1, ⟨m1, rfl⟩⟩ := hrel
      cases gk with
      | zero => exact absurd HA.out (by simp [canon_May.l0])
      | succ k1 =>
        have H := HA.out
        clear HA
        simp only [canon_May.l0] at H
        by_cases c3 : x12_1 < (l0.length : Int)
        · rw [if_pos c3] at H
          have c3b0 : decide (x12_1 < (l0.length : Int)) = true := decide_eq_true c3
          clear c3
          by_cases c4 : 0 ≤ x12_1
          · rw [if_pos c4] at H
            have c4b0 : decide (0 ≤ x12_1) = true := decide_eq_true c4
            clear c4
            by_cases c5 : x12_1 < (l0.length : Int)
            · rw [if_pos c5] at H
              have c5b0 : decide (x12_1 < (l0.length : Int)) = true := decide_eq_true c5
              clear c5
              have HC6 := Aside0.mk H
              clear H
              have p101 : 0 ≤ (x12_1 : Int) := of_decide_eq_true (by first | (with_reducible assumption) | assumption)
              have q101 : x12_1 < (l0.length : Int) := of_decide_eq_true (by first | (with_reducible assumption) | assumption)
              obtain ⟨ad101, e101, hx101_0⟩ := Kd.at_int HR0.out x12_1 p101 q101
              cases e101
              replace p101 := eq_true p101
              replace q101 := eq_true q101
              go_upto_region 7 with (fail)
              go_cut [21] (fun v21 wc => ∃ (kq : Nat) (x21_5 : Bool), v21 = .bool x21_5 ∧ Aside0 (canon_May.j1 kq x3_1 x4_1 (rd l0 x12_1) l0 (l0.length : Int) x12_1 x21_5 = some r) ∧ Aside0 (kq ≤ k1) ∧ Drawn0 w wc)
              case first =>
                have H := HC6.out
                clear HC6
                by_cases c7 : (rd l0 x12_1) < 0
                · rw [if_pos c7] at H
                  have c7b0 : decide ((rd l0 x12_1) < 0) = true := decide_eq_true c7
                  clear c7
                  (first | rw [c7b0] | (simp only [i64_w, i32_w]; rw [c7b0]) | skip)
                  have H' := Aside0.mk H
                  clear H
                  go_wp2
                  go_meet
                  case rel => exact ⟨_, (true), (by first | rfl | (simp; done) | (simp [*]; done)), H', ⟨by have := HK1.out; first | omega | exact Nat.le_refl _⟩, by repeat (first | exact Drawn0.refl _ | apply Drawn0.step)⟩
                · rw [if_neg c7] at H
                  have c7b0 : decide ((rd l0 x12_1) < 0) = false := decide_eq_false c7
                  clear c7
                  (first | rw [c7b0] | (simp only [i64_w, i32_w]; rw [c7b0]) | skip)
                  have H' := Aside0.mk H
                  clear H
                  go_wp2
                  go_meet
                  case rel => exact ⟨_, (decide ((rd l0 x12_1) > 15)), (by first | rfl | (simp; done) | (simp [*]; done)), H', ⟨by have := HK1.out; first | omega | exact Nat.le_refl _⟩, by repeat (first | exact Drawn0.refl _ | apply Drawn0.step)⟩
              case rest =>
                clear HC6
                try clear p1
                try clear q1
                try clear hx1
                try clear c2
                try clear c2b0
                try clear c2b1
                try clear p2
                try clear c3
                try clear c3b0
                try clear c4
                try clear c4b0
                try clear c5
                try clear c5b0
                try clear c7
                try clear c7b0
                try clear hx101_0
                try clear p101
                try clear p2
                try clear q101
                obtain ⟨kq, x21_5, rfl, HA, HJ5, ⟨mc5, rfl⟩⟩ := hcut
                cases kq with
                | zero => exact absurd HA.out (by simp [canon_May.j1])
                | succ kj5 =>
                  have H := HA.out
                  clear HA
                  simp only [canon_May.j1] at H
                  by_cases c8 : x21_5 = true
                  · subst c8
                    have H1 : (some false) = some r := by rw [if_pos rfl] at H; exact H
                    clear H
                    have H := H1
                    clear H1
                    obtain rfl := Option.some.inj H
                    go_wp2
                    go_ret
                    exact ⟨by first | rfl | (simp; done) | (simp [*]; done), by repeat (first | exact Drawn0.refl _ | apply Drawn0.step)⟩
                  · replace c8 := Bool.eq_false_iff.mpr c8
                    subst c8
                    have H1 : (if (rd l0 x12_1) > 0 then (if 0 ≤ (wrap64 (15 - (rd l0 x12_1))) then (canon_May.l0 kj5 (wrap64 (x3_1 + (shl .i64 1 (wrap64 (15 - (rd l0 x12_1)))))) (wrap64 (x4_1 + 1)) l0 (l0.length : Int) (wrap64 (x12_1 + 1))) else (none)) else (canon_May.l0 kj5 x3_1 x4_1 l0 (l0.length : Int) (wrap64 (x12_1 + 1)))) = some r := by rw [if_neg (show ¬ (false = true) by decide)] at H; exact H
                    clear H
                    have H := H1
                    clear H1
                    by_cases c9 : (rd l0 x12_1) > 0
                    · rw [if_pos c9] at H
                      have c9b0 : decide (0 < (rd l0 x12_1)) = true := decide_eq_true c9
                      clear c9
                      obtain ⟨ji10, hji10⟩ : ∃ j_ : Int, (wrap64 (15 - (rd l0 x12_1))) = j_ := ⟨_, rfl⟩
                      replace H : (if 0 ≤ (ji10) then (canon_May.l0 kj5 (wrap64 (x3_1 + (shl .i64 1 (ji10)))) (wrap64 (x4_1 + 1)) l0 (l0.length : Int) (wrap64 (x12_1 + 1))) else (none)) = some r := by first | (rw [hji10] at H; exact H) | (simp only [hji10] at H ⊢; exact H)
                      have hji10w : (IntKind.i64.wrap (15 - (rd l0 x12_1))) = ji10 := (i64_w _).trans hji10
                      by_cases c11 : 0 ≤ (ji10)
                      · rw [if_pos c11] at H
                        have c11b0 := eq_true c11
                        have c11b1 : decide (0 ≤ (ji10)) = true := decide_eq_true c11
                        clear c11
                        obtain ⟨ji12, hji12⟩ : ∃ j_ : Int, (shl .i64 1 (ji10)) = j_ := ⟨_, rfl⟩
                        replace H : (canon_May.l0 kj5 (wrap64 (x3_1 + (ji12))) (wrap64 (x4_1 + 1)) l0 (l0.length : Int) (wrap64 (x12_1 + 1))) = some r := by first | (rw [hji12] at H; exact H) | (simp only [hji12] at H ⊢; exact H)
                        have hji12_ : (IntKind.i64.wrap (1 * 2 ^ min (ji10).toNat 64)) = ji12 := hji12
                        have hji12z : (ji10) ≤ 64 → (IntKind.i64.wrap (1 * 2 ^ (ji10).toNat)) = ji12 := shl_small hji12
                        have hji12u : (IntKind.i64.wrap (2 ^ min (ji10).toNat 64)) = ji12 := by have h_ := hji12_; rw [Int.one_mul] at h_; exact h_
                        have hji12v : (ji10) ≤ 64 → (IntKind.i64.wrap (2 ^ (ji10).toNat)) = ji12 := fun hle_ => by have h_ := hji12z hle_; rw [Int.one_mul] at h_; exact h_
                        have hji12y : (wrap64 (1 * 2 ^ min (ji10).toNat 64)) = ji12 := (i64_w _).symm.trans hji12_
                        have hji12x : (ji10) ≤ 64 → (wrap64 (1 * 2 ^ (ji10).toNat)) = ji12 := fun h_ => (i64_w _).symm.trans (hji12z h_)
                        have H' := Aside0.mk H
                        clear H
                        go_wp2
                        go_roundg kj5
                        case measure => have := HK1.out; have := HJ5.out; omega
                        case rel => exact ⟨(wrap64 (x3_1 + (ji12))), (wrap64 (x4_1 + 1)), (wrap64 (x12_1 + 1)), (by first | rfl | (simp; done) | (simp only [← hji12] <;> (first | rfl | simp)) | (simp [*]; done)), (by first | rfl | (simp; done) | (simp [*]; done)), (by first | rfl | (simp; done) | (simp [*]; done)), H', ⟨by have := HK1.out; have := HJ5.out; omega⟩, by repeat (first | exact Drawn0.refl _ | apply Drawn0.step)⟩
                      · rw [if_neg c11] at H
                        exact absurd H (by simp)
                    · rw [if_neg c9] at H
                      have c9b0 : decide (0 < (rd l0 x12_1)) = false := decide_eq_false c9
                      clear c9
                      have H' := Aside0.mk H
                      clear H
                      go_wp2
                      go_roundg kj5
                      case measure => have := HK1.out; have := HJ5.out; omega
                      case rel => exact ⟨(x3_1), (x4_1), (wrap64 (x12_1 + 1)), (by first | rfl | (simp; done) | (simp [*]; done)), (by first | rfl | (simp; done) | (simp [*]; done)), (by first | rfl | (simp; done) | (simp [*]; done)), H', ⟨by have := HK1.out; have := HJ5.out; omega⟩, by repeat (first | exact Drawn0.refl _ | apply Drawn0.step)⟩
            · rw [if_neg c5] at H
              exact absurd H (by simp)
          · rw [if_neg c4] at H
            exact absurd H (by simp)
        · rw [if_neg c3] at H
          have c3b0 : decide (x12_1 < (l0.length : Int)) = false := decide_eq_false c3
          clear c3
          by_cases c13 : x4_1 = 0
          · rw [if_pos c13] at H
            have c13b0 : (x4_1 == 0) = true := beq_iff_eq.mpr c13
            have c13b1 : (x4_1 != 0) = false := bne_eq_false_iff_eq.mpr c13
            clear c13
            obtain rfl := Option.some.inj H
            go_wp2
            go_ret
            exact ⟨by first | rfl | (simp; done) | (simp [*]; done), by repeat (first | exact Drawn0.refl _ | apply Drawn0.step)⟩
          · rw [if_neg c13] at H
            have c13b0 : (x4_1 == 0) = false := beq_eq_false_iff_ne.mpr c13
            have c13b1 : (x4_1 != 0) = true := bne_iff_ne.mpr c13
            by_cases c14 : x3_1 = 32768
            · rw [if_pos c14] at H
              have c14b0 : (x3_1 == 32768) = true := beq_iff_eq.mpr c14
              have c14b1 : (x3_1 != 32768) = false := bne_eq_false_iff_eq.mpr c14
              clear c14
              obtain rfl := Option.some.inj H
              go_wp2
              go_ret
              exact ⟨by first | rfl | (simp; done) | (simp [*]; done), by repeat (first | exact Drawn0.refl _ | apply Drawn0.step)⟩
            · rw [if_neg c14] at H
              have c14b0 : (x3_1 == 32768) = false := beq_eq_false_iff_ne.mpr c14
              have c14b1 : (x3_1 != 32768) = true := bne_iff_ne.mpr c14
              by_cases c15 : x4_1 = 1
              · rw [if_pos c15] at H
                have c15b0 : (x4_1 == 1) = true := beq_iff_eq.mpr c15
                have c15b1 : (x4_1 != 1) = false := bne_eq_false_iff_eq.mpr c15
                clear c15
                obtain rfl := Option.some.inj H
                go_wp2
                go_ret
                exact ⟨by first | rfl | (simp; done) | (simp [*]; done), by repeat (first | exact Drawn0.refl _ | apply Drawn0.step)⟩
              · rw [if_neg c15] at H
                have c15b0 : (x4_1 == 1) = false := beq_eq_false_iff_ne.mpr c15
                have c15b1 : (x4_1 != 1) = true := bne_iff_ne.mpr c15
                obtain rfl := Option.some.inj H
                go_wp2
                go_ret
                exact ⟨by first | rfl | (simp; done) | (simp [*]; done), by repeat (first | exact Drawn0.refl _ | apply Drawn0.step)⟩
  · rw [if_neg c2] at H
    have c2b0 : ((l0.length : Int) == 65) = false := beq_eq_false_iff_ne.mpr c2
    have c2b1 : ((l0.length : Int) != 65) = true := bne_iff_ne.mpr c2
    obtain rfl := Option.some.inj H
    go_enter Try.func43, Try.ntmps43
    go_wp2
    go_ret
    exact ⟨by first | rfl | (simp; done) | (simp [*]; done), by repeat (first | exact Drawn0.refl _ | apply Drawn0.step)⟩

end Go.Proofs.Ytnakjencodicmaa.PA
