/- Part B1 of what the layer's laws stand on: Own, Sized, Af, Bits, Mix, By, Owk, Hp, Ol, Hah, Han, Hbh, Hbn, Hch, Hcn, Hdh, Hdn, Heh, Hen, Hfn, Ro, Ho, Kd, Len8, My. Written by a program (merge.py) out of this session's own texts and of what the kit's print wrote over stand-ins (sp.py). Conditions: those that each theorem names. -/
import Derived.WalkKit
import Derived.Deep.Quiet
import Derived.Deep.Draws
import Derived.Laws.Rows
import Derived.Laws.Tables
import Derived.SizedLaws
import Derived.ChangeSlices
import Derived.Deep.DeepAppendWide
import Derived.Laws.OwnMore
import Derived.Laws.BitsAllLaws
import Derived.Laws.Bits64
import Derived.Laws.Strings
import Derived.OrdersHeld
import Derived.StillTail
import Derived.Below
import Derived.Test.YtbldocbijihpgaaProg
import Derived.Laws.IdiomStrings
import Derived.Maps.AppendAt
import Derived.Laws.MakeOwn
import Derived.WalkSpells
import Derived.WalkLawsBesides
import Derived.BigQuiet
import Derived.Lib.Hide
import Derived.Deep.DeepCutAuto
import Derived.OpenShut
import Derived.Test.YtbldocbijihpgaaWWords
import Derived.Lib.Strings
import Derived.Lib.Slices
import Derived.Lib.Small
import Derived.Lib.Walk
import Derived.Lib.BitFns
import Derived.Deep.Light
-- ---- Own
/- Small laws on memory that a call makes for itself: what has changed between two worlds, rows that are owned, blocks that are known. No program in sight. -/
namespace Go.Proofs.Ytbldocbijihpgaa.Own
set_option linter.unusedSimpArgs false
set_option linter.unusedVariables false
open Go Go.RowKit

/-- A fact that the walk does not see, nor unfold. -/
@[irreducible] def Kept (p : Prop) : Prop := p
theorem kept {p : Prop} (h : p) : Kept p := by unfold Kept; exact h
theorem Kept.out {p : Prop} (h : Kept p) : p := by unfold Kept at h; exact h

/-- The greater of two, the lesser of two, as Go's builtins reckon them. -/
def mx (x y : Int) : Int := if x < y then y else x
def mn (x y : Int) : Int := if y < x then y else x
theorem mx_eq (x y : Int) : mx x y = max x y := by unfold mx; omega
theorem mn_eq (x y : Int) : mn x y = min x y := by unfold mn; omega
theorem max_int (ats : Array TypeId) (ty : TypeId) (k k' : IntKind) (x y : Int) : Builtin.max_ ats ty #[.int k x, .int k' y] = pure (.int k (mx x y)) := by
  simp only [Builtin.max_, List.foldlM_cons, List.foldlM_nil, Builtin.max2, gt_iff_lt]
  rfl
theorem min_int (ats : Array TypeId) (ty : TypeId) (k k' : IntKind) (x y : Int) : Builtin.min_ ats ty #[.int k x, .int k' y] = pure (.int k (mn x y)) := by
  simp only [Builtin.min_, List.foldlM_cons, List.foldlM_nil, Builtin.min2]
  rfl

/-- Between w and w' blocks may have come, and of w's blocks only those in S have turned. -/
structure Chg (S : Nat → Prop) (w w' : World) : Prop where
  os : w'.os = w.os
  tape : w'.tape = w.tape
  output : w'.output = w.output
  size : w.heap.size ≤ w'.heap.size
  block : ∀ k, k < w.heap.size → ¬ S k → w'.heap[k]? = w.heap[k]?

theorem Chg.refl (S : Nat → Prop) (w : World) : Chg S w w := ⟨rfl, rfl, rfl, Nat.le_refl _, fun _ _ _ => rfl⟩
theorem Chg.mono {S S' : Nat → Prop} {w w' : World} (h : Chg S w w') (hs : ∀ k, k < w.heap.size → S k → S' k) : Chg S' w w' :=
  ⟨h.os, h.tape, h.output, h.size, fun k hk hn => h.block k hk fun hS => hn (hs k hk hS)⟩
theorem Chg.trans {S S2 : Nat → Prop} {a b c : World} (h : Chg S a b) (k : Chg S2 b c) (hs : ∀ k, k < a.heap.size → S2 k → S k) : Chg S a c :=
  ⟨k.os.trans h.os, k.tape.trans h.tape, k.output.trans h.output, Nat.le_trans h.size k.size, fun i hi hn => (k.block i (Nat.lt_of_lt_of_le hi h.size) fun h2 => hn (hs i hi h2)).trans (h.block i hi hn)⟩
theorem Chg.of_below {S : Nat → Prop} {w w' : World} (h : Below w.heap.size w w') : Chg S w w' := ⟨h.os, h.tape, h.output, h.size, fun k hk _ => h.block k hk⟩
theorem Chg.of_grown {w w' : World} {row : Option Nat} (h : w.grownBy w' row) : Chg (fun k => some k = row) w w' := ⟨h.os, h.tape, h.output, h.size, fun k hk hn => h.block k hk hn⟩
theorem Chg.below {S : Nat → Prop} {w w' : World} (h : Chg S w w') {B : Nat} (hB : B ≤ w.heap.size) (hs : ∀ k, k < B → ¬ S k) : Below B w w' :=
  ⟨h.os, h.tape, h.output, h.size, fun k hk => h.block k (Nat.lt_of_lt_of_le hk hB) (hs k hk)⟩
theorem Chg.keep {S : Nat → Prop} {w w' : World} (h : Chg S w w') {k : Nat} {o : Obj} (ho : w.heap[k]? = some o) (hn : ¬ S k) : w'.heap[k]? = some o :=
  (h.block k (Array.getElem?_eq_some_iff.1 ho).1 hn).trans ho
theorem Chg.setCell (w : World) (p : Addr) (v : Value) : Chg (fun k => k = p.block) w (w.setCell p v) :=
  ⟨rfl, rfl, rfl, by simp [World.setCell], fun k _ hn => Below.heap_setCell _ _ _ _ hn⟩
theorem Chg.alloc (S : Nat → Prop) (w : World) (o : Obj) : Chg S w (w.alloc o) := ⟨rfl, rfl, rfl, by simp, fun k hk _ => Below.heap_alloc _ _ _ hk⟩
theorem Chg.drew (S : Nat → Prop) (w : World) : Chg S w w.drew := ⟨rfl, rfl, rfl, Nat.le_refl _, fun _ _ _ => rfl⟩

theorem lt_of_some {w : World} {k : Nat} {o : Obj} (h : w.heap[k]? = some o) : k < w.heap.size := (Array.getElem?_eq_some_iff.1 h).1

/-- A block that is known whole. -/
abbrev Blk (w : World) (p : Nat) (cs : Array Value) (t : TypeId) : Prop := w.heap[p]? = some (.cells cs t (0, 0))

theorem Blk.cell {w : World} {p : Nat} {cs : Array Value} {t : TypeId} (h : Blk w p cs t) {i : Nat} {v : Value} (hv : cs[i]? = some v) : w.cell? ⟨p, i, none⟩ = some v := by
  simp [World.cell?, h, hv]
theorem Blk.free {w : World} {p : Nat} {cs : Array Value} {t : TypeId} (h : Blk w p cs t) (i : Nat) : w.frozen? ⟨p, i, none⟩ = false := by
  simp [World.frozen?, h]
theorem Blk.lt {w : World} {p : Nat} {cs : Array Value} {t : TypeId} (h : Blk w p cs t) : p < w.heap.size := lt_of_some h
theorem Blk.set {w : World} {p : Nat} {cs : Array Value} {t : TypeId} (h : Blk w p cs t) (i : Nat) (v : Value) : Blk (w.setCell ⟨p, i, none⟩ v) p (cs.setIfInBounds i v) t := by
  show (w.setCell ⟨p, i, none⟩ v).heap[p]? = _
  have h' : w.heap[p]? = some (.cells cs t (0, 0)) := h
  simp [World.setCell, Array.getElem?_modify, h']
theorem Blk.setOther {w : World} {p : Nat} {cs : Array Value} {t : TypeId} (h : Blk w p cs t) {a : Addr} (hn : p ≠ a.block) (v : Value) : Blk (w.setCell a v) p cs t :=
  (Below.heap_setCell w a v p hn).trans h
theorem Blk.setRow {w : World} {p : Nat} {cs : Array Value} {t : TypeId} (h : Blk w p cs t) (ds : Array Value) : Blk (w.setRow p ds) p ds t := setRow_heap w p cs ds t (0, 0) h
theorem Blk.setRowOther {w : World} {p g : Nat} {cs : Array Value} {t : TypeId} (h : Blk w p cs t) (hn : p ≠ g) (ds : Array Value) : Blk (w.setRow g ds) p cs t := (setRow_other w g p ds hn).trans h
theorem Chg.setRow (w : World) (g : Nat) (ds : Array Value) : Chg (fun k => k = g) w (w.setRow g ds) := ⟨rfl, rfl, rfl, by simp, fun k _ hn => setRow_other w g k ds hn⟩
theorem Blk.alloc {w : World} {p : Nat} {cs : Array Value} {t : TypeId} (h : Blk w p cs t) (o : Obj) : Blk (w.alloc o) p cs t :=
  (Below.heap_alloc w o p h.lt).trans h
theorem Blk.fresh (w : World) (cs : Array Value) (t : TypeId) : Blk (w.alloc (.cells cs t)) w.heap.size cs t := heap_alloc_new w _
theorem Blk.fresh_at (w : World) (q : Nat) (hq : q = w.heap.size) (cs : Array Value) (t : TypeId) : Blk (w.alloc (.cells cs t)) q cs t := by subst hq; exact Blk.fresh w cs t
theorem Blk.ne {w : World} {p q : Nat} {cs ds : Array Value} {t u : TypeId} (h : Blk w p cs t) (k : Blk w q ds u) (hne : t ≠ u) : p ≠ q := by
  rintro rfl
  have := h.symm.trans k
  simp at this
  exact hne this.2

/-- v is a slice whose cells are xs, alone in a block of its own, or nil. -/
def Owns (w : World) (e : TypeId) (v : Value) (xs : List Value) : Prop := w.ownsRow 0 e 1 v xs.length xs

theorem Owns.nil (w : World) (e : TypeId) : Owns w e (.slice none 0 0) [] := World.ownsRow_nil w 0 e 1

theorem Owns.form {w : World} {e : TypeId} {v : Value} {xs : List Value} (h : Owns w e v xs) :
    (v = .slice none 0 0 ∧ xs = []) ∨ ∃ g cap cur, v = .slice (some ⟨g, 0, none⟩) xs.length cap ∧ Blk w g cur e ∧ xs.length ≤ cap ∧ cap ≤ maxLen ∧ cur.size = cap ∧ cur.toList.take xs.length = xs := by
  rcases h.2 with ⟨hv, hn⟩ | ⟨g, cap, cur, hv, _, hg, hc, hm, hs, ht⟩
  · exact .inl ⟨hv, List.length_eq_zero_iff.1 hn⟩
  · exact .inr ⟨g, cap, cur, hv, hg, hc, hm, by simpa using hs, by simpa using ht⟩

theorem Owns.mk {w : World} {e : TypeId} {g cap : Nat} {cur : Array Value} {xs : List Value} (hg : Blk w g cur e) (hc : xs.length ≤ cap) (hm : cap ≤ maxLen) (hs : cur.size = cap) (ht : cur.toList.take xs.length = xs) :
    Owns w e (.slice (some ⟨g, 0, none⟩) xs.length cap) xs :=
  ⟨by simp, .inr ⟨g, cap, cur, rfl, Nat.zero_le _, hg, hc, hm, by simpa using hs, by simpa using ht⟩⟩

theorem Owns.keep {w w' : World} {e : TypeId} {v : Value} {xs : List Value} (h : Owns w e v xs) (hk : ∀ g, v.ownBlock = some g → g < w.heap.size → w'.heap[g]? = w.heap[g]?) : Owns w' e v xs := by
  refine ⟨h.1, ?_⟩
  rcases h.2 with hn | ⟨g, cap, cur, rfl, hb, hgg, rest⟩
  · exact .inl hn
  · exact .inr ⟨g, cap, cur, rfl, hb, (hk g rfl (lt_of_some hgg)).trans hgg, rest⟩
theorem Owns.chg {w w' : World} {S : Nat → Prop} {e : TypeId} {v : Value} {xs : List Value} (h : Owns w e v xs) (hc : Chg S w w') (hn : ∀ g, v.ownBlock = some g → ¬ S g) : Owns w' e v xs :=
  h.keep fun g hg hl => hc.block g hl (hn g hg)
theorem Owns.alloc {w : World} {e : TypeId} {v : Value} {xs : List Value} (h : Owns w e v xs) (o : Obj) : Owns (w.alloc o) e v xs :=
  h.keep fun g _ hl => Below.heap_alloc w o g hl
theorem Owns.drew {w : World} {e : TypeId} {v : Value} {xs : List Value} (h : Owns w e v xs) : Owns w.drew e v xs := h
theorem Owns.setOther {w : World} {e : TypeId} {v : Value} {xs : List Value} (h : Owns w e v xs) {a : Addr} (hn : v.ownBlock ≠ some a.block) (u : Value) : Owns (w.setCell a u) e v xs :=
  h.keep fun g hg _ => Below.heap_setCell w a u g fun e => hn (by rw [hg, e])

theorem Owns.setRowOther {w : World} {e : TypeId} {v : Value} {xs : List Value} (h : Owns w e v xs) {p : Nat} (hn : v.ownBlock ≠ some p) (ds : Array Value) : Owns (w.setRow p ds) e v xs :=
  h.keep fun g hg _ => setRow_other w p g ds fun e => hn (by rw [hg, e])

theorem Owns.lt {w : World} {e : TypeId} {v : Value} {xs : List Value} (h : Owns w e v xs) : ∀ g, v.ownBlock = some g → g < w.heap.size := fun g hg => (World.ownsRow.lt h g hg).2
theorem Owns.blk {w : World} {e : TypeId} {v : Value} {xs : List Value} (h : Owns w e v xs) : ∀ g, v.ownBlock = some g → ∃ cur, Blk w g cur e := by
  intro g hg
  rcases h.form with ⟨rfl, _⟩ | ⟨g', cap, cur, rfl, hb, _⟩
  · simp [Value.ownBlock] at hg
  · simp [Value.ownBlock] at hg; subst hg; exact ⟨cur, hb⟩
/-- An owned row lies elsewhere than a block of another type. -/
theorem Owns.ne {w : World} {e t : TypeId} {v : Value} {xs : List Value} {p : Nat} {cs : Array Value} (h : Owns w e v xs) (k : Blk w p cs t) (hne : e ≠ t) : v.ownBlock ≠ some p := by
  intro hg
  obtain ⟨cur, hb⟩ := h.blk p hg
  exact hb.ne k hne rfl

theorem Owns.row {w : World} {e : TypeId} {v : Value} {xs : List Value} (h : Owns w e v xs) (hx : xs ≠ []) : ∃ g cap, v = .slice (some ⟨g, 0, none⟩) xs.length cap ∧ xs.length ≤ cap ∧ g < w.heap.size := by
  rcases h.form with ⟨_, rfl⟩ | ⟨g, cap, cur, rfl, hb, hc, _⟩
  · exact absurd rfl hx
  · exact ⟨g, cap, rfl, hc, hb.lt⟩

theorem Owns.cell {w : World} {e : TypeId} {g n cap : Nat} {xs : List Value} (h : Owns w e (.slice (some ⟨g, 0, none⟩) n cap) xs) {j : Nat} {u : Value} (hu : xs[j]? = some u) : w.cell? ⟨g, j, none⟩ = some u := by
  have hn : n = xs.length := by
    rcases h.form with ⟨hv, _⟩ | ⟨_, _, _, hv, _⟩
    · simp at hv
    · simp at hv; exact hv.2.1
  subst hn
  have hj : j < xs.length := (List.getElem?_eq_some_iff.1 hu).1
  rw [World.ownsRow.cellAt h j (by omega), hu]
theorem Owns.free {w : World} {e : TypeId} {g n cap : Nat} {xs : List Value} (h : Owns w e (.slice (some ⟨g, 0, none⟩) n cap) xs) (j : Nat) : w.frozen? ⟨g, j, none⟩ = false := by
  obtain ⟨cur, hb⟩ := h.blk g rfl
  exact hb.free j
theorem Owns.store {w : World} {e : TypeId} {g n cap : Nat} {xs : List Value} (h : Owns w e (.slice (some ⟨g, 0, none⟩) n cap) xs) (j : Nat) (u : Value) :
    Owns (w.setCell ⟨g, j, none⟩ u) e (.slice (some ⟨g, 0, none⟩) n cap) (xs.set j u) := by
  rcases h.form with ⟨hv, _⟩ | ⟨g', cap', cur, hv, hb, hc, hm, hs, ht⟩
  · simp at hv
  · simp only [Value.slice.injEq, Option.some.injEq, Addr.mk.injEq, and_true] at hv
    obtain ⟨rfl, rfl, rfl⟩ := hv
    have := hb.set j u
    have h2 := Owns.mk (xs := xs.set j u) this (by simpa using hc) hm (by simpa using hs) (by
      rw [List.length_set, Array.toList_setIfInBounds, List.take_set, ht])
    simpa using h2

theorem Owns.length {w : World} {e : TypeId} {a : Option Addr} {n cap : Nat} {xs : List Value} (h : Owns w e (.slice a n cap) xs) : n = xs.length := by
  rcases h.form with ⟨hv, hx⟩ | ⟨g', cap', cur, hv, _⟩
  · simp at hv; simp [hx, hv]
  · simp at hv; exact hv.2.1

section
variable {P : Program} {w : World}

/-- 'append' onto what the call owns: where the result lies. Sizes of one cell. -/
theorem run_append_at (t ty e : TypeId) (i : TypeInfo) (z : Value) (bytes : Nat) (ht : P.underlying t = some (.slice e)) (hi : P.info? e = some i) (hz : i.zero = some z)
    (hsize : i.size = 1) (hby : i.bytes = bytes) (hzs : z.cells.size = 1)
    (v : Value) (xs : List Value) (hown : Owns w e v xs)
    (a : Addr) (m c : Nat) (news : List Value) (hl : news.length = m) (hnews : ∀ j u, news[j]? = some u → w.cell? (a.add j) = some u) (h1 : ∀ u ∈ news, u.oneCell' = true)
    (h63 : xs.length + m ≤ maxLen) (hbytes : (xs.length + m) * bytes ≤ 140737488355328) :
    ∃ v' w', (Builtin.append_ #[t, t] ty #[v, .slice (some a) m c]).run P w = .ok v' w' ∧ Owns w' e v' (xs ++ news) ∧ w.grownBy w' v.ownBlock ∧
      (∀ g, v'.ownBlock = some g → some g = v.ownBlock ∨ w.heap.size ≤ g) := by
  have hl1 : news.length = m * 1 := by omega
  obtain ⟨v', w', hr, ho, hg, _⟩ := run_append_own (P := P) w 0 t ty e i z 1 bytes ht hi hz hsize hby hzs (by decide) v xs.length xs hown a m c news hl1 hnews h1 h63 hbytes (Nat.zero_le _)
  refine ⟨v', w', hr, ?_, hg, ?_⟩
  · unfold Owns
    rw [List.length_append, hl]
    exact ho
  · intro g hgv
    rcases hown.form with ⟨rfl, hx⟩ | ⟨g0, cap, cur, rfl, hb, hc, hm, hs, htk⟩
    · right
      subst hx
      obtain ⟨v2, w2, hr2, ho2, _, _⟩ := run_append_own (P := P) w w.heap.size t ty e i z 1 bytes ht hi hz hsize hby hzs (by decide) (.slice none 0 0) 0 [] (World.ownsRow_nil w _ e 1) a m c news hl1 hnews h1 (by simpa using h63) (by simpa using hbytes) (Nat.le_refl _)
      have e1 := hr.symm.trans hr2
      simp only [Result.ok.injEq] at e1
      rw [e1.1] at hgv
      exact (ho2.lt g hgv).1
    · by_cases hroom : xs.length + m ≤ cap
      · left
        have hr3 := run_append_room (P := P) w t ty e i ht hi g0 xs.length cap cur hb a m c news (by rw [hsize]; exact hl1) hnews h1 hroom (by rw [hsize, hs, hl]; omega)
        have e1 := hr.symm.trans hr3
        simp only [Result.ok.injEq] at e1
        rw [e1.1] at hgv
        exact hgv.symm
      · right
        have holds : ∀ j u, xs[j]? = some u → w.cell? ((⟨g0, 0, none⟩ : Addr).add j) = some u := World.ownsRow.cells hown (g := g0) rfl
        have hr3 := run_append_grow (P := P) w t ty e i z ht hi hz ⟨g0, 0, none⟩ xs.length cap xs (by rw [hsize]; omega) holds a m c news (by rw [hsize]; exact hl1) hnews (by omega) (by simp only [maxLen] at h63; omega) (growslice_fits (by omega) (by rw [hby]; exact hbytes))
        have e1 := hr.symm.trans hr3
        simp only [Result.ok.injEq] at e1
        rw [e1.1] at hgv
        simp [Value.ownBlock] at hgv
        omega

/-- The law at the operation. -/
theorem wpList_app {ops : Array Oper} {rest : List Oper} {o : Oper} {a : Act} {Q : Exit → Act → World → Prop} (hgd : o.guard = none) (s x : Operand) (t : TypeId)
    (ho : o.op = .call { callee := .builtin .append, args := #[s, x], argTypes := #[t, t] })
    (e : TypeId) (i : TypeInfo) (z : Value) (bytes : Nat) (ht : P.underlying t = some (.slice e)) (hi : P.info? e = some i) (hz : i.zero = some z)
    (hsize : i.size = 1) (hby : i.bytes = bytes) (hzs : z.cells.size = 1)
    (v : Value) (xs : List Value) (hs : a.eval s = v) (hown : Owns w e v xs)
    (ad : Addr) (m c : Nat) (news : List Value) (hx : a.eval x = .slice (some ad) m c) (hl : news.length = m) (hnews : ∀ j u, news[j]? = some u → w.cell? (ad.add j) = some u) (h1 : ∀ u ∈ news, u.oneCell' = true)
    (h63 : xs.length + m ≤ maxLen) (hbytes : (xs.length + m) * bytes ≤ 140737488355328)
    (h : ∀ v' w', Owns w' e v' (xs ++ news) → Chg (fun k => some k = v.ownBlock) w w' → (∀ g, v'.ownBlock = some g → some g = v.ownBlock ∨ w.heap.size ≤ g) → wpList P ops Q rest (a.put o.dst v') w') : wpList P ops Q (o :: rest) a w :=
  wpList_plain hgd fun K hK => by
    obtain ⟨v', w', hr, h2, h3, h4⟩ := run_append_at (P := P) t o.type e i z bytes ht hi hz hsize hby hzs v xs hown ad m c news hl hnews h1 h63 hbytes
    unfold Oper.wp execOp
    simp only [ho, resolve, invoke, builtin, Sem.run_bind, Sem.run_pure, Result.andThen_ok, List.map_toArray, List.map_cons, List.map_nil, hs, hx, hr]
    exact hK _ _ (h v' w' h2 (Chg.of_grown h3) h4)

/-- The same, of one element that lies in a new block. -/
theorem wpList_app1 {ops : Array Oper} {rest : List Oper} {o : Oper} {a : Act} {Q : Exit → Act → World → Prop} (hgd : o.guard = none) (s x : Operand) (t : TypeId)
    (ho : o.op = .call { callee := .builtin .append, args := #[s, x], argTypes := #[t, t] })
    (e : TypeId) (i : TypeInfo) (z : Value) (bytes : Nat) (ht : P.underlying t = some (.slice e)) (hi : P.info? e = some i) (hz : i.zero = some z)
    (hsize : i.size = 1) (hby : i.bytes = bytes) (hzs : z.cells.size = 1)
    (v : Value) (xs : List Value) (u : Value) (hs : a.eval s = v) (hown : Owns w e v xs) (h1 : u.oneCell' = true)
    (hx : a.eval x = .slice (some ⟨w.heap.size, 0, none⟩) 1 1)
    (h63 : xs.length + 1 ≤ maxLen) (hbytes : (xs.length + 1) * bytes ≤ 140737488355328)
    (h : ∀ v' w', Owns w' e v' (xs ++ [u]) → Chg (fun k => some k = v.ownBlock) w w' → (∀ g, v'.ownBlock = some g → some g = v.ownBlock ∨ w.heap.size ≤ g) → wpList P ops Q rest (a.put o.dst v') w') :
    wpList P ops Q (o :: rest) a (w.alloc (.cells #[u] e)) :=
  wpList_app (w := w.alloc (.cells #[u] e)) hgd s x t ho e i z bytes ht hi hz hsize hby hzs v xs hs (hown.alloc _) ⟨w.heap.size, 0, none⟩ 1 1 [u] hx rfl
    (fun j y hj => by
      match j, hj with
      | 0, hj => simp at hj; subst hj; simp [Addr.add])
    (fun y hy => by simp at hy; subst hy; exact h1) h63 hbytes
    (fun v' w' k1 k2 k3 => h v' w' k1 ((Chg.alloc _ w _).trans k2 fun _ _ h => h) fun g hg => (k3 g hg).imp id fun h => by simp at h; omega)

/-- 'make([]T, n)', the elements of one cell. -/
theorem wpList_mk1 {ops : Array Oper} {rest : List Oper} {o : Oper} {a : Act} {Q : Exit → Act → World → Prop} (hgd : o.guard = none) (l c : Operand) (t : TypeId) (ho : o.op = Op.makeSlice t l c)
    (e : TypeId) (i : TypeInfo) (z : Value) (bytes : Nat) (ht : P.underlying t = some (.slice e)) (hi : P.info? e = some i) (hz : i.zero = some z) (hsize : i.size = 1) (hby : i.bytes = bytes) (hzs : z.cells = #[z])
    (kl kc : IntKind) (L C : Int) (n : Nat) (hl : a.eval l = .int kl L) (hc : a.eval c = .int kc C) (hL : L = (n : Int)) (hC : C = (n : Int)) (b2 : bytes * n ≤ 281474976710656) (b3 : n ≤ maxLen)
    (h : ∀ w', Owns w' e (.slice (some ⟨w.heap.size, 0, none⟩) n n) (List.replicate n z) → Below w.heap.size w w' → w.heap.size < w'.heap.size → wpList P ops Q rest (a.put o.dst (.slice (some ⟨w.heap.size, 0, none⟩) n n)) w') :
    wpList P ops Q (o :: rest) a w := by
  refine wpList_make_full w hgd l c t ho 0 e i z 1 ht hi hz hsize kl kc L C n hl hc hL hC (by rw [hby]; exact b2) b3 (Nat.zero_le _) fun w' hown hg => ?_
  rw [hzs, Nat.mul_one, toList_madeCells_one] at hown
  have ho2 : Owns w' e (.slice (some ⟨w.heap.size, 0, none⟩) n n) (List.replicate n z) := by
    unfold Owns
    rw [List.length_replicate]
    exact hown
  exact h w' ho2 ⟨hg.os, hg.tape, hg.output, hg.size, fun k hk => hg.block k hk (by simp)⟩ (ho2.lt _ rfl)
end

theorem Owns.slice {w : World} {e : TypeId} {v : Value} {xs : List Value} (h : Owns w e v xs) : ∃ a cap, v = .slice a xs.length cap ∧ (xs ≠ [] → ∃ g, a = some ⟨g, 0, none⟩) := by
  rcases h.form with ⟨rfl, rfl⟩ | ⟨g, cap, cur, rfl, _⟩
  · exact ⟨none, 0, rfl, fun h => absurd rfl h⟩
  · exact ⟨_, cap, rfl, fun _ => ⟨g, rfl⟩⟩
end Go.Proofs.Ytbldocbijihpgaa.Own

-- ---- Sized
/- What can be read of a slice, whoever owns it; a law's parameter that is a slice of whole numbers. No program in sight. -/
namespace Go.Proofs.Ytbldocbijihpgaa.Own
set_option linter.unusedSimpArgs false
set_option linter.unusedVariables false
open Go Go.RowKit Go.ChangeShapes Go.WideShapes

/-- The block where a slice's cells lie. -/
def homeOf : Value → Option Nat
  | .slice (some x) (_ + 1) _ => some x.block
  | _ => none

/-- Of v the elements xs can be read. -/
def Rd (w : World) (v : Value) (xs : List Value) : Prop :=
  ∃ a cap, v = .slice a xs.length cap ∧ xs.length ≤ cap ∧ cap ≤ maxLen ∧ ∀ i u, xs[i]? = some u → ∃ x, a = some x ∧ w.cell? (x.add i) = some u

theorem Rd.nil (w : World) : Rd w (.slice none 0 0) [] := ⟨none, 0, rfl, Nat.le_refl _, by simp [maxLen], fun i u h => by simp at h⟩

theorem add_block (x : Addr) (i : Nat) : (x.add i).block = x.block := by unfold Addr.add; split <;> rfl
theorem lt_of_cell {w : World} {p : Addr} {v : Value} (h : w.cell? p = some v) : p.block < w.heap.size := by
  rcases Nat.lt_or_ge p.block w.heap.size with hl | hl
  · exact hl
  · simp [World.cell?, Array.getElem?_eq_none hl] at h

theorem Rd.lt {w : World} {v : Value} {xs : List Value} (h : Rd w v xs) : ∀ g, homeOf v = some g → g < w.heap.size := by
  intro g hg
  obtain ⟨a, cap, rfl, _, _, hc⟩ := h
  cases xs with
  | nil => cases a <;> simp [homeOf] at hg
  | cons u t =>
    obtain ⟨x, rfl, hx⟩ := hc 0 u rfl
    simp [homeOf] at hg
    subst hg
    have := lt_of_cell hx
    rwa [add_block] at this

theorem Rd.keep {w w' : World} {v : Value} {xs : List Value} (h : Rd w v xs) (hk : ∀ g, homeOf v = some g → g < w.heap.size → w'.heap[g]? = w.heap[g]?) : Rd w' v xs := by
  obtain ⟨a, cap, rfl, h1, h2, hc⟩ := h
  refine ⟨a, cap, rfl, h1, h2, fun i u hu => ?_⟩
  obtain ⟨x, rfl, hx⟩ := hc i u hu
  have hpos : 0 < xs.length := by have := (List.getElem?_eq_some_iff.1 hu).1; omega
  have hhome : homeOf (Value.slice (some x) xs.length cap) = some x.block := by
    cases xs with
    | nil => simp at hpos
    | cons => rfl
  have hlt := lt_of_cell hx
  rw [add_block] at hlt
  exact ⟨x, rfl, (World.cell?_of_block (w := w) (a := x.add i) (by rw [add_block]; exact hk x.block hhome hlt)).trans hx⟩
theorem Rd.chg {w w' : World} {S : Nat → Prop} {v : Value} {xs : List Value} (h : Rd w v xs) (hc : Chg S w w') (hn : ∀ g, homeOf v = some g → ¬ S g) : Rd w' v xs :=
  h.keep fun g hg hl => hc.block g hl (hn g hg)
theorem Rd.below {B : Nat} {w w' : World} {v : Value} {xs : List Value} (h : Rd w v xs) (hb : Below B w w') (hB : ∀ g, homeOf v = some g → g < B) : Rd w' v xs :=
  h.keep fun g hg _ => hb.block g (hB g hg)
theorem Rd.later {w w' : World} {v : Value} {xs : List Value} (h : Rd w v xs) (hb : Below w.heap.size w w') : Rd w' v xs :=
  h.below hb h.lt

theorem home_own {g : Nat} {n cap g' : Nat} (h : homeOf (.slice (some ⟨g, 0, none⟩) n cap) = some g') : g' = g := by
  cases n with
  | zero => simp [homeOf] at h
  | succ n => simp [homeOf] at h; exact h.symm

theorem Owns.rd {w : World} {e : TypeId} {v : Value} {xs : List Value} (h : Owns w e v xs) : Rd w v xs := by
  rcases h.form with ⟨rfl, rfl⟩ | ⟨g, cap, cur, rfl, hb, hc, hm, hs, ht⟩
  · exact Rd.nil w
  · refine ⟨_, cap, rfl, hc, hm, fun i u hu => ⟨_, rfl, ?_⟩⟩
    have := h.cell hu
    rw [show (⟨g, 0, none⟩ : Addr).add i = ⟨g, i, none⟩ from by unfold Addr.add; split <;> simp_all]
    exact this
theorem Owns.home {w : World} {e : TypeId} {v : Value} {xs : List Value} (h : Owns w e v xs) : ∀ g, homeOf v = some g → v.ownBlock = some g := by
  intro g hg
  rcases h.form with ⟨rfl, rfl⟩ | ⟨g', cap, cur, rfl, _⟩
  · simp [homeOf] at hg
  · rw [home_own hg]; rfl

theorem Rd.length {w : World} {a : Option Addr} {n cap : Nat} {xs : List Value} (h : Rd w (.slice a n cap) xs) : n = xs.length := by
  obtain ⟨_, _, hv, _⟩ := h
  simp at hv
  exact hv.2.1
theorem Rd.at {w : World} {a : Option Addr} {n cap : Nat} {xs : List Value} (h : Rd w (.slice a n cap) xs) {i : Nat} {u : Value} (hu : xs[i]? = some u) : ∃ x, a = some x ∧ w.cell? (x.add i) = some u := by
  obtain ⟨_, _, hv, _, _, hc⟩ := h
  simp only [Value.slice.injEq] at hv
  obtain ⟨rfl, _, rfl⟩ := hv
  exact hc i u hu

theorem add_add (x : Addr) (i j : Nat) : (x.add i).add j = x.add (i + j) := by
  unfold Addr.add
  by_cases hi : i = 0
  · subst hi; simp
  · by_cases hj : j = 0
    · subst hj; simp [hi]
    · simp [hi, hj, Nat.add_assoc]

/-- What can be read of a part of a slice. -/
theorem Rd.sub {w : World} {a : Option Addr} {N cap : Nat} {xs : List Value} (h : Rd w (.slice a N cap) xs) (k n : Nat) (hk : k + n ≤ N) :
    Rd w (.slice (if cap = k then a else a.map (fun x => x.add k)) (k + n - k) (cap - k)) ((xs.drop k).take n) := by
  obtain ⟨_, _, hv, h1, h2, hc⟩ := h
  simp only [Value.slice.injEq] at hv
  obtain ⟨rfl, rfl, rfl⟩ := hv
  have hl : ((xs.drop k).take n).length = n := by rw [List.length_take, List.length_drop]; omega
  refine ⟨_, _, by rw [hl, Nat.add_sub_cancel_left], by rw [hl]; omega, by omega, fun i u hu => ?_⟩
  have hi : i < n := by have := (List.getElem?_eq_some_iff.1 hu).1; omega
  rw [List.getElem?_take, if_pos hi, List.getElem?_drop] at hu
  obtain ⟨x, rfl, hx⟩ := hc _ u hu
  rw [if_neg (by omega)]
  exact ⟨x.add k, rfl, by rw [add_add]; exact hx⟩

theorem Rd.take {w : World} {a : Option Addr} {N cap : Nat} {xs : List Value} (h : Rd w (.slice a N cap) xs) (n : Nat) (hn : n ≤ N) : Rd w (.slice a n cap) (xs.take n) := by
  obtain ⟨_, _, hv, h1, h2, hc⟩ := h
  simp only [Value.slice.injEq] at hv
  obtain ⟨rfl, rfl, rfl⟩ := hv
  have hl : (xs.take n).length = n := by rw [List.length_take]; omega
  refine ⟨_, _, by rw [hl], by rw [hl]; omega, h2, fun i u hu => ?_⟩
  have hi : i < n := by have := (List.getElem?_eq_some_iff.1 hu).1; omega
  rw [List.getElem?_take, if_pos hi] at hu
  exact hc i u hu

/-- Whole numbers from nought on, as values; whole numbers, as values. -/
def nums (k : IntKind) (l : List Nat) : List Value := l.map fun n : Nat => .int k (n : Int)
def ints (k : IntKind) (l : List Int) : List Value := l.map fun n => .int k n
@[simp] theorem length_nums (k : IntKind) (l : List Nat) : (nums k l).length = l.length := by simp [nums]
@[simp] theorem length_ints (k : IntKind) (l : List Int) : (ints k l).length = l.length := by simp [ints]
theorem nums_at (k : IntKind) (l : List Nat) (i : Nat) (h : i < l.length) : (nums k l)[i]? = some (.int k ((l.getD i 0 : Nat) : Int)) := by
  simp [nums, List.getD_eq_getElem?_getD, h]
theorem ints_at (k : IntKind) (l : List Int) (i : Nat) (h : i < l.length) : (ints k l)[i]? = some (.int k (l.getD i 0)) := by
  simp [ints, List.getD_eq_getElem?_getD, h]

/-- A law's parameter that is a slice of whole numbers. -/
def Arg (k : IntKind) (w : World) (a : Option Addr) (len cap : Nat) (zs : List Int) : Prop :=
  (a = none ∧ len = 0 ∧ cap = 0 ∧ zs = []) ∨
  ∃ x, a = some x ∧ len ≤ cap ∧ cap ≤ maxLen ∧ zs.length = cap ∧ (∀ i, i < zs.length → w.cell? (x.add i) = some (.int k (zs.getD i 0))) ∧ ∀ n ∈ zs, (Lit.int k n).wf = true

theorem Arg.rd {k : IntKind} {w : World} {a : Option Addr} {len cap : Nat} {zs : List Int} (h : Arg k w a len cap zs) :
    ∃ xs : List Int, xs.length = len ∧ Rd w (.slice a len cap) (ints k xs) ∧ ∀ n ∈ xs, (Lit.int k n).wf = true := by
  rcases h with ⟨rfl, rfl, rfl, rfl⟩ | ⟨x, rfl, hl, hm, hz, hc, hw⟩
  · exact ⟨[], rfl, Rd.nil w, by simp⟩
  · have hlen : (zs.take len).length = len := by rw [List.length_take]; omega
    refine ⟨zs.take len, hlen, ⟨some x, cap, by rw [length_ints, hlen], by rw [length_ints, hlen]; exact hl, hm, fun i u hu => ⟨x, rfl, ?_⟩⟩, fun n hn => hw n (List.mem_of_mem_take hn)⟩
    have hi : i < len := by have := (List.getElem?_eq_some_iff.1 hu).1; rw [length_ints, hlen] at this; exact this
    rw [ints_at k _ i (by omega)] at hu
    have := hc i (by omega)
    rw [this, ← hu]
    simp [List.getD_eq_getElem?_getD, List.getElem?_take, hi]

theorem Arg.rdN {k : IntKind} (hk : k.min = 0) {w : World} {a : Option Addr} {len cap : Nat} {zs : List Int} (h : Arg k w a len cap zs) :
    ∃ xs : List Nat, xs.length = len ∧ Rd w (.slice a len cap) (nums k xs) ∧ ∀ n ∈ xs, (n : Int) ≤ k.max := by
  obtain ⟨xs, hl, hr, hw⟩ := h.rd
  have hw2 : ∀ n ∈ xs, 0 ≤ n ∧ n ≤ k.max := fun n hn => by
    have := hw n hn
    simp only [Lit.wf, Bool.and_eq_true, decide_eq_true_eq, hk] at this
    exact this
  refine ⟨xs.map Int.toNat, by simpa using hl, ?_, ?_⟩
  · have e : nums k (xs.map Int.toNat) = ints k xs := by
      unfold nums ints
      rw [List.map_map]
      apply List.map_congr_left
      intro n hn
      have := (hw2 n hn).1
      simp [Int.toNat_of_nonneg this]
    rw [e]
    exact hr
  · intro n hn
    obtain ⟨z, hz, rfl⟩ := List.mem_map.1 hn
    have := hw2 z hz
    omega

/-- A row's slice of whole numbers is no longer than its weight allows. -/
theorem sized_ints {H : Type} {enc : TypeId × Value → H} {P : Program} {W : World} {base : Nat} {spare : Nat → Bool} {held : Bool} {t e : TypeId} {k : IntKind} {a : Option Addr} {len cap : Nat} {d : DataW H} {ps : List MemPlace} {ts : List TypeId} {ds : List (DataW H)} {j : Nat}
    (hsz : (DataW.weightsEach P ts ds).all (· ≤ reachBytes) = true) (ht : ts[j]? = some t) (hd : ds[j]? = some d) (hu : P.underlying t = some (.slice e)) (he : P.underlying e = some (.int k)) (hc : P.cellsOf e = 1) {B : Nat} (hB : P.bytesOf e = B)
    (h : DataW.Trod enc P W base spare held t (.slice a len cap) d ps) : len * B ≤ 140737488351232 := by
  obtain ⟨fuel, hf⟩ := h
  rcases open_ints hu he hc hf with ⟨hcs, _⟩ | ⟨x, l, c, zs, hcs, _, hl, _, hz, hx, _, _⟩
  · simp [Value.cells] at hcs
    obtain ⟨rfl, rfl, rfl⟩ := hcs
    simp
  · simp [Value.cells] at hcs
    obtain ⟨rfl, rfl, rfl⟩ := hcs
    obtain ⟨hx, _⟩ := Prod.mk.inj hx
    subst hx
    have z := sized_slice hsz ht hd hu
    rw [hB] at z
    have hl2 : len ≤ zs.length := by
      rw [hz]
      split
      · exact hl
      · exact Nat.le_refl _
    have h1 : (lits (H := H) k (zs.take len)).length + (lits (H := H) k (zs.drop len)).length = zs.length := by
      simp [lits]
      omega
    rw [h1] at z
    exact Nat.le_trans (Nat.mul_le_mul_right _ hl2) z
end Go.Proofs.Ytbldocbijihpgaa.Own

-- ---- Af
/- 'append' onto a slice that is full (its length is its capacity): the result lies in a block of its own. No program in sight. -/
namespace Go.Proofs.Ytbldocbijihpgaa.Own
set_option linter.unusedSimpArgs false
set_option linter.unusedVariables false
open Go Go.RowKit

theorem zeroCells_size (z : Array Value) (n : Nat) (h : z.size = 1) : (Builtin.zeroCells z n).size = n := by
  have := Go.size_zeroCells z n
  rw [h] at this
  simpa using this

section
variable {P : Program} {w : World}
theorem run_append_full (t ty e : TypeId) (i : TypeInfo) (z : Value) (bytes : Nat) (ht : P.underlying t = some (.slice e)) (hi : P.info? e = some i) (hz : i.zero = some z)
    (hsize : i.size = 1) (hby : i.bytes = bytes) (hzs : z.cells.size = 1)
    (A : Option Addr) (k : Nat) (xs : List Value) (hx : Rd w (.slice A k k) xs) (A2 : Option Addr) (m c : Nat) (ys : List Value) (hy : Rd w (.slice A2 m c) ys) (hm : 0 < m)
    (h63 : k + m ≤ maxLen) (hbytes : ((k + m) + (k + m) / 4 + 192) * bytes ≤ 281474976710656) :
    ∃ v' w', (Builtin.append_ #[t, t] ty #[.slice A k k, .slice A2 m c]).run P w = .ok v' w' ∧ Owns w' e v' (xs ++ ys) ∧ Below w.heap.size w w' ∧ ∀ g, v'.ownBlock = some g → w.heap.size ≤ g := by
  have hk := hx.length
  have hml := hy.length
  subst hk
  subst hml
  obtain ⟨y0, hy0⟩ : ∃ y0, ys[0]? = some y0 := ⟨ys[0], List.getElem?_eq_getElem hm⟩
  obtain ⟨a2, rfl, _⟩ := hy.at hy0
  have hnews : ∀ j u, ys[j]? = some u → w.cell? (a2.add j) = some u := fun j u hu => by
    obtain ⟨x, hxx, hc⟩ := hy.at hu
    cases hxx
    exact hc
  have hge := grownCap_ge w (xs.length + ys.length) xs.length e
  have hle := grownCap_le_maxLen w (xs.length + ys.length) xs.length e h63
  have fin : ∀ C cap, C.size = cap → cap = grownCap w (xs.length + ys.length) xs.length e → C.toList.take (xs.length + ys.length) = xs ++ ys →
      Owns (w.drew.alloc (.cells C e)) e (.slice (some ⟨w.heap.size, 0, none⟩) (xs.length + ys.length) cap) (xs ++ ys) ∧ Below w.heap.size w (w.drew.alloc (.cells C e)) ∧ ∀ g, (Value.slice (some ⟨w.heap.size, 0, none⟩) (xs.length + ys.length) cap).ownBlock = some g → w.heap.size ≤ g := by
    intro C cap h1 h2 h3
    have hb : Blk (w.drew.alloc (.cells C e)) w.heap.size C e := Blk.fresh w.drew C e
    refine ⟨?_, ((Below.refl w.heap.size w).drew).alloc (Nat.le_refl _) _, fun g hg => ?_⟩
    · have := Owns.mk (xs := xs ++ ys) hb (by rw [List.length_append]; omega) (by omega) h1 (by rw [List.length_append]; exact h3)
      rwa [List.length_append] at this
    · simp [Value.ownBlock] at hg; omega
  cases A with
  | none =>
    have h0 : xs = [] := by
      cases xs with
      | nil => rfl
      | cons u t => obtain ⟨x, hx2, _⟩ := hx.at (i := 0) (u := u) rfl; cases hx2
    subst h0
    have hr := run_append_nil (P := P) (w := w) t ty e i z ht hi hz a2 ys.length c ys (by rw [hsize, Nat.mul_one]) hnews hm (by simp only [maxLen] at h63; simp at h63; omega) (by rw [hby]; simp at hbytes; exact Nat.le_trans (Nat.mul_le_mul_right _ (by omega)) hbytes)
    simp only [List.length_nil, Nat.zero_add, List.nil_append] at fin hge ⊢
    refine ⟨_, _, hr, fin _ _ ?_ rfl ?_⟩
    · simp [zeroCells_size _ _ hzs]; omega
    · simp
  | some b =>
    have holds : ∀ j v, xs[j]? = some v → w.cell? (b.add j) = some v := fun j u hu => by
      obtain ⟨x, hxx, hc⟩ := hx.at hu
      cases hxx
      exact hc
    have hr := run_append_grow (P := P) (w := w) t ty e i z ht hi hz b xs.length xs.length xs (by rw [hsize, Nat.mul_one]) holds a2 ys.length c ys (by rw [hsize, Nat.mul_one]) hnews (by omega) (by simp only [maxLen] at h63; omega) (by rw [hby]; exact growslice_fits_wide (by omega) hbytes)
    refine ⟨_, _, hr, fin _ _ ?_ rfl ?_⟩
    · simp [zeroCells_size _ _ hzs]; omega
    · simp only [Array.toList_append, List.toList_toArray]
      exact List.take_left' (by simp)

/-- The law at the operation. -/
theorem wpList_appFull {ops : Array Oper} {rest : List Oper} {o : Oper} {a : Act} {Q : Exit → Act → World → Prop} (hgd : o.guard = none) (s x : Operand) (t : TypeId)
    (ho : o.op = .call { callee := .builtin .append, args := #[s, x], argTypes := #[t, t] })
    (e : TypeId) (i : TypeInfo) (z : Value) (bytes : Nat) (ht : P.underlying t = some (.slice e)) (hi : P.info? e = some i) (hz : i.zero = some z)
    (hsize : i.size = 1) (hby : i.bytes = bytes) (hzs : z.cells.size = 1)
    (A : Option Addr) (k : Nat) (xs : List Value) (hs : a.eval s = .slice A k k) (hR : Rd w (.slice A k k) xs) (A2 : Option Addr) (m c : Nat) (ys : List Value) (hx : a.eval x = .slice A2 m c) (hy : Rd w (.slice A2 m c) ys) (hm : 0 < m)
    (h63 : k + m ≤ maxLen) (hbytes : ((k + m) + (k + m) / 4 + 192) * bytes ≤ 281474976710656)
    (h : ∀ v' w', Owns w' e v' (xs ++ ys) → Below w.heap.size w w' → (∀ g, v'.ownBlock = some g → w.heap.size ≤ g) → wpList P ops Q rest (a.put o.dst v') w') : wpList P ops Q (o :: rest) a w :=
  wpList_plain hgd fun K hK => by
    obtain ⟨v', w', hr, h2, h3, h4⟩ := run_append_full (P := P) t o.type e i z bytes ht hi hz hsize hby hzs A k xs hR A2 m c ys hy hm h63 hbytes
    unfold Oper.wp execOp
    simp only [ho, resolve, invoke, builtin, Sem.run_bind, Sem.run_pure, Result.andThen_ok, List.map_toArray, List.map_cons, List.map_nil, hs, hx, hr]
    exact hK _ _ (h v' w' h2 h3 h4)

/-- 'append' of what can be read, nil or not, onto a row of one's own. -/
theorem wpList_appRd {ops : Array Oper} {rest : List Oper} {o : Oper} {a : Act} {Q : Exit → Act → World → Prop} (hgd : o.guard = none) (s x : Operand) (t : TypeId)
    (ho : o.op = .call { callee := .builtin .append, args := #[s, x], argTypes := #[t, t] })
    (e : TypeId) (i : TypeInfo) (z : Value) (bytes : Nat) (ht : P.underlying t = some (.slice e)) (hi : P.info? e = some i) (hz : i.zero = some z)
    (hsize : i.size = 1) (hby : i.bytes = bytes) (hzs : z.cells.size = 1)
    (v : Value) (xs : List Value) (hs : a.eval s = v) (hown : Owns w e v xs)
    (A2 : Option Addr) (m c : Nat) (ys : List Value) (hx : a.eval x = .slice A2 m c) (hy : Rd w (.slice A2 m c) ys) (hnil : A2 = none → c = 0) (h1 : ∀ u ∈ ys, u.oneCell' = true)
    (h63 : xs.length + m ≤ maxLen) (hbytes : (xs.length + m) * bytes ≤ 140737488355328)
    (h : ∀ v' w', Owns w' e v' (xs ++ ys) → Chg (fun k => some k = v.ownBlock) w w' → (∀ g, v'.ownBlock = some g → some g = v.ownBlock ∨ w.heap.size ≤ g) → wpList P ops Q rest (a.put o.dst v') w') : wpList P ops Q (o :: rest) a w := by
  have hml := hy.length
  cases A2 with
  | some ad =>
    refine wpList_app hgd s x t ho e i z bytes ht hi hz hsize hby hzs v xs hs hown ad m c ys hx hml.symm (fun j u hu => ?_) h1 h63 hbytes h
    obtain ⟨x', hxx, hc⟩ := hy.at hu
    cases hxx
    exact hc
  | none =>
    have h0 : ys = [] := by
      cases ys with
      | nil => rfl
      | cons u t => obtain ⟨x, hx2, _⟩ := hy.at (i := 0) (u := u) rfl; cases hx2
    subst h0
    have hm0 : m = 0 := hml
    subst hm0
    have hc0 := hnil rfl
    subst hc0
    refine wpList_plain hgd fun K hK => ?_
    have hr := run_append_owned_none (P := P) (w := w) 0 t o.type e i 1 ht hi v xs.length xs hown
    unfold Oper.wp execOp
    simp only [ho, resolve, invoke, builtin, Sem.run_bind, Sem.run_pure, Result.andThen_ok, List.map_toArray, List.map_cons, List.map_nil, hs, hx, hr]
    exact hK _ _ (h v w (by simpa using hown) (Chg.refl _ _) fun g hg => .inl hg.symm)
end
end Go.Proofs.Ytbldocbijihpgaa.Own

-- ---- Bits
/- Rows of bits and their bytes: plain facts on lists and numbers. No program in sight. -/
namespace Go.Proofs.Ytbldocbijihpgaa.Bits
set_option linter.unusedSimpArgs false
set_option linter.unusedVariables false
open Go

def ofBits : List Bool → Nat
  | [] => 0
  | b :: t => b.toNat + 2 * ofBits t

theorem testBit_ofBits (l : List Bool) : ∀ i, (ofBits l).testBit i = l.getD i false := by
  induction l with
  | nil => intro i; simp [ofBits]
  | cons b t ih =>
    intro i
    cases i with
    | zero => simp only [ofBits, Nat.testBit_zero]; cases b <;> simp <;> omega
    | succ i =>
      have e : (b.toNat + 2 * ofBits t) / 2 = ofBits t := by cases b <;> simp <;> omega
      simp only [ofBits, Nat.testBit_succ, e, ih, List.getD_cons_succ]

theorem ofBits_lt (l : List Bool) : ofBits l < 2 ^ l.length := by
  induction l with
  | nil => simp [ofBits]
  | cons b t ih =>
    simp only [ofBits, List.length_cons, Nat.pow_succ]
    cases b <;> simp <;> omega

/-- The lowest n bits of a number, the lowest first. -/
def bitsOf (v n : Nat) : List Bool := (List.range n).map v.testBit

@[simp] theorem length_bitsOf (v n : Nat) : (bitsOf v n).length = n := by simp [bitsOf]
theorem bitsOf_succ (v n : Nat) : bitsOf v (n + 1) = bitsOf v n ++ [v.testBit n] := by simp [bitsOf, List.range_succ]
theorem getD_bitsOf (v n i : Nat) : (bitsOf v n).getD i false = (decide (i < n) && v.testBit i) := by
  rw [List.getD_eq_getElem?_getD]
  by_cases h : i < n
  · simp [bitsOf, List.getElem?_map, List.getElem?_range, h]
  · simp [bitsOf, h]
theorem ofBits_bitsOf (v n : Nat) : ofBits (bitsOf v n) = v % 2 ^ n := by
  apply Nat.eq_of_testBit_eq
  intro i
  rw [testBit_ofBits, getD_bitsOf, Nat.testBit_mod_two_pow]

/-- Byte k of a row of bits. -/
def byteAt (l : List Bool) (k : Nat) : Nat := ofBits ((l.drop (8 * k)).take 8)

theorem testBit_byteAt (l : List Bool) (k j : Nat) : (byteAt l k).testBit j = (decide (j < 8) && l.getD (8 * k + j) false) := by
  rw [byteAt, testBit_ofBits, List.getD_eq_getElem?_getD, List.getElem?_take]
  by_cases h : j < 8
  · simp [h, List.getElem?_drop]
  · simp [h]

theorem byteAt_lt (l : List Bool) (k : Nat) : byteAt l k < 256 := by
  have h := ofBits_lt ((l.drop (8 * k)).take 8)
  have h2 : ((l.drop (8 * k)).take 8).length ≤ 8 := by simp; omega
  have h3 : 2 ^ ((l.drop (8 * k)).take 8).length ≤ 2 ^ 8 := Nat.pow_le_pow_right (by decide) h2
  have h4 : byteAt l k = ofBits ((l.drop (8 * k)).take 8) := rfl
  omega

theorem getD_snoc (l : List Bool) (b : Bool) (i : Nat) : (l ++ [b]).getD i false = if i = l.length then b else l.getD i false := by
  simp only [List.getD_eq_getElem?_getD]
  rcases Nat.lt_trichotomy i l.length with h | h | h
  · rw [List.getElem?_append_left h, if_neg (by omega)]
  · subst h; simp
  · rw [if_neg (by omega), List.getElem?_append_right (by omega), List.getElem?_eq_none (by simp; omega), List.getElem?_eq_none (by omega)]

theorem testBit_bool (b : Bool) (n j : Nat) : (b.toNat * 2 ^ n).testBit j = (b && decide (j = n)) := by
  cases b
  · simp
  · simp [Nat.testBit_two_pow, eq_comm]

theorem byteAt_snoc (l : List Bool) (b : Bool) (k : Nat) : byteAt (l ++ [b]) k = if k = l.length / 8 then byteAt l k ||| (b.toNat * 2 ^ (l.length % 8)) else byteAt l k := by
  apply Nat.eq_of_testBit_eq
  intro j
  rw [testBit_byteAt, getD_snoc]
  by_cases h : k = l.length / 8
  · rw [if_pos h, Nat.testBit_or, testBit_byteAt, testBit_bool]
    by_cases hj : j < 8
    · by_cases hj2 : 8 * k + j = l.length
      · have : j = l.length % 8 := by omega
        have hm : l.length % 8 < 8 := by omega
        have hz : l.getD (8 * k + j) false = false := by rw [List.getD_eq_getElem?_getD, List.getElem?_eq_none (by omega)]; rfl
        rw [if_pos hj2, hz]; simp [hj, this, hm]
      · have : ¬ j = l.length % 8 := by omega
        rw [if_neg hj2]; simp [hj, this]
    · have : ¬ j = l.length % 8 := by omega
      simp [hj, this]
  · rw [if_neg h, testBit_byteAt]
    by_cases hj : j < 8
    · rw [if_neg (by omega)]
    · simp [hj]

def packN (l : List Bool) (n : Nat) : List Nat := (List.range n).map (byteAt l)
/-- The bytes of a row of bits. -/
def pack (l : List Bool) : List Nat := packN l ((l.length + 7) / 8)

@[simp] theorem length_packN (l : List Bool) (n : Nat) : (packN l n).length = n := by simp [packN]
@[simp] theorem length_pack (l : List Bool) : (pack l).length = (l.length + 7) / 8 := by simp [pack]
theorem getElem?_packN (l : List Bool) (n k : Nat) (h : k < n) : (packN l n)[k]? = some (byteAt l k) := by simp [packN, List.getElem?_range, h]
theorem packN_lt (l : List Bool) (n : Nat) : ∀ x ∈ packN l n, x < 256 := by
  intro x hx
  obtain ⟨k, _, rfl⟩ := List.mem_map.1 hx
  exact byteAt_lt l k

theorem packN_snoc (l : List Bool) (b : Bool) (n : Nat) : packN (l ++ [b]) n = (packN l n).set (l.length / 8) (byteAt l (l.length / 8) ||| (b.toNat * 2 ^ (l.length % 8))) := by
  apply List.ext_getElem?
  intro k
  rw [List.getElem?_set]
  by_cases hk : k < n
  · rw [getElem?_packN _ _ _ hk, byteAt_snoc, getElem?_packN _ _ _ hk]
    by_cases h : k = l.length / 8
    · subst h; simp [hk]
    · rw [if_neg h, if_neg (fun e => h e.symm)]
  · rw [List.getElem?_eq_none (by simp; omega), List.getElem?_eq_none (by simp; omega)]
    simp; omega

theorem byteAt_beyond (l : List Bool) (k : Nat) (h : l.length ≤ 8 * k) : byteAt l k = 0 := by
  rw [byteAt, List.drop_eq_nil_of_le h]; rfl

theorem packN_zero (n : Nat) : packN [] n = List.replicate n 0 := by
  apply List.ext_getElem?
  intro k
  by_cases hk : k < n
  · rw [getElem?_packN _ _ _ hk, byteAt_beyond [] k (by simp)]; simp [hk]
  · rw [List.getElem?_eq_none (by simp; omega), List.getElem?_eq_none (by simp; omega)]

/-- The bytes with one more, where a byte is full. -/
theorem packN_full (l : List Bool) (h : l.length % 8 = 0) : packN l (l.length / 8 + 1) = pack l ++ [0] := by
  have e : (l.length + 7) / 8 = l.length / 8 := by omega
  simp only [pack, packN, e, List.range_succ, List.map_append, List.map_cons, List.map_nil]
  rw [byteAt_beyond l _ (by omega)]
theorem packN_part (l : List Bool) (h : ¬ l.length % 8 = 0) : packN l (l.length / 8 + 1) = pack l := by
  have e : (l.length + 7) / 8 = l.length / 8 + 1 := by omega
  simp only [pack, e]
theorem pack_snoc (l : List Bool) (b : Bool) : pack (l ++ [b]) = packN (l ++ [b]) (l.length / 8 + 1) := by
  have e : ((l ++ [b]).length + 7) / 8 = l.length / 8 + 1 := by simp; omega
  simp only [pack, e]

/-- A bit as Go reckons it. -/
def bitOf (x : Int) : Bool := decide (x % 2 = 1)

theorem and_one_u64 (x : Int) (h0 : 0 ≤ x) (h1 : x < 18446744073709551616) : bits .and .u64 x 1 = ((bitOf x).toNat : Int) := by
  rw [u64_and x 1 h0 h1 (by decide) (by decide)]
  have : (1 : Int).toNat = 1 := rfl
  rw [this, nat_mask1]
  unfold bitOf
  by_cases h : x % 2 = 1 <;> simp [h] <;> omega

theorem bit_byte (x : Int) (h0 : 0 ≤ x) (h1 : x < 18446744073709551616) (k : Nat) (hk : k < 8) : bits .and .u64 x 1 % 256 * 2 ^ k % 256 = (((bitOf x).toNat * 2 ^ k : Nat) : Int) := by
  rw [and_one_u64 x h0 h1]
  have hp : (2 : Int) ^ k ≤ 128 ∧ 0 < (2 : Int) ^ k := by
    rcases (show k = 0 ∨ k = 1 ∨ k = 2 ∨ k = 3 ∨ k = 4 ∨ k = 5 ∨ k = 6 ∨ k = 7 by omega) with h | h | h | h | h | h | h | h <;> subst h <;> decide
  cases bitOf x <;> simp <;> omega

theorem or_byte (x : Int) (h0 : 0 ≤ x) (h1 : x < 18446744073709551616) (b k : Nat) (hb : b < 256) (hk : k < 8) :
    bits .or .u8 (b : Int) (bits .and .u64 x 1 % 256 * 2 ^ k % 256) = ((b ||| (bitOf x).toNat * 2 ^ k : Nat) : Int) := by
  rw [bit_byte x h0 h1 k hk, u8_or_nat b _ hb]
  have hp : 2 ^ k ≤ 128 := by
    rcases (show k = 0 ∨ k = 1 ∨ k = 2 ∨ k = 3 ∨ k = 4 ∨ k = 5 ∨ k = 6 ∨ k = 7 by omega) with h | h | h | h | h | h | h | h <;> subst h <;> decide
  cases bitOf x <;> simp <;> omega

theorem bitOf_shift (v i : Nat) : bitOf ((v : Int) / 2 ^ i) = v.testBit i := by
  unfold bitOf
  rw [Nat.testBit_eq_decide_div_mod_eq]
  congr 1
  have : ((v : Int) / 2 ^ i) = ((v / 2 ^ i : Nat) : Int) := by simp
  rw [this]
  apply propext
  omega

/-! ### The bits of a text -/
def byteS (s : ByteArray) (i : Nat) : Nat := (s.data.toList.getD i 0).toNat
theorem byteS_lt (s : ByteArray) (i : Nat) : byteS s i < 256 := UInt8.toNat_lt _
theorem byteS_eq (s : ByteArray) (i : Nat) (h : i < s.size) : (s[i]'h).toNat = byteS s i := by
  unfold byteS
  rw [List.getD_eq_getElem?_getD]
  have : s.data.toList[i]? = some (s[i]'h) := by
    rw [Array.getElem?_toList, Array.getElem?_eq_getElem (by exact h)]; rfl
  rw [this]; rfl
def bitS (s : ByteArray) (k : Nat) : Bool := (byteS s (k / 8)).testBit (k % 8)
def bitsS (s : ByteArray) : List Bool := (List.range (8 * s.size)).map (bitS s)
@[simp] theorem length_bitsS (s : ByteArray) : (bitsS s).length = 8 * s.size := by simp [bitsS]

theorem getD_bitsS (s : ByteArray) (k : Nat) : (bitsS s).getD k false = (decide (k < 8 * s.size) && bitS s k) := by
  rw [List.getD_eq_getElem?_getD]
  by_cases h : k < 8 * s.size
  · simp [bitsS, h]
  · simp [bitsS, h]

theorem and_bit (b j : Nat) (hb : b < 256) : bits .and .u64 (IntKind.u64.wrap ((b : Int) / 2 ^ j)) 1 = (((b.testBit j).toNat : Nat) : Int) := by
  have h1 : (b : Int) / 2 ^ j ≤ b := Int.ediv_le_self _ (by omega)
  have h0 : 0 ≤ (b : Int) / 2 ^ j := Int.ediv_nonneg (by omega) (Int.pow_nonneg (by decide))
  have e : IntKind.u64.wrap ((b : Int) / 2 ^ j) = (b : Int) / 2 ^ j := by rw [IntKind.wrap_u64]; omega
  rw [e, Bits.and_one_u64 _ h0 (by omega), bitOf_shift]

theorem ofBits_snoc (l : List Bool) (b : Bool) : ofBits (l ++ [b]) = ofBits l ||| (b.toNat * 2 ^ l.length) := by
  apply Nat.eq_of_testBit_eq
  intro i
  rw [Nat.testBit_or, testBit_ofBits, testBit_ofBits, testBit_bool, getD_snoc]
  by_cases h : i = l.length
  · subst h; simp
  · simp [h]

theorem or_shift (l : List Bool) (b : Bool) (h : l.length < 64) : bits .or .u64 (ofBits l : Int) ((b.toNat * 2 ^ l.length : Nat) : Int) = (ofBits (l ++ [b]) : Int) := by
  have h1 := ofBits_lt l
  have h2 : 2 ^ l.length ≤ 2 ^ 63 := Nat.pow_le_pow_right (by decide) (by omega)
  have h3 : (2 : Nat) ^ 63 = 9223372036854775808 := by decide
  rw [u64_or_nat _ _ (by omega) (by cases b <;> simp <;> omega), ofBits_snoc]

theorem ofBits_lt64 (l : List Bool) (h : l.length ≤ 64) : ofBits l < 18446744073709551616 := by
  have h1 := ofBits_lt l
  have h2 : 2 ^ l.length ≤ 2 ^ 64 := Nat.pow_le_pow_right (by decide) h
  have h3 : (2 : Nat) ^ 64 = 18446744073709551616 := by decide
  omega

theorem take_succ_getD (l : List Bool) (n : Nat) (h : n < l.length) : l.take (n + 1) = l.take n ++ [l.getD n false] := by
  rw [List.take_succ_eq_append_getElem h]
  congr 1
  rw [List.getD_eq_getElem?_getD, List.getElem?_eq_getElem h]; rfl

theorem ofBits_zero (l : List Bool) : ofBits l = 0 ↔ l.all (fun b => !b) = true := by
  induction l with
  | nil => simp [ofBits]
  | cons b t ih =>
    simp only [ofBits, List.all_cons, Bool.and_eq_true]
    rw [← ih]
    cases b <;> simp <;> omega

theorem or_step (l : List Bool) (b : Bool) (i : Nat) (hi : l.length = i) (h : i < 64) : bits .or .u64 (ofBits l : Int) (IntKind.u64.wrap ((b.toNat : Int) * 2 ^ i)) = (ofBits (l ++ [b]) : Int) := by
  subst hi
  have h2 : 2 ^ l.length ≤ 2 ^ 63 := Nat.pow_le_pow_right (by decide) (by omega)
  have h3 : (2 : Nat) ^ 63 = 9223372036854775808 := by decide
  have e : IntKind.u64.wrap ((b.toNat : Int) * 2 ^ l.length) = ((b.toNat * 2 ^ l.length : Nat) : Int) := by
    rw [IntKind.wrap_u64]
    have : ((b.toNat : Int) * 2 ^ l.length) = ((b.toNat * 2 ^ l.length : Nat) : Int) := by simp
    rw [this]
    have hlt : b.toNat * 2 ^ l.length < 18446744073709551616 := by
      generalize 2 ^ l.length = P at h2 h3
      cases b
      · simp
      · simp; omega
    generalize b.toNat * 2 ^ l.length = M at hlt
    omega
  rw [e, or_shift l b h]

theorem drop_step (s : ByteArray) (k i : Nat) (h : k + i < 8 * s.size) : ((bitsS s).drop k).take (i + 1) = ((bitsS s).drop k).take i ++ [bitS s (k + i)] := by
  rw [take_succ_getD _ _ (by simp; omega)]
  congr 2
  rw [List.getD_eq_getElem?_getD, List.getElem?_drop, ← List.getD_eq_getElem?_getD, getD_bitsS]
  simp [h]

theorem run_ix {P : Program} {T : TypeId} (h : P.underlying T = some .string) (s : ByteArray) (i : Int) (j : Nat) (hij : i = (j : Int)) (hj : j < s.size) (w : World) :
    (Instr.index T (.string s) (.int .i64 i)).run P w = .ok (.int .u8 (byteS s j : Int)) w := by
  subst hij
  rw [run_index_string w T s .i64 (j : Int) h, dif_pos ⟨by omega, by omega⟩, ← byteS_eq s j hj]
  simp
end Go.Proofs.Ytbldocbijihpgaa.Bits

-- ---- Mix
/- A rule for a region that draws its order: some operations are taken first (in an order of the prover's choice), then a chain that is forced. Conditions: the Bool 'Region.mixB' over the region's own text. -/
namespace Go.Proofs.Ytbldocbijihpgaa.Mix
set_option linter.unusedSimpArgs false
set_option linter.unusedVariables false
open Go Go.RowKit

/-- A tree without a store, a freeze, a written object, a system's call. -/
def Grows {α : Type} : Sem α → Prop
  | .pure _ => True
  | .load _ _ k => ∀ v, Grows (k v)
  | .store .. => False
  | .new _ k => ∀ n, Grows (k n)
  | .shape _ k => ∀ s, Grows (k s)
  | .freeze .. => False
  | .frozen _ k => ∀ b, Grows (k b)
  | .getObj _ k => ∀ o, Grows (k o)
  | .setObj .. => False
  | .choose _ k => ∀ n, Grows (k n)
  | .sys .. => False
  | .program k => ∀ p, Grows (k p)
  | .mark _ k => Grows k
  | .halt _ => True

theorem Grows.bind {α β : Type} {s : Sem α} {f : α → Sem β} (h : Grows s) (hf : ∀ a, Grows (f a)) : Grows (s.bind f) := by
  induction s with
  | pure a => exact hf a
  | load m a k ih => exact fun v => ih v (h v)
  | store m a v k ih => exact h.elim
  | new o k ih => exact fun n => ih n (h n)
  | shape r k ih => exact fun v => ih v (h v)
  | freeze a n k ih => exact h.elim
  | frozen a k ih => exact fun v => ih v (h v)
  | getObj r k ih => exact fun v => ih v (h v)
  | setObj r o k ih => exact h.elim
  | choose q k ih => exact fun v => ih v (h v)
  | sys c k ih => exact h.elim
  | program k ih => exact fun v => ih v (h v)
  | mark m k ih => exact ih h
  | halt x => exact trivial

theorem Grows.run {α : Type} (P : Program) {s : Sem α} (h : Grows s) : ∀ w x w', s.run P w = .ok x w' → Below w.heap.size w w' := by
  induction s with
  | pure a => intro w x w' e; simp only [Sem.run, Result.ok.injEq] at e; rw [← e.2]; exact Below.refl _ _
  | load m a k ih =>
    intro w x w' e
    simp only [Sem.run] at e
    split at e
    · exact ih _ (h _) _ _ _ e
    · split at e
      · exact ih _ (h _) _ _ _ e
      · cases e
  | store m a v k ih => exact h.elim
  | new o k ih =>
    intro w x w' e
    simp only [Sem.run] at e
    have := ih _ (h _) _ _ _ e
    exact ((Below.refl w.heap.size w).alloc (Nat.le_refl _) o).trans (this.mono (by simp))
  | shape r k ih => intro w x w' e; exact ih _ (h _) _ _ _ (by simpa only [Sem.run] using e)
  | freeze a n k ih => exact h.elim
  | frozen a k ih => intro w x w' e; exact ih _ (h _) _ _ _ (by simpa only [Sem.run] using e)
  | getObj r k ih =>
    intro w x w' e
    simp only [Sem.run] at e
    split at e
    · cases e
    · exact ih _ (h _) _ _ _ e
    · cases e
  | setObj r o k ih => exact h.elim
  | choose q k ih =>
    intro w x w' e
    simp only [Sem.run] at e
    split at e
    · exact ih _ (h _) _ _ _ e
    · have := ih _ (h _) _ _ _ e
      exact ((Below.refl w.heap.size w).drew).trans this
  | sys c k ih => exact h.elim
  | program k ih => intro w x w' e; exact ih _ (h _) _ _ _ (by simpa only [Sem.run] using e)
  | mark m k ih => intro w x w' e; exact ih h _ _ _ (by simpa only [Sem.run] using e)
  | halt x => intro w x w' e; simp [Sem.run] at e

/-- A tree all of whose ends are values. -/
def Vals : Sem Next → Prop
  | .pure n => ∃ u, n = .value u
  | .load _ _ k => ∀ v, Vals (k v)
  | .store _ _ _ k => Vals k
  | .new _ k => ∀ n, Vals (k n)
  | .shape _ k => ∀ s, Vals (k s)
  | .freeze _ _ k => Vals k
  | .frozen _ k => ∀ b, Vals (k b)
  | .getObj _ k => ∀ o, Vals (k o)
  | .setObj _ _ k => Vals k
  | .choose _ k => ∀ n, Vals (k n)
  | .sys _ k => ∀ r, Vals (k r)
  | .program k => ∀ p, Vals (k p)
  | .mark _ k => Vals k
  | .halt _ => True

theorem Vals.bind {α : Type} {f : α → Sem Next} (hf : ∀ a, Vals (f a)) : ∀ s : Sem α, Vals (s.bind f) := by
  intro s
  induction s with
  | pure a => exact hf a
  | load m a k ih => exact fun v => ih v
  | store m a v k ih => exact ih
  | new o k ih => exact fun v => ih v
  | shape r k ih => exact fun v => ih v
  | freeze a n k ih => exact ih
  | frozen a k ih => exact fun v => ih v
  | getObj r k ih => exact fun v => ih v
  | setObj r o k ih => exact ih
  | choose q k ih => exact fun v => ih v
  | sys c k ih => exact fun v => ih v
  | program k ih => exact fun v => ih v
  | mark m k ih => exact ih
  | halt x => exact trivial

theorem Vals.run {P : Program} : ∀ (s : Sem Next), Vals s → ∀ w n w', s.run P w = .ok n w' → ∃ u, n = .value u := by
  intro s
  induction s with
  | pure a => intro h w n w' e; simp only [Sem.run, Result.ok.injEq] at e; rw [← e.1]; exact h
  | load m a k ih =>
    intro h w n w' e
    simp only [Sem.run] at e
    split at e
    · exact ih _ (h _) _ _ _ e
    · split at e
      · exact ih _ (h _) _ _ _ e
      · cases e
  | store m a v k ih =>
    intro h w n w' e
    cases v <;> simp only [Sem.run] at e <;> first
      | (cases e; done)
      | (split at e
         · split at e
           · cases e
           · exact ih h _ _ _ e
         · split at e
           · exact ih h _ _ _ e
           · cases e)
  | new o k ih => intro h w n w' e; exact ih _ (h _) _ _ _ (by simpa only [Sem.run] using e)
  | shape r k ih => intro h w n w' e; exact ih _ (h _) _ _ _ (by simpa only [Sem.run] using e)
  | freeze a m k ih => intro h w n w' e; exact ih h _ _ _ (by simpa only [Sem.run] using e)
  | frozen a k ih => intro h w n w' e; exact ih _ (h _) _ _ _ (by simpa only [Sem.run] using e)
  | getObj r k ih =>
    intro h w n w' e
    simp only [Sem.run] at e
    split at e
    · cases e
    · exact ih _ (h _) _ _ _ e
    · cases e
  | setObj r o k ih =>
    intro h w n w' e
    simp only [Sem.run] at e
    split at e
    · cases e
    · exact ih h _ _ _ e
    · cases e
  | choose q k ih =>
    intro h w n w' e
    simp only [Sem.run] at e
    split at e
    · exact ih _ (h _) _ _ _ e
    · exact ih _ (h _) _ _ _ e
  | sys c k ih => intro h w n w' e; exact ih _ (h _) _ _ _ (by simpa only [Sem.run] using e)
  | program k ih => intro h w n w' e; exact ih _ (h _) _ _ _ (by simpa only [Sem.run] using e)
  | mark m k ih => intro h w n w' e; exact ih h _ _ _ (by simpa only [Sem.run] using e)
  | halt x => intro _ w n w' e; simp [Sem.run] at e

theorem vals_bind {α : Type} {s : Sem α} {f : α → Sem Next} (hf : ∀ a, Vals (f a)) : Vals (s >>= f) := Vals.bind hf s

/-- Operations that may be taken first. -/
def headOp : Op → Bool
  | .move _ | .assign _ | .pick .. | .load .. | .binOp .. | .unOp .. | .convert .. | .fieldAddr .. | .field .. | .indexAddr .. | .index .. | .slice .. | .extract .. | .makeFunc .. | .nilCheck _ => true
  | .call { callee := .builtin .len, .. } => true
  | _ => false

/-- Operations that lay a new block and do nothing else. -/
def newOp : Op → Bool
  | .buildSlice .. | .box .. | .makeSlice .. | .alloc _ => true
  | _ => false

theorem head_vals (ρ : Operand → Value) (o : Oper) (h : headOp o.op = true) : Vals (execOp ρ o) := by
  obtain ⟨dst, op, type, pos, after, guard⟩ := o
  cases op <;> simp only [headOp] at h <;> first
    | (cases h; done)
    | (simp only [execOp]; refine vals_bind ?_; intro _; exact ⟨_, rfl⟩)
    | (simp only [execOp]; exact ⟨_, rfl⟩)
    | skip
  case nilCheck x =>
    simp only [execOp]
    generalize ρ x = v
    split
    · exact fun p => trivial
    · exact fun p => trivial
    · exact fun p => trivial
    · split
      · exact fun p => trivial
      · refine vals_bind ?_; intro _
        refine vals_bind ?_; intro _
        split
        · refine vals_bind ?_; intro _; exact ⟨_, rfl⟩
        · exact ⟨_, rfl⟩
      · exact ⟨_, rfl⟩
    · exact ⟨_, rfl⟩
  case call c =>
    obtain ⟨callee, args, argTypes⟩ := c
    cases callee <;> first | (simp at h; done) | skip
    case builtin b =>
      cases b <;> first | (simp at h; done) | skip
      exact (vals_bind (s := Builtin.len_ argTypes type (args.map ρ)) (f := fun v => pure (Next.value v)) fun v => ⟨_, rfl⟩)

theorem new_vals (ρ : Operand → Value) (o : Oper) (h : newOp o.op = true) : Vals (execOp ρ o) := by
  obtain ⟨dst, op, type, pos, after, guard⟩ := o
  cases op <;> simp only [newOp] at h <;> first
    | (cases h; done)
    | (simp only [execOp]; refine vals_bind ?_; intro _; exact ⟨_, rfl⟩)

theorem grows_pure {α : Type} (a : α) : Grows (pure a : Sem α) := trivial
theorem grows_stuck {α : Type} (s : String) : Grows (stuck s : Sem α) := trivial
theorem grows_unsupported {α : Type} (s : Unsupported) : Grows (unsupported s : Sem α) := trivial
theorem grows_bind {α β : Type} {s : Sem α} {f : α → Sem β} (h : Grows s) (hf : ∀ a, Grows (f a)) : Grows (s >>= f) := Grows.bind h hf
theorem grows_program : Grows program := fun _ => trivial
theorem grows_typeInfo (t : TypeId) : Grows (typeInfo t) := grows_bind grows_program fun p => by (try dsimp only); split <;> trivial
theorem grows_underlying (t : TypeId) : Grows (underlying t) := grows_bind grows_program fun p => by (try dsimp only); split <;> trivial
theorem grows_sizeOf (t : TypeId) : Grows (sizeOf t) := grows_bind (grows_typeInfo t) fun _ => trivial
theorem grows_zeroValue (t : TypeId) : Grows (zeroValue t) := grows_bind (grows_typeInfo t) fun i => by (try dsimp only); split <;> trivial
theorem grows_newRow (t : TypeId) (c : Array Value) : Grows (newRow t c) := grows_bind (fun _ => trivial) fun _ => trivial
theorem grows_elemOf (t : TypeId) : Grows (elemOf t) := grows_bind (grows_underlying t) fun _ => by (try dsimp only); split <;> trivial
theorem grows_goPanic {α : Type} (v : Value) : Grows (goPanic v : Sem α) := trivial
theorem grows_runtimePanic {α : Type} (e : RuntimeError) : Grows (runtimePanic e : Sem α) := grows_bind grows_program fun _ => by
  (try dsimp only)
  split <;> first
    | exact grows_goPanic _
    | (refine grows_bind (grows_elemOf _) fun _ => ?_; refine grows_bind (grows_newRow _ _) fun _ => ?_; exact grows_goPanic _)
theorem grows_asIntOf (v : Value) : Grows (asIntOf v) := by unfold asIntOf; split <;> trivial
theorem grows_asInt (v : Value) : Grows (asInt v) := by unfold asInt; exact grows_bind (grows_asIntOf v) fun _ => trivial
theorem grows_askRoom (n : Nat) : Grows (askRoom n) := by unfold askRoom; split <;> trivial
theorem grows_choose (q : Question) : Grows (choose q) := fun _ => trivial

theorem grows_box (e : TypeId) (v : Value) : Grows (Instr.box e v) := grows_bind (grows_newRow _ _) fun _ => trivial
theorem grows_alloc (e : TypeId) (v : Value) : Grows (Instr.alloc e true v) := by
  unfold Instr.alloc
  exact grows_bind (grows_zeroValue _) fun z => grows_bind (grows_newRow _ _) fun _ => trivial
theorem grows_buildSlice (t : TypeId) (n : Nat) (ps : Array (Nat × Value)) : Grows (Instr.buildSlice t n ps) := by
  unfold Instr.buildSlice
  repeat' first
    | exact trivial
    | exact grows_underlying _
    | exact grows_sizeOf _
    | exact grows_zeroValue _
    | exact grows_newRow _ _
    | exact grows_stuck _
    | exact grows_unsupported _
    | refine grows_bind ?_ (fun _ => ?_)
    | split
    | dsimp only
theorem grows_makeSlice (t : TypeId) (a b : Value) : Grows (Instr.makeSlice t a b) := by
  unfold Instr.makeSlice
  repeat' first
    | exact trivial
    | exact grows_underlying _
    | exact grows_sizeOf _
    | exact grows_zeroValue _
    | exact grows_newRow _ _
    | exact grows_typeInfo _
    | exact grows_asInt _
    | exact grows_askRoom _
    | exact grows_choose _
    | exact grows_runtimePanic _
    | exact grows_stuck _
    | exact grows_unsupported _
    | refine grows_bind ?_ (fun _ => ?_)
    | split
    | dsimp only

theorem new_grows (ρ : Operand → Value) (o : Oper) (h : newOp o.op = true) : Grows (execOp ρ o) := by
  obtain ⟨dst, op, type, pos, after, guard⟩ := o
  cases op <;> simp only [newOp] at h <;> first
    | (cases h; done)
    | (simp only [execOp]; exact grows_bind (grows_box _ _) fun _ => trivial)
    | (simp only [execOp]; exact grows_bind (grows_alloc _ _) fun _ => trivial)
    | (simp only [execOp]; exact grows_bind (grows_buildSlice _ _ _) fun _ => trivial)
    | (simp only [execOp]; exact grows_bind (grows_makeSlice _ _ _) fun _ => trivial)

section
variable {P : Program} {ops : Array Oper} {Q : Exit → Act → World → Prop} {md : Region.Mode} {C : World → Prop}

/-- Whatever order is picked from here on: what is in 'h1' yields in every world, what is in 'h2' in every world of the class, the rest is carried out. -/
def wpM (P : Program) (md : Region.Mode) (ops : Array Oper) (Q : Exit → Act → World → Prop) (C : World → Prop) (h1 h2 : List Nat) : Nat → Array Bool → Act → World → Prop
  | 0, listed, a, w => Region.ready md ops listed = [] ∧ Q .normal a w
  | fuel + 1, listed, a, w =>
    (Region.ready md ops listed = [] → Q .normal a w) ∧
    ∀ i ∈ Region.ready md ops listed,
      if i ∈ h1 then ∃ o v, ops[i]? = some o ∧ Yields P ops o v a ∧ wpM P md ops Q C h1 h2 fuel (listed.setIfInBounds i true) (a.put o.dst v) w
      else if i ∈ h2 then ∃ o v, ops[i]? = some o ∧ C w ∧ YieldsIf P ops C o v a ∧ wpM P md ops Q C h1 h2 fuel (listed.setIfInBounds i true) (a.put o.dst v) w
      else wpOp P ops Q i (wpM P md ops Q C h1 h2 fuel (listed.setIfInBounds i true)) a w

theorem wpAny_of_M {h1 h2 : List Nat} : ∀ (fuel : Nat) (listed : Array Bool) (a : Act) (w : World), wpM P md ops Q C h1 h2 fuel listed a w → wpAny P md ops Q fuel listed a w
  | 0, _, _, _, h => h
  | fuel + 1, listed, a, w, h => ⟨h.1, fun i hi => by
      have h2 := h.2 i hi
      split at h2
      · obtain ⟨o, v, ho, hy, hm⟩ := h2
        exact hy.wpOp ho (wpAny_of_M fuel _ _ _ hm)
      · split at h2
        · obtain ⟨o, v, ho, hc, hy, hm⟩ := h2
          exact hy.wpOp ho hc (wpAny_of_M fuel _ _ _ hm)
        · exact wpOp_mono (fun a' w' h' => wpAny_of_M fuel _ a' w' h') h2⟩

theorem yields_put {oi oj : Oper} {a : Act} {v : Value} (hsj : ∀ cs b, oj.op ≠ .select cs b) (hap : oi.apart ops oj = true) {u : Value} (h : Yields P ops oj u (a.put oi.dst v)) : Yields P ops oj u a := by
  obtain ⟨h1, _, _⟩ := Oper.apart_spec hap
  exact h.of_same (execOp_put oj hsj a oi.dst v h1).symm (wanted_put oj a oi.dst v h1).symm

theorem yieldsIf_put {oi oj : Oper} {a : Act} {v : Value} (hsj : ∀ cs b, oj.op ≠ .select cs b) (hap : oi.apart ops oj = true) {u : Value} (h : YieldsIf P ops C oj u (a.put oi.dst v)) : YieldsIf P ops C oj u a := by
  obtain ⟨h1, _, _⟩ := Oper.apart_spec hap
  exact h.of_same (execOp_put oj hsj a oi.dst v h1).symm (wanted_put oj a oi.dst v h1).symm

theorem yields_put' {oi oj : Oper} {a : Act} {v : Value} (hsi : ∀ cs b, oi.op ≠ .select cs b) (hap : oi.apart ops oj = true) (u : Value) (h : Yields P ops oi v a) : Yields P ops oi v (a.put oj.dst u) := by
  obtain ⟨_, _, h3⟩ := Oper.apart_spec hap
  exact h.of_same (execOp_put oi hsi a oj.dst u h3) (wanted_put oi a oj.dst u h3)

theorem yieldsIf_put' {oi oj : Oper} {a : Act} {v : Value} (hsi : ∀ cs b, oi.op ≠ .select cs b) (hap : oi.apart ops oj = true) (u : Value) (h : YieldsIf P ops C oi v a) : YieldsIf P ops C oi v (a.put oj.dst u) := by
  obtain ⟨_, _, h3⟩ := Oper.apart_spec hap
  exact h.of_same (execOp_put oi hsi a oj.dst u h3) (wanted_put oi a oj.dst u h3)

theorem not_waits {i : Nat} {oj : Oper} {listed : Array Bool} (hr : i ∈ Region.ready md ops listed) (hall : ∀ e ∈ oj.after, Region.binds md e = true → listed.getD e.on false = true) :
    ∀ e ∈ oj.after, Region.binds md e = true → e.on ≠ i := fun e he hb heq => by
  have h1 := hall e he hb
  have h0 := (mem_ready.1 hr).1
  rw [heq] at h1
  rcases Nat.lt_or_ge i listed.size with h' | h'
  · simp [h'] at h0 h1; rw [h0] at h1; cases h1
  · simp [Array.getElem?_eq_none h'] at h1

/-- What 'free' asks, for all that has not come up. -/
def Free (md : Region.Mode) (ops : Array Oper) (i : Nat) (oi : Oper) (listed : Array Bool) : Prop :=
  ∀ j oj, ops[j]? = some oj → j ≠ i → listed.getD j true = false → (∀ e ∈ oj.after, Region.binds md e = true → e.on ≠ i) → oi.apart ops oj = true

theorem Free.set {i j : Nat} {oi : Oper} {listed : Array Bool} (h : Free md ops i oi listed) (hjun : listed.getD j true = false) : Free md ops i oi (listed.setIfInBounds j true) := fun k ok hk hki hun hno => by
  refine h k ok hk hki ?_ hno
  by_cases hjk : j = k
  · subst hjk; exact hjun
  · rw [getD_set_ne true hjk] at hun; exact hun

theorem wpM_first1 {h1 h2 : List Nat} {i : Nat} {oi : Oper} {v : Value} (hi : ops[i]? = some oi) (hi1 : i ∈ h1) (hsel : ∀ (j : Nat) (o : Oper) cs b, ops[j]? = some o → o.op ≠ .select cs b)
    (hQ : ∀ c a w, Q (.panic c) (a.put oi.dst v) w → Q (.panic c) a w) :
    ∀ (fuel : Nat) (listed : Array Bool) (a : Act) (w : World), Free md ops i oi listed →
      i ∈ Region.ready md ops listed → Yields P ops oi v a →
      wpM P md ops Q C h1 h2 fuel (listed.setIfInBounds i true) (a.put oi.dst v) w → wpM P md ops Q C h1 h2 (fuel + 1) listed a w := by
  intro fuel
  induction fuel with
  | zero =>
    intro listed a w _ hr hy H
    refine ⟨fun h => (by rw [h] at hr; cases hr), fun j hj => ?_⟩
    by_cases hji : j = i
    · subst hji; rw [if_pos hi1]; exact ⟨oi, v, hi, hy, H⟩
    · have := ready_mono hj hji
      rw [H.1] at this
      cases this
  | succ fuel ih =>
    intro listed a w hfree hr hy H
    refine ⟨fun h => (by rw [h] at hr; cases hr), fun j hj => ?_⟩
    by_cases hji : j = i
    · subst hji; rw [if_pos hi1]; exact ⟨oi, v, hi, hy, H⟩
    · have hH := H.2 j (ready_mono hj hji)
      obtain ⟨hjun, oj, hoj, hall⟩ := mem_ready.1 hj
      have hap := hfree j oj hoj hji hjun (not_waits hr hall)
      have hfree' := hfree.set hjun
      have hr' := ready_mono hr (Ne.symm hji)
      obtain ⟨_, hne, _⟩ := Oper.apart_spec hap
      split at hH
      · rename_i hj1
        obtain ⟨o, u, ho, hyj, hm⟩ := hH
        have e : oj = o := Option.some.inj (hoj.symm.trans ho)
        subst e
        rw [if_pos hj1]
        refine ⟨oj, u, hoj, yields_put (fun cs b => hsel j oj cs b hoj) hap hyj, ih _ _ _ hfree' hr' (yields_put' (fun cs b => hsel i oi cs b hi) hap u hy) ?_⟩
        rw [Array.setIfInBounds_comm _ _ hji, ← Act.put_comm a v u hne]
        exact hm
      · rename_i hj1
        split at hH
        · rename_i hj2
          obtain ⟨o, u, ho, hc, hyj, hm⟩ := hH
          have e : oj = o := Option.some.inj (hoj.symm.trans ho)
          subst e
          rw [if_neg hj1, if_pos hj2]
          refine ⟨oj, u, hoj, hc, yieldsIf_put (fun cs b => hsel j oj cs b hoj) hap hyj, ih _ _ _ hfree' hr' (yields_put' (fun cs b => hsel i oi cs b hi) hap u hy) ?_⟩
          rw [Array.setIfInBounds_comm _ _ hji, ← Act.put_comm a v u hne]
          exact hm
        · rename_i hj2
          rw [if_neg hj1, if_neg hj2]
          have h2 := wpOp_put hoj hap (fun cs b => hsel i oi cs b hi) (fun cs b => hsel j oj cs b hoj) hQ hy hH
          refine wpOp_mono (fun a' w' h3 => ih (listed.setIfInBounds j true) a' w' hfree' hr' h3.1 ?_) h2
          rw [Array.setIfInBounds_comm _ _ hji]
          exact h3.2

/-- An operation that lays a block leaves the class. -/
theorem wpOp_new {j : Nat} {oj : Oper} (hoj : ops[j]? = some oj) (hn : newOp oj.op = true) (hC : ∀ w w', C w → Below w.heap.size w w' → C w') {K : Act → World → Prop} {a : Act} {w : World} (hw : C w)
    (h : wpOp P ops Q j K a w) : wpOp P ops Q j (fun a' w' => C w' ∧ K a' w') a w := by
  unfold wpOp at *
  simp only [hoj] at *
  split
  · rename_i hwant
    simp only [hwant, if_true] at h
    rcases h with h | h
    case inr => exact .inr h
    refine .inl ?_
    have hv := Vals.run (P := P) _ (new_vals a.eval oj hn) w
    have hg := Grows.run P (new_grows a.eval oj hn) w
    unfold Oper.wp at *
    generalize (execOp a.eval oj).run P w = r at *
    cases r with
    | ok n w' =>
      obtain ⟨u, rfl⟩ := hv n w' rfl
      exact ⟨hC _ _ hw (hg _ _ rfl), h⟩
    | halt x w' => cases x <;> simp only [Oper.upon] at h ⊢ <;> exact h
  · rename_i hwant
    simp only [hwant] at h
    exact ⟨hw, h⟩

/-- What has come up has come up behind all that it waits for. -/
def Closed (md : Region.Mode) (ops : Array Oper) (listed : Array Bool) : Prop :=
  ∀ j oj, ops[j]? = some oj → listed.getD j false = true → ∀ e ∈ oj.after, Region.binds md e = true → listed.getD e.on false = true

theorem Closed.set {i : Nat} {listed : Array Bool} (inv : Closed md ops listed) (hi : i ∈ Region.ready md ops listed) : Closed md ops (listed.setIfInBounds i true) := by
  obtain ⟨_, oi, hoi, hall⟩ := mem_ready.1 hi
  intro j oj hj hl e he hb
  by_cases hij : i = j
  · subst hij
    have : oj = oi := Option.some.inj (hj.symm.trans hoi)
    subst this
    exact getD_set_true (hall e he hb)
  · rw [getD_set_ne false hij] at hl
    exact getD_set_true (inv j oj hj hl e he hb)

/-- t waits for i, through others or not. -/
def anc (md : Region.Mode) (ops : Array Oper) : Nat → Nat → Nat → Bool
  | 0, _, _ => false
  | n + 1, t, i => match ops[t]? with
    | some ot => ot.after.any fun e => Region.binds md e && (e.on == i || anc md ops n e.on i)
    | none => false

theorem anc_listed {listed : Array Bool} (hc : Closed md ops listed) {i : Nat} : ∀ (n t : Nat) (ot : Oper), ops[t]? = some ot → (∀ e ∈ ot.after, Region.binds md e = true → listed.getD e.on false = true) → anc md ops n t i = true → listed.getD i false = true := by
  intro n
  induction n with
  | zero => intro t ot _ _ h; simp [anc] at h
  | succ n ih =>
    intro t ot hot hall h
    simp only [anc, hot] at h
    obtain ⟨e, he, hb⟩ := Array.any_eq_true'.1 h
    simp only [Bool.and_eq_true, Bool.or_eq_true, beq_iff_eq] at hb
    obtain ⟨hb1, hb2⟩ := hb
    have hl := hall e he hb1
    rcases hb2 with h1 | h1
    · rw [← h1]; exact hl
    · cases n with
      | zero => simp [anc] at h1
      | succ n =>
        cases ho : ops[e.on]? with
        | none => simp [anc, ho] at h1
        | some oe => exact ih e.on oe ho (fun e' he' hb' => hc e.on oe ho hl e' he' hb') h1

theorem wpM_first2 {h1 h2 : List Nat} {i n : Nat} {oi : Oper} {v : Value} (hi : ops[i]? = some oi) (hi1 : i ∉ h1) (hi2 : i ∈ h2) (hsel : ∀ (j : Nat) (o : Oper) cs b, ops[j]? = some o → o.op ≠ .select cs b)
    (hQ : ∀ c a w, Q (.panic c) (a.put oi.dst v) w → Q (.panic c) a w) (hC : ∀ w w', C w → Below w.heap.size w w' → C w')
    (htail : ∀ j oj, ops[j]? = some oj → j ∉ h1 → j ∉ h2 → newOp oj.op = true ∨ anc md ops n j i = true) :
    ∀ (fuel : Nat) (listed : Array Bool) (a : Act) (w : World), Free md ops i oi listed → Closed md ops listed →
      i ∈ Region.ready md ops listed → YieldsIf P ops C oi v a → C w →
      wpM P md ops Q C h1 h2 fuel (listed.setIfInBounds i true) (a.put oi.dst v) w → wpM P md ops Q C h1 h2 (fuel + 1) listed a w := by
  intro fuel
  induction fuel with
  | zero =>
    intro listed a w _ _ hr hy hw H
    refine ⟨fun h => (by rw [h] at hr; cases hr), fun j hj => ?_⟩
    by_cases hji : j = i
    · subst hji; rw [if_neg hi1, if_pos hi2]; exact ⟨oi, v, hi, hw, hy, H⟩
    · have := ready_mono hj hji
      rw [H.1] at this
      cases this
  | succ fuel ih =>
    intro listed a w hfree hcl hr hy hw H
    refine ⟨fun h => (by rw [h] at hr; cases hr), fun j hj => ?_⟩
    by_cases hji : j = i
    · subst hji; rw [if_neg hi1, if_pos hi2]; exact ⟨oi, v, hi, hw, hy, H⟩
    · have hH := H.2 j (ready_mono hj hji)
      obtain ⟨hjun, oj, hoj, hall⟩ := mem_ready.1 hj
      have hap := hfree j oj hoj hji hjun (not_waits hr hall)
      have hfree' := hfree.set hjun
      have hcl' := hcl.set hj
      have hr' := ready_mono hr (Ne.symm hji)
      obtain ⟨_, hne, _⟩ := Oper.apart_spec hap
      split at hH
      · rename_i hj1
        obtain ⟨o, u, ho, hyj, hm⟩ := hH
        have e : oj = o := Option.some.inj (hoj.symm.trans ho)
        subst e
        rw [if_pos hj1]
        refine ⟨oj, u, hoj, yields_put (fun cs b => hsel j oj cs b hoj) hap hyj, ih _ _ _ hfree' hcl' hr' (yieldsIf_put' (fun cs b => hsel i oi cs b hi) hap u hy) hw ?_⟩
        rw [Array.setIfInBounds_comm _ _ hji, ← Act.put_comm a v u hne]
        exact hm
      · rename_i hj1
        split at hH
        · rename_i hj2
          obtain ⟨o, u, ho, hc, hyj, hm⟩ := hH
          have e : oj = o := Option.some.inj (hoj.symm.trans ho)
          subst e
          rw [if_neg hj1, if_pos hj2]
          refine ⟨oj, u, hoj, hc, yieldsIf_put (fun cs b => hsel j oj cs b hoj) hap hyj, ih _ _ _ hfree' hcl' hr' (yieldsIf_put' (fun cs b => hsel i oi cs b hi) hap u hy) hw ?_⟩
          rw [Array.setIfInBounds_comm _ _ hji, ← Act.put_comm a v u hne]
          exact hm
        · rename_i hj2
          rw [if_neg hj1, if_neg hj2]
          have hnew : newOp oj.op = true := (htail j oj hoj hj1 hj2).resolve_right fun hanc => by
            have h1 := anc_listed hcl n j oj hoj hall hanc
            have h0 := getD_both (mem_ready.1 hr).1
            rw [h1] at h0; cases h0
          have h2 := wpOp_new hoj hnew hC hw (wpOp_putIf hoj hap (fun cs b => hsel i oi cs b hi) (fun cs b => hsel j oj cs b hoj) hQ hy hH)
          refine wpOp_mono (fun a' w' h3 => ih (listed.setIfInBounds j true) a' w' hfree' hcl' hr' h3.2.1 h3.1 ?_) h2
          rw [Array.setIfInBounds_comm _ _ hji]
          exact h3.2.2

/-! ### The Bool over a region's text -/
def marked (listed : Array Bool) : List Nat → Array Bool
  | [] => listed
  | i :: l => marked (listed.setIfInBounds i true) l

def hoistB (md : Region.Mode) (ops : Array Oper) : List Nat → Array Bool → Bool
  | [], _ => true
  | i :: l, listed => (Region.ready md ops listed).contains i && Region.free md ops listed i && (match ops[i]? with | some o => headOp o.op | none => false) && hoistB md ops l (listed.setIfInBounds i true)

def seqL (md : Region.Mode) (ops : Array Oper) : List Nat → Array Bool → Bool
  | [], listed => (Region.ready md ops listed).isEmpty
  | i :: l, listed => decide (Region.ready md ops listed = [i]) && seqL md ops l (listed.setIfInBounds i true)

def mixB (md : Region.Mode) (ops : Array Oper) (h1 h2 ts : List Nat) : Bool :=
  Region.noSelect ops && h2.all (fun i => !h1.contains i) && ts.all (fun i => !h1.contains i && !h2.contains i) &&
  (List.range ops.size).all (fun t => h1.contains t || h2.contains t || (match ops[t]? with | some o => newOp o.op | none => false) || h2.all fun i => anc md ops ops.size t i) &&
  hoistB md ops (h1 ++ h2) (Array.replicate ops.size false) && seqL md ops ts (marked (Array.replicate ops.size false) (h1 ++ h2)) && (decide (h1.length + h2.length + ts.length = ops.size))

def pick (l : List Oper) (h : List Nat) : List Oper := h.filterMap fun i => l[i]?

theorem quiet_run {o : Oper} {a : Act} {v : Value} (hh : headOp o.op = true) {w : World} (h : o.quietAt P a C w v) : (execOp a.eval o).run P w = .ok (.value v) w := by
  have hv := Vals.run (P := P) _ (head_vals a.eval o hh) w
  unfold Oper.quietAt at h
  generalize (execOp a.eval o).run P w = r at *
  cases r with
  | ok n w' =>
    obtain ⟨u, rfl⟩ := hv n w' rfl
    obtain ⟨rfl, rfl⟩ := h
    rfl
  | halt x w' => exact h.elim

theorem marked_append (l1 l2 : List Nat) : ∀ listed, marked listed (l1 ++ l2) = marked (marked listed l1) l2 := by
  induction l1 with
  | nil => intro _; rfl
  | cons i l ih => intro listed; exact ih _

theorem hoistB_append (l1 l2 : List Nat) : ∀ listed, hoistB md ops (l1 ++ l2) listed = (hoistB md ops l1 listed && hoistB md ops l2 (marked listed l1)) := by
  induction l1 with
  | nil => intro _; simp [hoistB, marked]
  | cons i l ih => intro listed; simp only [List.cons_append, hoistB, marked, ih, Bool.and_assoc]

theorem closed_marked (l : List Nat) : ∀ listed, hoistB md ops l listed = true → Closed md ops listed → Closed md ops (marked listed l) := by
  induction l with
  | nil => intro _ _ h; exact h
  | cons i l ih =>
    intro listed hB hc
    simp only [hoistB, Bool.and_eq_true] at hB
    exact ih _ hB.2 (hc.set (by simpa using hB.1.1.1))

theorem hoist1 {h1 h2 : List Nat} (hsel : Region.noSelect ops = true) (hQ : ∀ c a w d v, Q (.panic c) (a.put d v) w → Q (.panic c) a w) {Qa : Act → Prop} {w : World} {fuel : Nat} :
    ∀ (l : List Nat) (lo : List Oper) (listed : Array Bool) (a : Act), (∀ i ∈ l, i ∈ h1) → l.map (fun i => ops[i]?) = lo.map some → hoistB md ops l listed = true →
      (∀ a', Qa a' → wpM P md ops Q C h1 h2 fuel (marked listed l) a' w) → wpQuiet P ops (fun _ => True) Qa lo a → wpM P md ops Q C h1 h2 (fuel + l.length) listed a w := by
  intro l
  induction l with
  | nil => intro lo listed a _ hm _ hk h; cases lo with | nil => exact hk a h | cons _ _ => simp at hm
  | cons i l ih =>
    intro lo listed a hmem hm hB hk h
    cases lo with
    | nil => simp at hm
    | cons o lo =>
      simp only [List.map_cons, List.cons.injEq] at hm
      obtain ⟨ho, hm⟩ := hm
      simp only [hoistB, Bool.and_eq_true, ho] at hB
      obtain ⟨⟨⟨hr, hf⟩, hh⟩, hB⟩ := hB
      have ih' := fun a' h' => ih lo (listed.setIfInBounds i true) a' (fun j hj => hmem j (List.mem_cons_of_mem _ hj)) hm hB hk h'
      rw [List.length_cons, show fuel + (l.length + 1) = (fuel + l.length) + 1 by omega]
      unfold wpQuiet at h
      split at h
      · rename_i hw
        obtain ⟨v, hq, hn⟩ := h
        exact wpM_first1 ho (hmem i (by simp)) (Region.noSelect_spec hsel) (fun c a w => hQ c a w _ _) _ _ _ _ (Region.free_spec ho hf) (by simpa using hr) (.inl ⟨hw, fun w => quiet_run hh (hq w trivial)⟩) (ih' _ hn)
      · rename_i hw
        exact wpM_first1 ho (hmem i (by simp)) (Region.noSelect_spec hsel) (fun c a w => hQ c a w _ _) _ _ _ _ (Region.free_spec ho hf) (by simpa using hr) (.inr ⟨by simpa using hw, rfl⟩) (ih' _ h)

theorem hoist2 {h1 h2 : List Nat} (hsel : Region.noSelect ops = true) (hQ : ∀ c a w d v, Q (.panic c) (a.put d v) w → Q (.panic c) a w) (hC : ∀ w w', C w → Below w.heap.size w w' → C w')
    (h12 : ∀ i ∈ h2, i ∉ h1) (htail : ∀ j oj, ops[j]? = some oj → j ∉ h1 → j ∉ h2 → newOp oj.op = true ∨ ∀ i ∈ h2, anc md ops ops.size j i = true) {Qa : Act → Prop} {w : World} (hw : C w) {fuel : Nat} :
    ∀ (l : List Nat) (lo : List Oper) (listed : Array Bool) (a : Act), (∀ i ∈ l, i ∈ h2) → l.map (fun i => ops[i]?) = lo.map some → hoistB md ops l listed = true → Closed md ops listed →
      (∀ a', Qa a' → wpM P md ops Q C h1 h2 fuel (marked listed l) a' w) → wpQuiet P ops C Qa lo a → wpM P md ops Q C h1 h2 (fuel + l.length) listed a w := by
  intro l
  induction l with
  | nil => intro lo listed a _ hm _ _ hk h; cases lo with | nil => exact hk a h | cons _ _ => simp at hm
  | cons i l ih =>
    intro lo listed a hmem hm hB hc hk h
    cases lo with
    | nil => simp at hm
    | cons o lo =>
      simp only [List.map_cons, List.cons.injEq] at hm
      obtain ⟨ho, hm⟩ := hm
      simp only [hoistB, Bool.and_eq_true, ho] at hB
      obtain ⟨⟨⟨hr, hf⟩, hh⟩, hB⟩ := hB
      have hr' : i ∈ Region.ready md ops listed := by simpa using hr
      have ih' := fun a' h' => ih lo (listed.setIfInBounds i true) a' (fun j hj => hmem j (List.mem_cons_of_mem _ hj)) hm hB (hc.set hr') hk h'
      have hi2 := hmem i (by simp)
      have ht : ∀ j oj, ops[j]? = some oj → j ∉ h1 → j ∉ h2 → newOp oj.op = true ∨ anc md ops ops.size j i = true := fun j oj hj a b => (htail j oj hj a b).imp id (fun h => h i hi2)
      rw [List.length_cons, show fuel + (l.length + 1) = (fuel + l.length) + 1 by omega]
      unfold wpQuiet at h
      split at h
      · rename_i hwant
        obtain ⟨v, hq, hn⟩ := h
        exact wpM_first2 ho (h12 i hi2) hi2 (Region.noSelect_spec hsel) (fun c a w => hQ c a w _ _) hC ht _ _ _ _ (Region.free_spec ho hf) hc hr' (.inl ⟨hwant, fun w hw => quiet_run hh (hq w hw)⟩) hw (ih' _ hn)
      · rename_i hwant
        exact wpM_first2 ho (h12 i hi2) hi2 (Region.noSelect_spec hsel) (fun c a w => hQ c a w _ _) hC ht _ _ _ _ (Region.free_spec ho hf) hc hr' (.inr ⟨by simpa using hwant, rfl⟩) hw (ih' _ h)

theorem wpM_seq {h1 h2 : List Nat} : ∀ (l : List Nat) (lo : List Oper) (listed : Array Bool) (a : Act) (w : World), (∀ i ∈ l, i ∉ h1 ∧ i ∉ h2) → l.map (fun i => ops[i]?) = lo.map some → seqL md ops l listed = true →
    wpList P ops Q lo a w → wpM P md ops Q C h1 h2 l.length listed a w := by
  intro l
  induction l with
  | nil => intro lo listed a w _ hm hB h; cases lo with | nil => exact ⟨by simpa [seqL] using hB, h⟩ | cons _ _ => simp at hm
  | cons i l ih =>
    intro lo listed a w hmem hm hB h
    cases lo with
    | nil => simp at hm
    | cons o lo =>
      simp only [List.map_cons, List.cons.injEq] at hm
      obtain ⟨ho, hm⟩ := hm
      simp only [seqL, Bool.and_eq_true, decide_eq_true_eq] at hB
      refine ⟨fun h1 => (by rw [hB.1] at h1; cases h1), fun j hj => ?_⟩
      rw [hB.1] at hj
      have hji : j = i := by simpa using hj
      subst hji
      have hn := hmem j (by simp)
      rw [if_neg hn.1, if_neg hn.2]
      have hw : wpOp P ops Q j (wpList P ops Q lo) a w := by unfold wpOp; simp only [ho]; exact h
      exact wpOp_mono (fun a' w' h' => ih lo _ a' w' (fun k hk => hmem k (List.mem_cons_of_mem _ hk)) hm hB.2 h') hw

theorem pick_map {l : List Oper} : ∀ (h : List Nat), (∀ i ∈ h, i < l.length) → h.map (fun i => l.toArray[i]?) = (pick l h).map some := by
  intro h
  induction h with
  | nil => intro _; rfl
  | cons i h ih =>
    intro hlt
    have hi := hlt i (by simp)
    have e : l[i]? = some l[i] := List.getElem?_eq_getElem hi
    have ih' := ih fun j hj => hlt j (List.mem_cons_of_mem _ hj)
    have e2 : pick l (i :: h) = l[i] :: pick l h := by simp [pick, e]
    rw [e2, List.map_cons, List.map_cons, ih', ← e]
    simp

theorem hoistB_lt : ∀ (l : List Nat) (listed : Array Bool), hoistB md ops l listed = true → ∀ i ∈ l, i < ops.size := by
  intro l
  induction l with
  | nil => intro _ _ i hi; cases hi
  | cons j l ih =>
    intro listed hB i hi
    simp only [hoistB, Bool.and_eq_true] at hB
    rcases List.mem_cons.1 hi with rfl | hi
    · cases ho : ops[i]? with
      | none => simp [ho] at hB
      | some o => exact (Array.getElem?_eq_some_iff.1 ho).1
    · exact ih _ hB.2 i hi

theorem seqL_lt : ∀ (l : List Nat) (listed : Array Bool), seqL md ops l listed = true → ∀ i ∈ l, i < ops.size := by
  intro l
  induction l with
  | nil => intro _ _ i hi; cases hi
  | cons j l ih =>
    intro listed hB i hi
    simp only [seqL, Bool.and_eq_true, decide_eq_true_eq] at hB
    rcases List.mem_cons.1 hi with rfl | hi
    · have : i ∈ Region.ready md ops listed := by rw [hB.1]; simp
      obtain ⟨_, o, ho, _⟩ := mem_ready.1 this
      exact (Array.getElem?_eq_some_iff.1 ho).1
    · exact ih _ hB.2 i hi

/-- Behind a region: what follows, as a variable; no panic. -/
def Only (K : Act → World → Prop) : Exit → Act → World → Prop
  | .normal, a, w => K a w
  | _, _, _ => False

theorem any_mix {a : Act} {w : World} {l : List Oper} (h1 h2 ts : List Nat) (C : World → Prop) (hB : mixB .any l.toArray h1 h2 ts = true)
    (hC : ∀ w w', C w → Below w.heap.size w w' → C w') (hw : C { w with drawn := w.drawn + 1 })
    (h : ∀ K : Act → World → Prop, (∀ a w, Q .normal a w → K a w) → wpQuiet P l.toArray (fun _ => True) (fun a1 => wpQuiet P l.toArray C (fun a2 => wpList P l.toArray (Only K) (pick l ts) a2 { w with drawn := w.drawn + 1 }) (pick l h2) a1) (pick l h1) a) :
    wpAny P .any l.toArray (Only fun a w => Q .normal a w) l.toArray.size (Array.replicate l.toArray.size false) a { w with drawn := w.drawn + 1 } := by
  have H := h (fun a w => Q .normal a w) fun _ _ h => h
  simp only [mixB, Bool.and_eq_true, decide_eq_true_eq] at hB
  obtain ⟨⟨⟨⟨⟨⟨hsel, h12⟩, hts⟩, htail⟩, hh⟩, hseq⟩, hlen⟩ := hB
  have h12' : ∀ i ∈ h2, i ∉ h1 := fun i hi => by simpa using List.all_eq_true.1 h12 i hi
  have hts' : ∀ i ∈ ts, i ∉ h1 ∧ i ∉ h2 := fun i hi => by simpa using List.all_eq_true.1 hts i hi
  have htail' : ∀ j oj, l.toArray[j]? = some oj → j ∉ h1 → j ∉ h2 → newOp oj.op = true ∨ ∀ i ∈ h2, anc .any l.toArray l.toArray.size j i = true := fun j oj hj n1 n2 => by
    have h3 := List.all_eq_true.1 htail j (List.mem_range.2 (Array.getElem?_eq_some_iff.1 hj).1)
    simp only [hj, Bool.or_eq_true, List.contains_iff_mem, n1, n2, false_or] at h3
    rcases h3 with h3 | h3
    · exact .inl h3
    · exact .inr fun i hi => List.all_eq_true.1 h3 i hi
  rw [hoistB_append, Bool.and_eq_true] at hh
  rw [marked_append] at hseq
  have lt1 := hoistB_lt _ _ hh.1
  have lt2 := hoistB_lt _ _ hh.2
  have lt3 := seqL_lt _ _ hseq
  have hQ' : ∀ c a w d v, Only (fun a w => Q .normal a w) (.panic c) (a.put d v) w → Only (fun a w => Q .normal a w) (.panic c) a w := fun _ _ _ _ _ h => h
  have cl0 : Closed .any l.toArray (Array.replicate l.toArray.size false) := fun j oj _ hl => by rw [getD_replicate_false] at hl; cases hl
  have cl1 := closed_marked _ _ hh.1 cl0
  refine wpAny_of_M (C := C) (h1 := h1) (h2 := h2) _ _ _ _ ?_
  have key : wpM P .any l.toArray (Only fun a w => Q .normal a w) C h1 h2 (ts.length + h2.length + h1.length) (Array.replicate l.toArray.size false) a { w with drawn := w.drawn + 1 } := ?_
  · have e : l.toArray.size = ts.length + h2.length + h1.length := by omega
    have e2 : ∀ n, n = ts.length + h2.length + h1.length → wpM P .any l.toArray (Only fun a w => Q .normal a w) C h1 h2 n (Array.replicate l.toArray.size false) a { w with drawn := w.drawn + 1 } := fun n hn => hn ▸ key
    exact e2 _ e
  refine hoist1 hsel hQ' h1 (pick l h1) _ a (fun i hi => hi) (pick_map h1 (by simpa using lt1)) hh.1 (fun a1 H1 => ?_) H
  refine hoist2 hsel hQ' hC h12' htail' hw h2 (pick l h2) _ a1 (fun i hi => hi) (pick_map h2 (by simpa using lt2)) hh.2 cl1 (fun a2 H2 => ?_) H1
  exact wpM_seq ts (pick l ts) _ a2 _ hts' (pick_map ts (by simpa using lt3)) hseq H2

theorem wp_region_mix {id : Nat} {a : Act} {w : World} {l : List Oper} (h1 h2 ts : List Nat) (C : World → Prop) (hm : P.follows .mixedOrders = true) (hB : mixB .any l.toArray h1 h2 ts = true)
    (hC : ∀ w w', C w → Below w.heap.size w w' → C w') (hw : C { w with drawn := w.drawn + 1 })
    (h : ∀ K : Act → World → Prop, (∀ a w, Q .normal a w → K a w) → wpQuiet P l.toArray (fun _ => True) (fun a1 => wpQuiet P l.toArray C (fun a2 => wpList P l.toArray (Only K) (pick l ts) a2 { w with drawn := w.drawn + 1 }) (pick l h2) a1) (pick l h1) a) :
    (Code.region id l.toArray true).wp P Q a w := by
  refine Code.wp_mono (Q := Only fun a w => Q .normal a w) (fun e a w h => by cases e <;> first | exact h | exact h.elim) ?_
  exact wp_region_any hm (any_mix h1 h2 ts C hB hC hw h)

/-- The worlds that are w but for new blocks and draws. -/
def Lat (w : World) : Type := { w' : World // Below w.heap.size w w' }
def Lat.w {w : World} (n : Lat w) : World := n.val
theorem Lat.below {w : World} (n : Lat w) : Below w.heap.size w n.w := n.property
def Lat.here (w : World) : Lat w := ⟨w, Below.refl _ _⟩
instance (w : World) : Nonempty (Lat w) := ⟨Lat.here w⟩
def Lat.drew (w : World) : Lat w := ⟨w.drew, (Below.refl _ _).drew⟩

theorem lat_cell {w : World} {p : Addr} {v : Value} (h : w.cell? p = some v) (n : Lat w) : n.w.cell? p = some v :=
  (n.below.cell (World.block_lt_of_cell? w p h)).trans h
theorem lat_block {w : World} {b : Nat} {o : Obj} (h : w.heap[b]? = some o) (n : Lat w) : n.w.heap[b]? = some o :=
  (n.below.block b (Array.getElem?_eq_some_iff.1 h).1).trans h
theorem lat_frozen {w : World} {p : Addr} {v : Value} (h : w.cell? p = some v) (hf : w.frozen? p = false) (n : Lat w) : n.w.frozen? p = false :=
  (n.below.frozen (World.block_lt_of_cell? w p h)).trans hf

theorem lat_call {w : World} {f : FuncId} {args : Array Value} {n : Lat w} {v : Value} (h : Calls P f args n.w fun e w' => e = .returned v ∧ Below n.w.heap.size n.w w') :
    Calls P f args n.w fun e w' => e = .returned v ∧ ∃ m : Lat w, w' = m.w :=
  h.mono fun _ w' ⟨he, hb⟩ => ⟨he, ⟨w', n.below.trans (hb.mono n.below.size)⟩, rfl⟩
theorem lat_call_same {w : World} {f : FuncId} {args : Array Value} {n : Lat w} {v : Value} (h : Calls P f args n.w fun e w' => e = .returned v ∧ n.w = w') :
    Calls P f args n.w fun e w' => e = .returned v ∧ ∃ m : Lat w, w' = m.w :=
  h.mono fun _ _ ⟨he, hb⟩ => ⟨he, n, hb.symm⟩

/-- Some operations first (those of h1 look at no memory), then a forced chain. -/
theorem wp_region_mixL {id : Nat} {a : Act} {w : World} {l : List Oper} (h1 h2 ts : List Nat) (hm : P.follows .mixedOrders = true) (hB : mixB .any l.toArray h1 h2 ts = true)
    (h : ∀ K : Act → World → Prop, (∀ a w, Q .normal a w → K a w) → wpQuiet P l.toArray (fun _ => True) (fun a1 => wpQuiet P l.toArray (fun w' => ∃ n : Lat w, w' = n.w) (fun a2 => wpList P l.toArray (Only K) (pick l ts) a2 w.drew) (pick l h2) a1) (pick l h1) a) :
    (Code.region id l.toArray true).wp P Q a w :=
  wp_region_mix h1 h2 ts (fun w' => ∃ n : Lat w, w' = n.w) hm hB (fun _ w2 ⟨n, e⟩ hb => by subst e; exact ⟨⟨w2, n.below.trans (hb.mono n.below.size)⟩, rfl⟩) ⟨Lat.drew w, rfl⟩ h

/-- Every operation reads, or calls what lays new memory alone. -/
theorem wp_region_quietL {id : Nat} {a : Act} {w : World} {l : List Oper} (hm : P.follows .mixedOrders = true) (hB : Region.lexB .any l.toArray = true)
    (h : wpQuiet P l.toArray (fun w' => ∃ n : Lat w, w' = n.w) (fun a' => ∀ n : Lat w, Q .normal a' n.w) l a) : (Code.region id l.toArray true).wp P Q a w :=
  wp_region_quiet (C := fun w' => ∃ n : Lat w, w' = n.w) hm hB ⟨Lat.drew w, rfl⟩ (by
    have e : (fun a' => ∀ w', (∃ n : Lat w, w' = n.w) → Q .normal a' w') = fun a' => ∀ n : Lat w, Q .normal a' n.w := by
      funext a'
      exact propext ⟨fun h n => h _ ⟨n, rfl⟩, fun h w' ⟨n, e⟩ => e ▸ h n⟩
    rw [e]
    exact h)
end
end Go.Proofs.Ytbldocbijihpgaa.Mix

-- ---- By
/- '[]byte(s)', one byte turned, and the bytes made a text again: what lies in memory on the way. Conditions: those that each theorem names. -/
namespace Go.Proofs.Ytbldocbijihpgaa.By
set_option linter.unusedSimpArgs false
set_option linter.unusedVariables false
open Go.RowKit Mix _root_.Go.Proofs.Ytbldocbijihpgaa.Own

/-- What '[]byte(s)' lays: its bytes from the block's head on. -/
structure Bs (w : World) (g : Nat) (l : List UInt8) : Prop where
  lt : g < w.heap.size
  cell : ∀ j (h : j < l.length), w.cell? ⟨g, j, none⟩ = some (.int .u8 ((l[j]'h).toNat : Int))
  free : ∀ j, j < l.length → w.frozen? ⟨g, j, none⟩ = false
theorem Bs.fresh (w : World) (s : ByteArray) (cap : Nat) : Bs (w.drew.alloc (.cells (bytesRow s cap) 5 ((bytesRow s cap).size, (bytesRow s cap).size + 1))) w.heap.size s.data.toList := by
  have e : w.drew.heap.size = w.heap.size := rfl
  refine ⟨by rw [← e]; simp, fun j h => ?_, fun j h => ?_⟩
  · have h1 := World.cell?_alloc_mark w.drew (bytesRow s cap) 5 ((bytesRow s cap).size, (bytesRow s cap).size + 1) j
    rw [e] at h1
    rw [h1, bytesRow_at s cap j (by simpa using h)]
    simp
  · have h1 := World.frozen?_alloc_mark w.drew (bytesRow s cap) 5 (bytesRow s cap).size ((bytesRow s cap).size + 1) j
    rw [e] at h1
    rw [h1]
    have : j < (bytesRow s cap).size := by unfold bytesRow; simp at h ⊢; omega
    simp; omega
theorem below_fresh (w : World) (s : ByteArray) (cap : Nat) (B : Nat) (hB : B ≤ w.heap.size) : Below B w (w.drew.alloc (.cells (bytesRow s cap) 5 ((bytesRow s cap).size, (bytesRow s cap).size + 1))) :=
  ((Below.refl B w).drew).alloc hB _
theorem Bs.set {w : World} {g : Nat} {l : List UInt8} (h : Bs w g l) (j : Nat) (hj : j < l.length) (b : UInt8) : Bs (w.setCell ⟨g, j, none⟩ (.int .u8 (b.toNat : Int))) g (l.set j b) := by
  refine ⟨by have := h.lt; simp [World.setCell]; exact this, fun i hi => ?_, fun i hi => ?_⟩
  · have hi2 : i < l.length := by simpa using hi
    by_cases e : i = j
    · subst e
      rw [World.cell?_setCell_same (h := h.cell i hi2)]
      simp
    · rw [World.cell?_setCell_other (h := by intro h2; injection h2 with _ h3; exact e h3.symm), h.cell i hi2, List.getElem_set_ne (fun e2 => e e2.symm)]
  · rw [World.frozen?_setCell]
    exact h.free i (by simpa using hi)
/-- The bytes made a text. -/
theorem Bs.text {w : World} {g : Nat} {l : List UInt8} (h : Bs w g l) (n cap : Nat) (hn : n = l.length) : (convert 45 9 (.slice (some ⟨g, 0, none⟩) n cap)).run Try.prog w = .ok (.string ⟨l.toArray⟩) w := by
  subst hn
  refine run_convert_bytes_back w 45 9 5 ⟨g, 0, none⟩ cap l Try.underlying45 Try.underlying5 Try.underlying9 fun j hj => ?_
  have e : (⟨g, 0, none⟩ : Addr).add j = ⟨g, j, none⟩ := by unfold Addr.add; split <;> simp_all
  rw [e]; exact h.cell j hj
theorem bytes_run (w : World) (s : ByteArray) : (convert 9 45 (.string s)).run Try.prog w = .ok (.slice (some ⟨w.heap.size, 0, none⟩) s.size (grownCap w s.size 0 5))
      (w.drew.alloc (.cells (bytesRow s (grownCap w s.size 0 5)) 5 ((bytesRow s (grownCap w s.size 0 5)).size, (bytesRow s (grownCap w s.size 0 5)).size + 1))) :=
  run_bytes_of_string w 9 45 5 s Try.underlying9 Try.underlying45 Try.underlying5
end Go.Proofs.Ytbldocbijihpgaa.By

-- ---- Owk
/- Rows of elements of several cells that a call makes for itself. No program in sight. -/
namespace Go.Proofs.Ytbldocbijihpgaa.Own
set_option linter.unusedSimpArgs false
set_option linter.unusedVariables false
open Go Go.RowKit

/-- v is a slice of n elements of sz cells each, alone in a block of its own, or nil. -/
def OwnK (w : World) (e : TypeId) (sz : Nat) (v : Value) (n : Nat) (cs : List Value) : Prop := w.ownsRow 0 e sz v n cs
theorem OwnK.keep {w w' : World} {e : TypeId} {sz n : Nat} {v : Value} {cs : List Value} (h : OwnK w e sz v n cs) (hk : ∀ g, v.ownBlock = some g → g < w.heap.size → w'.heap[g]? = w.heap[g]?) : OwnK w' e sz v n cs := by
  refine ⟨h.1, ?_⟩
  rcases h.2 with hn | ⟨g, cap, cur, rfl, hb, hgg, rest⟩
  · exact .inl hn
  · exact .inr ⟨g, cap, cur, rfl, hb, (hk g rfl (lt_of_some hgg)).trans hgg, rest⟩
theorem OwnK.chg {w w' : World} {S : Nat → Prop} {e : TypeId} {sz n : Nat} {v : Value} {cs : List Value} (h : OwnK w e sz v n cs) (hc : Chg S w w') (hn : ∀ g, v.ownBlock = some g → ¬ S g) : OwnK w' e sz v n cs :=
  h.keep fun g hg hl => hc.block g hl (hn g hg)
theorem OwnK.later {w w' : World} {e : TypeId} {sz n : Nat} {v : Value} {cs : List Value} (h : OwnK w e sz v n cs) (hb : Below w.heap.size w w') : OwnK w' e sz v n cs := h.keep fun g _ hl => hb.block g hl
theorem OwnK.setOther {w : World} {e : TypeId} {sz n : Nat} {v : Value} {cs : List Value} (h : OwnK w e sz v n cs) {a : Addr} (hn : v.ownBlock ≠ some a.block) (u : Value) : OwnK (w.setCell a u) e sz v n cs :=
  h.keep fun g hg _ => Below.heap_setCell w a u g fun e => hn (by rw [hg, e])
theorem OwnK.lt {w : World} {e : TypeId} {sz n : Nat} {v : Value} {cs : List Value} (h : OwnK w e sz v n cs) : ∀ g, v.ownBlock = some g → g < w.heap.size := fun g hg => (World.ownsRow.lt h g hg).2
theorem OwnK.blk {w : World} {e : TypeId} {sz n : Nat} {v : Value} {cs : List Value} (h : OwnK w e sz v n cs) : ∀ g, v.ownBlock = some g → ∃ cur, Blk w g cur e := by
  intro g hg
  rcases h.2 with ⟨rfl, _⟩ | ⟨g', cap, cur, rfl, _, hb, _⟩
  · simp [Value.ownBlock] at hg
  · simp [Value.ownBlock] at hg; subst hg; exact ⟨cur, hb⟩
theorem OwnK.ne {w : World} {e t : TypeId} {sz n : Nat} {v : Value} {cs : List Value} {p : Nat} {ds : Array Value} (h : OwnK w e sz v n cs) (k : Blk w p ds t) (hne : e ≠ t) : v.ownBlock ≠ some p := by
  intro hg
  obtain ⟨cur, hb⟩ := h.blk p hg
  exact hb.ne k hne rfl
theorem OwnK.neO {w : World} {e t : TypeId} {sz n : Nat} {v u : Value} {cs xs : List Value} (h : OwnK w e sz v n cs) (k : Owns w t u xs) (hne : e ≠ t) {g : Nat} (hg : u.ownBlock = some g) : v.ownBlock ≠ some g := by
  obtain ⟨cur, hb⟩ := k.blk g hg
  exact h.ne hb hne
theorem OwnK.slice {w : World} {e : TypeId} {sz n : Nat} {v : Value} {cs : List Value} (h : OwnK w e sz v n cs) : ∃ a cap, v = .slice a n cap ∧ n ≤ cap ∧ cap ≤ maxLen ∧ (0 < n → ∃ g, a = some ⟨g, 0, none⟩) := by
  rcases h.2 with ⟨rfl, rfl⟩ | ⟨g, cap, cur, rfl, _, _, hc, hm, _⟩
  · exact ⟨none, 0, rfl, Nat.le_refl _, by simp [maxLen], fun h => absurd h (by omega)⟩
  · exact ⟨_, cap, rfl, hc, hm, fun _ => ⟨g, rfl⟩⟩
theorem OwnK.cell {w : World} {e : TypeId} {sz g n cap : Nat} {cs : List Value} (h : OwnK w e sz (.slice (some ⟨g, 0, none⟩) n cap) n cs) {j : Nat} {u : Value} (hu : cs[j]? = some u) : w.cell? ⟨g, j, none⟩ = some u := by
  have hj : j < cs.length := (List.getElem?_eq_some_iff.1 hu).1
  rw [World.ownsRow.cellAt h j (by have := h.1; omega), hu]
theorem OwnK.nil (w : World) (e : TypeId) (sz : Nat) : OwnK w e sz (.slice none 0 0) 0 [] := World.ownsRow_nil w 0 e sz
theorem OwnK.free {w : World} {e : TypeId} {sz g n cap : Nat} {cs : List Value} (h : OwnK w e sz (.slice (some ⟨g, 0, none⟩) n cap) n cs) (j : Nat) : w.frozen? ⟨g, j, none⟩ = false := by
  obtain ⟨cur, hb⟩ := h.blk g rfl
  exact hb.free j
theorem OwnK.store {w : World} {e : TypeId} {sz g n cap : Nat} {cs : List Value} (h : OwnK w e sz (.slice (some ⟨g, 0, none⟩) n cap) n cs) (j : Nat) (u : Value) :
    OwnK (w.setCell ⟨g, j, none⟩ u) e sz (.slice (some ⟨g, 0, none⟩) n cap) n (cs.set j u) := by
  rcases h.2 with ⟨hv, _⟩ | ⟨g', cap', cur, hv, hb, hgg, hc, hm, hs, ht⟩
  · simp at hv
  · simp only [Value.slice.injEq, Option.some.injEq, Addr.mk.injEq, and_true, true_and] at hv
    obtain ⟨rfl, rfl⟩ := hv
    have h2 : Blk (w.setCell ⟨g, j, none⟩ u) g (cur.setIfInBounds j u) e := Blk.set hgg j u
    refine ⟨by rw [List.length_set]; exact h.1, .inr ⟨g, cap, _, rfl, hb, h2, hc, hm, by simpa using hs, ?_⟩⟩
    rw [Array.toList_setIfInBounds, List.take_set, ht]

section
variable {P : Program} {w : World}
/-- 'append' of one element that lies in a new block. -/
theorem wpList_appK1 {ops : Array Oper} {rest : List Oper} {o : Oper} {a : Act} {Q : Exit → Act → World → Prop} (hgd : o.guard = none) (s x : Operand) (t : TypeId)
    (ho : o.op = .call { callee := .builtin .append, args := #[s, x], argTypes := #[t, t] })
    (e : TypeId) (i : TypeInfo) (z : Value) (size bytes : Nat) (ht : P.underlying t = some (.slice e)) (hi : P.info? e = some i) (hz : i.zero = some z)
    (hsize : i.size = size) (hby : i.bytes = bytes) (hzs : z.cells.size = size) (hsz : 0 < size)
    (v : Value) (n : Nat) (cs us : List Value) (hs : a.eval s = v) (hown : OwnK w e size v n cs) (hu : us.length = size) (h1 : ∀ u ∈ us, u.oneCell' = true)
    (hx : a.eval x = .slice (some ⟨w.heap.size, 0, none⟩) 1 1)
    (h63 : n + 1 ≤ maxLen) (hbytes : (n + 1) * bytes ≤ 140737488355328)
    (h : ∀ v' w', OwnK w' e size v' (n + 1) (cs ++ us) → Chg (fun k => some k = v.ownBlock) w w' → (∀ g, v'.ownBlock = some g → some g = v.ownBlock ∨ w.heap.size ≤ g) → wpList P ops Q rest (a.put o.dst v') w') :
    wpList P ops Q (o :: rest) a (w.alloc (.cells us.toArray e)) := by
  refine wpList_append_own_at (w := w.alloc (.cells us.toArray e)) hgd s x t ho 0 e i z size bytes ht hi hz hsize hby hzs hsz v n cs hs (hown.later ((Below.refl _ _).alloc (Nat.le_refl _) _)) ⟨w.heap.size, 0, none⟩ 1 1 us hx (by rw [hu]; simp) ?_ h1 h63 hbytes (Nat.zero_le _) ?_
  · intro j u hj
    have hb : Blk (w.alloc (.cells us.toArray e)) w.heap.size us.toArray e := Blk.fresh _ _ _
    have := hb.cell (i := j) (v := u) (by simpa using hj)
    rw [show (⟨w.heap.size, 0, none⟩ : Addr).add j = ⟨w.heap.size, j, none⟩ from by unfold Addr.add; split <;> simp_all]
    exact this
  · intro v' w' k1 k2 _ k4
    refine h v' w' k1 ((Chg.alloc _ w _).trans (Chg.of_grown k2) fun _ _ h => h) fun g hg => ?_
    rcases k4 with k4 | k4
    · left; rw [← k4]; exact hg.symm
    · right; rw [k4] at hg; simp at hg; omega

/-- 'make([]T, 0, n)'. -/
theorem wpList_mkK0 {ops : Array Oper} {rest : List Oper} {o : Oper} {a : Act} {Q : Exit → Act → World → Prop} (hgd : o.guard = none) (l c : Operand) (t : TypeId) (ho : o.op = Op.makeSlice t l c)
    (e : TypeId) (i : TypeInfo) (z : Value) (size bytes : Nat) (ht : P.underlying t = some (.slice e)) (hi : P.info? e = some i) (hz : i.zero = some z) (hsize : i.size = size) (hby : i.bytes = bytes)
    (kl kc : IntKind) (C : Int) (n : Nat) (hl : a.eval l = .int kl 0) (hc : a.eval c = .int kc C) (hC : C = (n : Int)) (b2 : bytes * n ≤ 281474976710656) (b3 : n ≤ maxLen)
    (h : ∀ w', OwnK w' e size (.slice (some ⟨w.heap.size, 0, none⟩) 0 n) 0 [] → Below w.heap.size w w' → wpList P ops Q rest (a.put o.dst (.slice (some ⟨w.heap.size, 0, none⟩) 0 n)) w') :
    wpList P ops Q (o :: rest) a w :=
  wpList_plain hgd fun K hK => by
    obtain ⟨w', hr, ho2, hg⟩ := run_make_own (P := P) w 0 t e i z size ht hi hz hsize kl kc n (by rw [hby]; exact b2) b3 (Nat.zero_le _)
    unfold Oper.wp execOp
    rw [hC] at hc
    simp only [ho, hl, hc, Sem.run_bind, Sem.run_pure, hr, Result.andThen_ok]
    exact hK _ _ (h w' ho2 ⟨hg.os, hg.tape, hg.output, hg.size, fun k hk => hg.block k hk (by simp)⟩)
end
end Go.Proofs.Ytbldocbijihpgaa.Own

-- ---- Hp
/- Heaps that lie in lists: plain facts. No program in sight. -/
namespace Go.Proofs.Ytbldocbijihpgaa.Hp
set_option linter.unusedSimpArgs false
set_option linter.unusedVariables false
set_option linter.unusedSectionVars false

/-- What a total order's Less says. -/
structure Ord {α : Type} (lt : α → α → Bool) : Prop where
  irr : ∀ a, lt a a = false
  tr : ∀ a b c, lt a b = true → lt b c = true → lt a c = true
  tot : ∀ a b, lt a b = false → lt b a = false → a = b

section
variable {α : Type} {lt : α → α → Bool} (O : Ord lt)
include O
theorem Ord.asym {a b : α} (h : lt a b = true) : lt b a = false := by
  cases e : lt b a with
  | false => rfl
  | true => have := O.tr _ _ _ h e; rw [O.irr] at this; cases this
/-- Not less, in a row. -/
theorem Ord.le {a b c : α} (h1 : lt b a = false) (h2 : lt c b = false) : lt c a = false := by
  cases e : lt c a with
  | false => rfl
  | true =>
    cases e2 : lt a b with
    | true => have := O.tr _ _ _ e e2; rw [this] at h2; cases h2
    | false => have := O.tot _ _ e2 h1; subst this; rw [e] at h2; cases h2
end

theorem snoc_ind {β : Type} {P : List β → Prop} (h0 : P []) (h1 : ∀ l a, P l → P (l ++ [a])) (l : List β) : P l := by
  have : ∀ n (l : List β), l.length = n → P l := by
    intro n
    induction n with
    | zero => intro l h; rw [List.length_eq_zero_iff.1 h]; exact h0
    | succ n ih =>
      intro l h
      have hne : l ≠ [] := fun e => by rw [e] at h; simp at h
      rw [← List.dropLast_concat_getLast hne]
      exact h1 _ _ (ih _ (by simp; omega))
  exact this _ l rfl

variable {α : Type} [Inhabited α]
def at_ (l : List α) (i : Nat) : α := l.getD i default
def swapL (l : List α) (i j : Nat) : List α := (l.set i (at_ l j)).set j (at_ l i)
theorem length_swapL (l : List α) (i j : Nat) : (swapL l i j).length = l.length := by simp [swapL]
theorem at_lt (l : List α) (i : Nat) (h : i < l.length) : at_ l i = l[i] := by simp [at_, List.getD_eq_getElem?_getD, h]
theorem at_swap (l : List α) (i j k : Nat) (hi : i < l.length) (hj : j < l.length) : at_ (swapL l i j) k = if k = j then at_ l i else if k = i then at_ l j else at_ l k := by
  unfold swapL
  by_cases h1 : k = j
  · subst h1; simp [at_, List.getD_eq_getElem?_getD, hj]
  · by_cases h2 : k = i
    · subst h2
      rw [if_neg h1, if_pos rfl]
      unfold at_
      simp only [List.getD_eq_getElem?_getD]
      rw [List.getElem?_set_ne (Ne.symm h1), List.getElem?_set_self hi]; rfl
    · rw [if_neg h1, if_neg h2]
      unfold at_
      simp only [List.getD_eq_getElem?_getD]
      rw [List.getElem?_set_ne (Ne.symm h1), List.getElem?_set_ne (Ne.symm h2)]

theorem perm_set_cons (l : List α) : ∀ (i : Nat) (x : α), i < l.length → (x :: l).Perm (at_ l i :: l.set i x) := by
  induction l with
  | nil => intro i x h; simp at h
  | cons a t ih =>
    intro i x h
    cases i with
    | zero => simp [at_]; exact List.Perm.swap _ _ _
    | succ i =>
      have h2 := ih i x (by simpa using h)
      have e : at_ (a :: t) (i + 1) = at_ t i := by simp [at_]
      rw [e, List.set_cons_succ]
      exact (List.Perm.swap a x t).trans ((h2.cons a).trans (List.Perm.swap _ _ _))
theorem perm_swap (l : List α) (i j : Nat) (hi : i < l.length) (hj : j < l.length) : (swapL l i j).Perm l := by
  by_cases hij : i = j
  · subst hij
    have : swapL l i i = l := by
      unfold swapL; rw [List.set_set]
      rw [at_lt l i hi]; exact List.set_getElem_self hi
    rw [this]
  · have h1 := perm_set_cons l i (at_ l j) hi
    have h2 := perm_set_cons (l.set i (at_ l j)) j (at_ l i) (by simpa using hj)
    have e : at_ (l.set i (at_ l j)) j = at_ l j := by
      unfold at_; simp only [List.getD_eq_getElem?_getD]; rw [List.getElem?_set_ne hij]
    rw [e] at h2
    have h3 := h1.trans h2
    exact ((List.perm_cons _).1 h3).symm

def par (i : Nat) : Nat := (i - 1) / 2
theorem par_lt {i : Nat} (h : 0 < i) : par i < i := by unfold par; omega

/-- The first n elements are a heap. -/
def Heap (lt : α → α → Bool) (l : List α) (n : Nat) : Prop := ∀ i, 0 < i → i < n → lt (at_ l i) (at_ l (par i)) = false
/-- .. but at j, on the way up. -/
def UpInv (lt : α → α → Bool) (l : List α) (n j : Nat) : Prop :=
  (∀ i, 0 < i → i < n → i ≠ j → lt (at_ l i) (at_ l (par i)) = false) ∧ ∀ i, 0 < j → 0 < i → i < n → par i = j → lt (at_ l i) (at_ l (par j)) = false
/-- .. but below j, on the way down. -/
def DownInv (lt : α → α → Bool) (l : List α) (n j : Nat) : Prop :=
  (∀ i, 0 < i → i < n → par i ≠ j → lt (at_ l i) (at_ l (par i)) = false) ∧ ∀ i, 0 < j → 0 < i → i < n → par i = j → lt (at_ l i) (at_ l (par j)) = false

section
variable {lt : α → α → Bool}
theorem up_done {l : List α} {n j : Nat} (h : UpInv lt l n j) (hj : j = 0 ∨ lt (at_ l j) (at_ l (par j)) = false) : Heap lt l n := fun i hi hn => by
  by_cases e : i = j
  · subst e
    rcases hj with hj | hj
    · omega
    · exact hj
  · exact h.1 i hi hn e
theorem up_step (O : Ord lt) {l : List α} {n j : Nat} (h : UpInv lt l n j) (hj : 0 < j) (hn : j < n) (hl : n ≤ l.length) (hlt : lt (at_ l j) (at_ l (par j)) = true) : UpInv lt (swapL l (par j) j) n (par j) := by
  have hp := par_lt hj
  have A := fun k => at_swap l (par j) j k (by omega) (by omega)
  constructor
  · intro i hi hin hip
    rw [A i, A (par i)]
    have hpi := par_lt hi
    by_cases e : i = j
    · subst e
      rw [if_pos rfl, if_neg (by omega), if_pos rfl]
      exact O.asym hlt
    · rw [if_neg e, if_neg hip]
      by_cases e1 : par i = j
      · rw [if_pos e1]; exact h.2 i hj hi hin e1
      · rw [if_neg e1]
        by_cases e2 : par i = par j
        · rw [if_pos e2]
          have := h.1 i hi hin e
          rw [e2] at this
          exact O.le (O.asym hlt) this
        · rw [if_neg e2]; exact h.1 i hi hin e
  · intro i hp0 hi hin hip
    have hpp := par_lt hp0
    rw [A i, A (par (par j)), if_neg (show par (par j) ≠ j by omega), if_neg (show par (par j) ≠ par j by omega)]
    have h1 := h.1 (par j) hp0 (by omega) (by omega)
    by_cases e : i = j
    · rw [if_pos e]; exact h1
    · have := par_lt hi
      rw [if_neg e, if_neg (by omega)]
      have h2 := h.1 i hi hin e
      rw [hip] at h2
      exact O.le h1 h2
theorem up_start {l : List α} {x : α} (h : Heap lt l l.length) : UpInv lt (l ++ [x]) (l.length + 1) l.length := by
  have A : ∀ k, k < l.length → at_ (l ++ [x]) k = at_ l k := fun k hk => by simp [at_, List.getD_eq_getElem?_getD, List.getElem?_append_left hk]
  constructor
  · intro i hi hin hne
    have := par_lt hi
    rw [A i (by omega), A (par i) (by omega)]
    exact h i hi (by omega)
  · intro i h0 hi hin hp
    have := par_lt hi
    omega

theorem down_done {l : List α} {n j : Nat} (h : DownInv lt l n j) (hc : ∀ i, 0 < i → i < n → par i = j → lt (at_ l i) (at_ l j) = false) : Heap lt l n := fun i hi hn => by
  by_cases e : par i = j
  · rw [e]; exact hc i hi hn e
  · exact h.1 i hi hn e
theorem down_step (O : Ord lt) {l : List α} {n i0 j : Nat} (h : DownInv lt l n i0) (hj : 0 < j) (hn : j < n) (hl : n ≤ l.length) (hp : par j = i0) (hlt : lt (at_ l j) (at_ l i0) = true) (hc : ∀ i, 0 < i → i < n → par i = i0 → lt (at_ l i) (at_ l j) = false) : DownInv lt (swapL l i0 j) n j := by
  have hpj := par_lt hj
  rw [hp] at hpj
  have A := fun k => at_swap l i0 j k (by omega) (by omega)
  constructor
  · intro i hi hin hpi
    have hpi2 := par_lt hi
    rw [A i, A (par i), if_neg hpi]
    by_cases e : i = j
    · subst e
      rw [if_pos rfl, if_pos hp]
      exact O.asym hlt
    · rw [if_neg e]
      by_cases e1 : par i = i0
      · rw [if_pos e1, if_neg (show i ≠ i0 by omega)]
        exact hc i hi hin e1
      · rw [if_neg e1]
        by_cases e2 : i = i0
        · rw [if_pos e2]
          subst e2
          exact h.2 j hi hj hn hp
        · rw [if_neg e2]; exact h.1 i hi hin e1
  · intro i h0 hi hin hpi
    have hpi2 := par_lt hi
    rw [hp, A i, A i0, if_neg (show i ≠ j by omega), if_neg (show i ≠ i0 by omega), if_neg (show i0 ≠ j by omega), if_pos rfl]
    have := h.1 i hi hin (by omega)
    rw [hpi] at this
    exact this

theorem heap_min (O : Ord lt) {l : List α} {n : Nat} (h : Heap lt l n) : ∀ i, i < n → lt (at_ l i) (at_ l 0) = false := by
  intro i
  induction i using Nat.strongRecOn with
  | _ i ih =>
    intro hi
    by_cases e : i = 0
    · subst e; exact O.irr _
    · have hp := par_lt (show 0 < i by omega)
      exact O.le (ih (par i) hp (by omega)) (h i (by omega) hi)

/-- Behind the first and the last one changed for one another. -/
theorem pop_start {l : List α} {n : Nat} (hl : l.length = n + 1) (h : Heap lt l (n + 1)) : DownInv lt (swapL l 0 n) n 0 := by
  have A := fun k => at_swap l 0 n k (by omega) (by omega)
  constructor
  · intro i hi hin hp
    have := par_lt hi
    rw [A i, A (par i), if_neg (by omega), if_neg (by omega), if_neg (by omega), if_neg hp]
    exact h i hi (by omega)
  · intro i h0; omega

/-- What is told by one pop: the least, and what is left. -/
theorem pop_end (O : Ord lt) {l l2 : List α} {n : Nat} (hl : l.length = n + 1) (h : Heap lt l (n + 1)) (hp : l2.Perm l) (hn : at_ l2 n = at_ l 0) :
    l.Perm (at_ l2 n :: l2.take n) ∧ ∀ y ∈ l2.take n, lt y (at_ l2 n) = false := by
  have hl2 : l2.length = n + 1 := hp.length_eq.trans hl
  have e : l2 = l2.take n ++ [at_ l2 n] := by
    have h1 : l2.take (n + 1) = l2 := List.take_of_length_le (by omega)
    rw [List.take_succ_eq_append_getElem (by omega)] at h1
    rw [at_lt l2 n (by omega)]; exact h1.symm
  refine ⟨hp.symm.trans ?_, ?_⟩
  · have : (l2.take n ++ [at_ l2 n]).Perm (at_ l2 n :: l2.take n) := List.perm_append_comm
    exact (List.Perm.of_eq e).trans this
  · intro y hy
    have hyl : y ∈ l := hp.mem_iff.1 (List.mem_of_mem_take hy)
    obtain ⟨i, hi, rfl⟩ := List.mem_iff_getElem.1 hyl
    rw [hn, ← at_lt l i hi]
    exact heap_min O h i (by omega)
theorem heap_take {l : List α} {n : Nat} (h : Heap lt l n) : Heap lt (l.take n) n := fun i hi hin => by
  have A : ∀ k, k < n → at_ (l.take n) k = at_ l k := fun k hk => by simp [at_, List.getD_eq_getElem?_getD, List.getElem?_take, hk]
  have := par_lt hi
  rw [A i hin, A (par i) (by omega)]
  exact h i hi hin
/-- The first of those that are in order is the least. -/
theorem pop_head (O : Ord lt) {rest h : List α} {x : α} (hs : rest.Pairwise fun a b => lt b a = false) (hp : rest.Perm (x :: h)) (hx : ∀ y ∈ h, lt y x = false) : ∃ rest', rest = x :: rest' ∧ rest'.Perm h := by
  cases rest with
  | nil => have := hp.length_eq; simp at this
  | cons r rest' =>
    have hr : r = x := by
      have h1 : r ∈ x :: h := hp.mem_iff.1 (by simp)
      rcases List.mem_cons.1 h1 with rfl | h1
      · rfl
      · have h2 := hx r h1
        have h3 : x ∈ r :: rest' := hp.mem_iff.2 (by simp)
        rcases List.mem_cons.1 h3 with rfl | h3
        · rfl
        · exact O.tot _ _ h2 ((List.pairwise_cons.1 hs).1 x h3)
    subst hr
    exact ⟨rest', rfl, (List.perm_cons _).1 hp⟩
end
end Go.Proofs.Ytbldocbijihpgaa.Hp

-- ---- Ol
/- The places of numbers above nought, the greatest number first: plain facts. No program in sight. -/
namespace Go.Proofs.Ytbldocbijihpgaa.Ol
set_option linter.unusedSimpArgs false
set_option linter.unusedVariables false
set_option linter.unusedSectionVars false
open Hp

/-- A place and its number: the greater number first, of two alike the lesser place. -/
def ltG (a b : Int × Int) : Bool := decide (b.2 < a.2 ∨ (a.2 = b.2 ∧ a.1 < b.1))
/-- A place and its number: the lesser number first, of two alike the lesser place. -/
def ltL (a b : Int × Int) : Bool := decide (a.2 < b.2 ∨ (a.2 = b.2 ∧ a.1 < b.1))
theorem oG : Ord ltG where
  irr a := by unfold ltG; rw [decide_eq_false]; omega
  tr a b c h1 h2 := by unfold ltG at *; rw [decide_eq_true_eq] at *; omega
  tot a b h1 h2 := by
    unfold ltG at *; rw [decide_eq_false_iff_not] at *
    obtain ⟨a1, a2⟩ := a; obtain ⟨b1, b2⟩ := b
    simp only at h1 h2
    have e1 : a2 = b2 := by omega
    have e2 : a1 = b1 := by omega
    rw [e1, e2]
theorem oL : Ord ltL where
  irr a := by unfold ltL; rw [decide_eq_false]; omega
  tr a b c h1 h2 := by unfold ltL at *; rw [decide_eq_true_eq] at *; omega
  tot a b h1 h2 := by
    unfold ltL at *; rw [decide_eq_false_iff_not] at *
    obtain ⟨a1, a2⟩ := a; obtain ⟨b1, b2⟩ := b
    simp only at h1 h2
    have e1 : a2 = b2 := by omega
    have e2 : a1 = b1 := by omega
    rw [e1, e2]

/-- A place with its number. -/
def pr (f : List Int) (i : Nat) : Int × Int := ((i : Int), f.getD i 0)
theorem pr_inj {f : List Int} {i j : Nat} (h : pr f i = pr f j) : i = j := by
  have := congrArg Prod.fst h; simp only [pr] at this; omega

/-- Those above nought, of the first n. -/
def posL (f : List Int) (n : Nat) : List Nat := (List.range n).filter fun i => decide (0 < f.getD i 0)
theorem posL_zero (f : List Int) : posL f 0 = [] := rfl
theorem posL_succ (f : List Int) (n : Nat) : posL f (n + 1) = posL f n ++ (if 0 < f.getD n 0 then [n] else []) := by
  unfold posL; rw [List.range_succ, List.filter_append]
  by_cases h : 0 < f.getD n 0
  · rw [if_pos h]; simp [h, -List.getD_eq_getElem?_getD]
  · rw [if_neg h]; simp [h, -List.getD_eq_getElem?_getD]
theorem mem_posL {f : List Int} {n i : Nat} : i ∈ posL f n ↔ i < n ∧ 0 < f.getD i 0 := by simp [posL, -List.getD_eq_getElem?_getD]
theorem length_posL (f : List Int) (n : Nat) : (posL f n).length ≤ n := by
  unfold posL; have := List.length_filter_le (fun i => decide (0 < f.getD i 0)) (List.range n); simpa using this
theorem nodup_posL (f : List Int) (n : Nat) : (posL f n).Nodup := List.nodup_range.filter _

/-- In order. -/
def Fall (f : List Int) (l : List Nat) : Prop := l.Pairwise fun a b => ltG (pr f b) (pr f a) = false

/-- i stands behind all that are no less than it. -/
def ins (f : List Int) (i : Nat) : List Nat → List Nat
  | [] => [i]
  | a :: t => if f.getD a 0 < f.getD i 0 then i :: a :: t else a :: ins f i t
theorem perm_ins (f : List Int) (i : Nat) (l : List Nat) : (ins f i l).Perm (i :: l) := by
  induction l with
  | nil => exact List.Perm.refl _
  | cons a t ih =>
    unfold ins
    split
    · exact List.Perm.refl _
    · exact (ih.cons a).trans (List.Perm.swap _ _ _)
theorem fall_ins {f : List Int} {i : Nat} {l : List Nat} (h : Fall f l) (hi : ∀ a ∈ l, a < i) : Fall f (ins f i l) := by
  induction l with
  | nil => simp [Fall, ins]
  | cons a t ih =>
    obtain ⟨h1, h2⟩ := List.pairwise_cons.1 h
    have hai := hi a (by simp)
    unfold ins
    split
    · rename_i hlt
      refine List.pairwise_cons.2 ⟨fun b hb => ?_, h⟩
      rcases List.mem_cons.1 hb with rfl | hb
      · unfold ltG pr; rw [decide_eq_false_iff_not]; simp only; omega
      · have := h1 b hb
        unfold ltG pr at *; rw [decide_eq_false_iff_not] at *; simp only at *; omega
    · rename_i hge
      refine List.pairwise_cons.2 ⟨fun b hb => ?_, ih h2 fun b hb => hi b (List.mem_cons_of_mem _ hb)⟩
      have hb2 := (perm_ins f i t).mem_iff.1 hb
      rcases List.mem_cons.1 hb2 with rfl | hb2
      · unfold ltG pr; rw [decide_eq_false_iff_not]; simp only; omega
      · exact h1 b hb2
/-- Where it is to stand, told from the end. -/
theorem ins_at {f : List Int} {i : Nat} {l : List Nat} (h : Fall f l) (k : Nat) (hk : k ≤ l.length) (h1 : ∀ a ∈ l.drop k, f.getD a 0 < f.getD i 0) (h2 : 0 < k → ¬ f.getD (l.getD (k - 1) 0) 0 < f.getD i 0) : ins f i l = l.take k ++ i :: l.drop k := by
  induction l generalizing k with
  | nil => simp at hk; subst hk; rfl
  | cons a t ih =>
    cases k with
    | zero =>
      have := h1 a (by simp)
      unfold ins
      rw [if_pos this]; simp
    | succ k =>
      obtain ⟨g1, g2⟩ := List.pairwise_cons.1 h
      have hge : ¬ f.getD a 0 < f.getD i 0 := by
        have h3 := h2 (by omega)
        cases k with
        | zero => simpa using h3
        | succ k =>
          have hkl : k < t.length := by simp at hk; omega
          have e : (a :: t).getD (k + 1 + 1 - 1) 0 = t[k] := by simp [List.getD_eq_getElem?_getD, hkl]
          rw [e] at h3
          have := g1 t[k] (List.getElem_mem _)
          unfold ltG pr at this; rw [decide_eq_false_iff_not] at this; simp only at this; omega
      unfold ins
      rw [if_neg hge]
      have := ih g2 k (by simpa using hk) (by simpa using h1) (fun hk0 => by
        have h3 := h2 (by omega)
        cases k with
        | zero => omega
        | succ k => simpa using h3)
      rw [this]; simp

/-- The document's: one by one. -/
def ordN (f : List Int) : Nat → List Nat
  | 0 => []
  | n + 1 => if 0 < f.getD n 0 then ins f n (ordN f n) else ordN f n
def ordL (f : List Int) : List Nat := ordN f f.length
theorem ordN_spec (f : List Int) (n : Nat) : Fall f (ordN f n) ∧ (ordN f n).Perm (posL f n) := by
  induction n with
  | zero => exact ⟨List.Pairwise.nil, List.Perm.refl _⟩
  | succ n ih =>
    obtain ⟨h1, h2⟩ := ih
    unfold ordN
    rw [posL_succ]
    by_cases h : 0 < f.getD n 0
    · rw [if_pos h, if_pos h]
      refine ⟨fall_ins h1 fun a ha => (mem_posL.1 (h2.mem_iff.1 ha)).1, ?_⟩
      exact (perm_ins f n _).trans ((h2.cons n).trans (List.perm_append_comm (l₁ := [n])))
    · rw [if_neg h, if_neg h, List.append_nil]; exact ⟨h1, h2⟩
theorem ordL_fall (f : List Int) : Fall f (ordL f) := (ordN_spec f _).1
theorem ordL_perm (f : List Int) : (ordL f).Perm (posL f f.length) := (ordN_spec f _).2
theorem mem_ordL {f : List Int} {i : Nat} : i ∈ ordL f ↔ i < f.length ∧ 0 < f.getD i 0 := by rw [(ordL_perm f).mem_iff, mem_posL]
theorem nodup_ordL (f : List Int) : (ordL f).Nodup := (ordL_perm f).nodup_iff.2 (nodup_posL f _)
theorem length_ordL (f : List Int) : (ordL f).length ≤ f.length := by rw [(ordL_perm f).length_eq]; exact length_posL f _
theorem length_ordN (f : List Int) (n : Nat) : (ordN f n).length ≤ n := by rw [(ordN_spec f n).2.length_eq]; exact length_posL f _
theorem mem_ordN {f : List Int} {n i : Nat} : i ∈ ordN f n ↔ i < n ∧ 0 < f.getD i 0 := by rw [(ordN_spec f n).2.mem_iff, mem_posL]

/-- The pairs of the places, in order: these and no other row. -/
theorem pairs_sorted (f : List Int) : ((ordL f).map (pr f)).Pairwise fun a b => ltG b a = false := by
  rw [List.pairwise_map]; exact ordL_fall f
theorem pairs_perm (f : List Int) : ((ordL f).map (pr f)).Perm ((posL f f.length).map (pr f)) := (ordL_perm f).map _

/-- The first place has the greatest number. -/
theorem ordL_head {f : List Int} {k : Nat} {t : List Nat} (h : ordL f = k :: t) : k < f.length ∧ 0 < f.getD k 0 ∧ ∀ i, i < f.length → f.getD i 0 ≤ f.getD k 0 ∧ (f.getD i 0 = f.getD k 0 → k ≤ i) := by
  have hk : k ∈ ordL f := by rw [h]; simp
  obtain ⟨h1, h2⟩ := mem_ordL.1 hk
  refine ⟨h1, h2, fun i hi => ?_⟩
  by_cases hp : 0 < f.getD i 0
  · have hm : i ∈ ordL f := mem_ordL.2 ⟨hi, hp⟩
    have hf := ordL_fall f
    rw [h] at hm hf
    rcases List.mem_cons.1 hm with rfl | hm
    · exact ⟨Int.le_refl _, fun _ => Nat.le_refl _⟩
    · have := (List.pairwise_cons.1 hf).1 i hm
      unfold ltG pr at this; rw [decide_eq_false_iff_not] at this; simp only at this
      omega
  · omega
theorem ordL_cons {f : List Int} (h : ∃ i, i < f.length ∧ 0 < f.getD i 0) : ∃ k t, ordL f = k :: t := by
  obtain ⟨i, h1, h2⟩ := h
  have : i ∈ ordL f := mem_ordL.2 ⟨h1, h2⟩
  cases e : ordL f with
  | nil => rw [e] at this; cases this
  | cons k t => exact ⟨k, t, rfl⟩
end Go.Proofs.Ytbldocbijihpgaa.Ol

-- ---- Hah
/- A heap's own methods: what the calls answer, and what they do to the heap's memory. -/
namespace Go.Proofs.Ytbldocbijihpgaa.HistH
set_option linter.unusedSimpArgs false
set_option linter.unusedVariables false
open Go.RowKit Mix _root_.Go.Proofs.Ytbldocbijihpgaa.Own Ol Hp
attribute [local go_sem] Own.max_int Own.min_int

/-- Pairs, their cells one behind the other. -/
def fl (l : List (Int × Int)) : List Value := l.flatMap fun a => [.int .i64 a.1, .int .i64 a.2]
theorem length_fl (l : List (Int × Int)) : (fl l).length = l.length * 2 := by
  induction l with
  | nil => rfl
  | cons a t ih => simp only [fl, List.flatMap_cons, List.length_append, List.length_cons, List.length_nil] at *; omega
theorem fl_append (a b : List (Int × Int)) : fl (a ++ b) = fl a ++ fl b := by simp [fl, List.flatMap_append]
theorem fl_at (l : List (Int × Int)) : ∀ (i : Nat), i < l.length → (fl l)[i * 2]? = some (.int .i64 (at_ l i).1) ∧ (fl l)[i * 2 + 1]? = some (.int .i64 (at_ l i).2) := by
  induction l with
  | nil => intro i h; simp at h
  | cons a t ih =>
    intro i h
    cases i with
    | zero => exact ⟨rfl, rfl⟩
    | succ i =>
      have := ih i (by simpa using h)
      have e : at_ (a :: t) (i + 1) = at_ t i := by simp [at_]
      rw [e]
      have e2 : fl (a :: t) = .int .i64 a.1 :: .int .i64 a.2 :: fl t := rfl
      rw [e2, show (i + 1) * 2 = i * 2 + 1 + 1 by omega]
      exact this
theorem fl_set (l : List (Int × Int)) : ∀ (i : Nat) (x : Int × Int), i < l.length → fl (l.set i x) = ((fl l).set (i * 2) (.int .i64 x.1)).set (i * 2 + 1) (.int .i64 x.2) := by
  induction l with
  | nil => intro i x h; simp at h
  | cons a t ih =>
    intro i x h
    have e2 : fl (a :: t) = .int .i64 a.1 :: .int .i64 a.2 :: fl t := rfl
    cases i with
    | zero => rw [e2]; rfl
    | succ i =>
      have := ih i x (by simpa using h)
      rw [e2, show (i + 1) * 2 = i * 2 + 1 + 1 by omega]
      simp only [List.set_cons_succ]
      rw [← this]; rfl

theorem infoE : (Try.prog.info? 78).map (fun i => (i.zero, i.size, i.bytes)) = some (some (.agg #[.int .i64 0, .int .i64 0]), 2, 16) := by kernel_rfl
theorem info_partsE {i : Option TypeInfo} {z : Value} {s b : Nat} (h : i.map (fun i => (i.zero, i.size, i.bytes)) = some (some z, s, b)) : ∃ i0, i = some i0 ∧ i0.zero = some z ∧ i0.size = s ∧ i0.bytes = b := by
  cases i with
  | none => simp at h
  | some i => simp at h; exact ⟨i, rfl, h.1, h.2.1, h.2.2⟩

set_option maxHeartbeats 4000000 in
theorem less_calls (g n cap : Nat) (l : List (Int × Int)) (i j : Nat) (w : World) (hO : OwnK w 78 2 (.slice (some ⟨g, 0, none⟩) n cap) n (fl l)) (hi : i < n) (hj : j < n) (b : Bool) (hb : b = ltG (at_ l i) (at_ l j)) :
    Calls Try.prog 67 #[.slice (some ⟨g, 0, none⟩) n cap, .int .i64 (i : Int), .int .i64 (j : Int)] w fun e w' => e = .returned (.bool b) ∧ Below w.heap.size w w' := by
  have hln : l.length = n := by have := hO.1; rw [length_fl] at this; omega
  obtain ⟨c1, c2⟩ := fl_at l i (by omega)
  obtain ⟨d1, d2⟩ := fl_at l j (by omega)
  have c1 := hO.cell c1
  have c2 := hO.cell c2
  have d1 := hO.cell d1
  have d2 := hO.cell d2
  generalize at_ l i = a at c1 c2 hb
  generalize at_ l j = c at d1 d2 hb
  obtain ⟨a1, a2⟩ := a
  obtain ⟨b1, b2⟩ := c
  unfold ltG at hb
  have l1 := lat_cell c1
  have l2 := lat_cell c2
  have l3 := lat_cell d1
  have l4 := lat_cell d2
  clear hO c1 c2 d1 d2 hln
  by_cases h1 : b2 < a2
  · have e : b = true := by rw [hb, decide_eq_true_eq]; exact .inl h1
    subst e
    have t1 : decide (b2 < a2) = true := by simpa using h1
    clear hb h1
    go_enter Try.func67, Try.ntmps67
    go_wp2_with fail
    refine wp_region_quietL (by kernel_rfl) (by kernel_rfl) ?_
    repeat (go_big_quiet_step (fail))
    refine wpQuiet_nil ?_
    intro nq
    go_wp2_with fail
    go_ret
    exact ⟨rfl, nq.below⟩
  · have t1 : decide (b2 < a2) = false := by simpa using h1
    by_cases h2 : a2 = b2
    · subst h2
      have t2 : (a2 == a2) = true := by simp
      have e : b = decide (a1 < b1) := by rw [hb]; congr 1; rw [eq_iff_iff]; exact ⟨fun h => h.elim (fun h => absurd h h1) (fun h => h.2), fun h => .inr ⟨rfl, h⟩⟩
      subst e
      clear hb h1
      by_cases h3 : a1 < b1
      · have t3 : decide (a1 < b1) = true := by simpa using h3
        rw [t3]
        clear h3
        go_enter Try.func67, Try.ntmps67
        go_wp2_with fail
        refine wp_region_quietL (by kernel_rfl) (by kernel_rfl) ?_
        repeat (go_big_quiet_step (fail))
        refine wpQuiet_nil ?_
        intro nq
        go_wp2_with fail
        go_ret
        exact ⟨rfl, nq.below⟩
      · have t3 : decide (a1 < b1) = false := by simpa using h3
        rw [t3]
        clear h3
        go_enter Try.func67, Try.ntmps67
        go_wp2_with fail
        refine wp_region_quietL (by kernel_rfl) (by kernel_rfl) ?_
        repeat (go_big_quiet_step (fail))
        refine wpQuiet_nil ?_
        intro nq
        go_wp2_with fail
        go_ret
        exact ⟨rfl, nq.below⟩
    · have t2 : (a2 == b2) = false := by simpa using h2
      have e : b = false := by rw [hb, decide_eq_false_iff_not]; rintro (h | h); exact h1 h; exact h2 h.1
      subst e
      clear hb h1 h2
      go_enter Try.func67, Try.ntmps67
      go_wp2_with fail
      refine wp_region_quietL (by kernel_rfl) (by kernel_rfl) ?_
      repeat (go_big_quiet_step (fail))
      refine wpQuiet_nil ?_
      intro nq
      go_wp2_with fail
      go_ret
      exact ⟨rfl, nq.below⟩
end Go.Proofs.Ytbldocbijihpgaa.HistH

-- ---- Han
/- A heap's own methods: what the calls answer, and what they do to the heap's memory. -/
namespace Go.Proofs.Ytbldocbijihpgaa.NormH
set_option linter.unusedSimpArgs false
set_option linter.unusedVariables false
open Go.RowKit Mix _root_.Go.Proofs.Ytbldocbijihpgaa.Own Ol Hp
attribute [local go_sem] Own.max_int Own.min_int

/-- Pairs, their cells one behind the other. -/
def fl (l : List (Int × Int)) : List Value := l.flatMap fun a => [.int .i64 a.1, .int .i64 a.2]
theorem length_fl (l : List (Int × Int)) : (fl l).length = l.length * 2 := by
  induction l with
  | nil => rfl
  | cons a t ih => simp only [fl, List.flatMap_cons, List.length_append, List.length_cons, List.length_nil] at *; omega
theorem fl_append (a b : List (Int × Int)) : fl (a ++ b) = fl a ++ fl b := by simp [fl, List.flatMap_append]
theorem fl_at (l : List (Int × Int)) : ∀ (i : Nat), i < l.length → (fl l)[i * 2]? = some (.int .i64 (at_ l i).1) ∧ (fl l)[i * 2 + 1]? = some (.int .i64 (at_ l i).2) := by
  induction l with
  | nil => intro i h; simp at h
  | cons a t ih =>
    intro i h
    cases i with
    | zero => exact ⟨rfl, rfl⟩
    | succ i =>
      have := ih i (by simpa using h)
      have e : at_ (a :: t) (i + 1) = at_ t i := by simp [at_]
      rw [e]
      have e2 : fl (a :: t) = .int .i64 a.1 :: .int .i64 a.2 :: fl t := rfl
      rw [e2, show (i + 1) * 2 = i * 2 + 1 + 1 by omega]
      exact this
theorem fl_set (l : List (Int × Int)) : ∀ (i : Nat) (x : Int × Int), i < l.length → fl (l.set i x) = ((fl l).set (i * 2) (.int .i64 x.1)).set (i * 2 + 1) (.int .i64 x.2) := by
  induction l with
  | nil => intro i x h; simp at h
  | cons a t ih =>
    intro i x h
    have e2 : fl (a :: t) = .int .i64 a.1 :: .int .i64 a.2 :: fl t := rfl
    cases i with
    | zero => rw [e2]; rfl
    | succ i =>
      have := ih i x (by simpa using h)
      rw [e2, show (i + 1) * 2 = i * 2 + 1 + 1 by omega]
      simp only [List.set_cons_succ]
      rw [← this]; rfl

theorem infoE : (Try.prog.info? 86).map (fun i => (i.zero, i.size, i.bytes)) = some (some (.agg #[.int .i64 0, .int .i64 0]), 2, 16) := by kernel_rfl
theorem info_partsE {i : Option TypeInfo} {z : Value} {s b : Nat} (h : i.map (fun i => (i.zero, i.size, i.bytes)) = some (some z, s, b)) : ∃ i0, i = some i0 ∧ i0.zero = some z ∧ i0.size = s ∧ i0.bytes = b := by
  cases i with
  | none => simp at h
  | some i => simp at h; exact ⟨i, rfl, h.1, h.2.1, h.2.2⟩

set_option maxHeartbeats 4000000 in
theorem less_calls (g n cap : Nat) (l : List (Int × Int)) (i j : Nat) (w : World) (hO : OwnK w 86 2 (.slice (some ⟨g, 0, none⟩) n cap) n (fl l)) (hi : i < n) (hj : j < n) (b : Bool) (hb : b = ltG (at_ l i) (at_ l j)) :
    Calls Try.prog 72 #[.slice (some ⟨g, 0, none⟩) n cap, .int .i64 (i : Int), .int .i64 (j : Int)] w fun e w' => e = .returned (.bool b) ∧ Below w.heap.size w w' := by
  have hln : l.length = n := by have := hO.1; rw [length_fl] at this; omega
  obtain ⟨c1, c2⟩ := fl_at l i (by omega)
  obtain ⟨d1, d2⟩ := fl_at l j (by omega)
  have c1 := hO.cell c1
  have c2 := hO.cell c2
  have d1 := hO.cell d1
  have d2 := hO.cell d2
  generalize at_ l i = a at c1 c2 hb
  generalize at_ l j = c at d1 d2 hb
  obtain ⟨a1, a2⟩ := a
  obtain ⟨b1, b2⟩ := c
  unfold ltG at hb
  have l1 := lat_cell c1
  have l2 := lat_cell c2
  have l3 := lat_cell d1
  have l4 := lat_cell d2
  clear hO c1 c2 d1 d2 hln
  by_cases h1 : b2 < a2
  · have e : b = true := by rw [hb, decide_eq_true_eq]; exact .inl h1
    subst e
    have t1 : decide (b2 < a2) = true := by simpa using h1
    clear hb h1
    go_enter Try.func72, Try.ntmps72
    go_wp2_with fail
    refine wp_region_quietL (by kernel_rfl) (by kernel_rfl) ?_
    repeat (go_big_quiet_step (fail))
    refine wpQuiet_nil ?_
    intro nq
    go_wp2_with fail
    go_ret
    exact ⟨rfl, nq.below⟩
  · have t1 : decide (b2 < a2) = false := by simpa using h1
    by_cases h2 : a2 = b2
    · subst h2
      have t2 : (a2 == a2) = true := by simp
      have e : b = decide (a1 < b1) := by rw [hb]; congr 1; rw [eq_iff_iff]; exact ⟨fun h => h.elim (fun h => absurd h h1) (fun h => h.2), fun h => .inr ⟨rfl, h⟩⟩
      subst e
      clear hb h1
      by_cases h3 : a1 < b1
      · have t3 : decide (a1 < b1) = true := by simpa using h3
        rw [t3]
        clear h3
        go_enter Try.func72, Try.ntmps72
        go_wp2_with fail
        refine wp_region_quietL (by kernel_rfl) (by kernel_rfl) ?_
        repeat (go_big_quiet_step (fail))
        refine wpQuiet_nil ?_
        intro nq
        go_wp2_with fail
        go_ret
        exact ⟨rfl, nq.below⟩
      · have t3 : decide (a1 < b1) = false := by simpa using h3
        rw [t3]
        clear h3
        go_enter Try.func72, Try.ntmps72
        go_wp2_with fail
        refine wp_region_quietL (by kernel_rfl) (by kernel_rfl) ?_
        repeat (go_big_quiet_step (fail))
        refine wpQuiet_nil ?_
        intro nq
        go_wp2_with fail
        go_ret
        exact ⟨rfl, nq.below⟩
    · have t2 : (a2 == b2) = false := by simpa using h2
      have e : b = false := by rw [hb, decide_eq_false_iff_not]; rintro (h | h); exact h1 h; exact h2 h.1
      subst e
      clear hb h1 h2
      go_enter Try.func72, Try.ntmps72
      go_wp2_with fail
      refine wp_region_quietL (by kernel_rfl) (by kernel_rfl) ?_
      repeat (go_big_quiet_step (fail))
      refine wpQuiet_nil ?_
      intro nq
      go_wp2_with fail
      go_ret
      exact ⟨rfl, nq.below⟩
end Go.Proofs.Ytbldocbijihpgaa.NormH

-- ---- Hbh
/- A heap's Swap, Push and Pop of its own. -/
namespace Go.Proofs.Ytbldocbijihpgaa.HistH
set_option linter.unusedSimpArgs false
set_option linter.unusedVariables false
open Go.RowKit Mix _root_.Go.Proofs.Ytbldocbijihpgaa.Own Ol Hp
attribute [local go_sem] Own.max_int Own.min_int

set_option maxHeartbeats 4000000 in
theorem swap_calls (g n cap : Nat) (l : List (Int × Int)) (i j : Nat) (w : World) (hO : OwnK w 78 2 (.slice (some ⟨g, 0, none⟩) n cap) n (fl l)) (hi : i < n) (hj : j < n) :
    Calls Try.prog 70 #[.slice (some ⟨g, 0, none⟩) n cap, .int .i64 (i : Int), .int .i64 (j : Int)] w fun e w' => e = .returned (.tuple #[]) ∧ OwnK w' 78 2 (.slice (some ⟨g, 0, none⟩) n cap) n (fl (swapL l i j)) ∧ Chg (fun b => b = g) w w' := by
  have hln : l.length = n := by have := hO.1; rw [length_fl] at this; omega
  obtain ⟨c1, c2⟩ := fl_at l i (by omega)
  obtain ⟨d1, d2⟩ := fl_at l j (by omega)
  have c1 := hO.cell c1
  have c2 := hO.cell c2
  have d1 := hO.cell d1
  have d2 := hO.cell d2
  have hsw : fl (swapL l i j) = ((((fl l).set (i * 2) (.int .i64 (at_ l j).1)).set (i * 2 + 1) (.int .i64 (at_ l j).2)).set (j * 2) (.int .i64 (at_ l i).1)).set (j * 2 + 1) (.int .i64 (at_ l i).2) := by
    unfold swapL
    rw [fl_set _ j _ (by rw [List.length_set]; omega), fl_set l i _ (by omega)]
  generalize at_ l i = a at c1 c2 hsw
  generalize at_ l j = c at d1 d2 hsw
  obtain ⟨a1, a2⟩ := a
  obtain ⟨b1, b2⟩ := c
  have l1 := lat_cell c1
  have l2 := lat_cell c2
  have l3 := lat_cell d1
  have l4 := lat_cell d2
  have HO := kept hO
  have HSw := kept hsw
  clear hO c1 c2 d1 d2 hln hsw
  go_enter Try.func70, Try.ntmps70
  go_wp2_with fail
  refine wp_region_mixL [2,3] [0,1,4,5,6,7,8,9,10,11,12] [13,14,15] (by kernel_rfl) (by kernel_rfl) ?_
  intro K hK
  simp only [pick, List.filterMap_cons, List.filterMap_nil, List.getElem?_cons_zero, List.getElem?_cons_succ]
  repeat (show wpQuiet _ _ _ _ (_ :: _) _; go_big_quiet_step (fail))
  refine wpQuiet_nil ?_
  show wpList _ _ _ [_, _, _] _ _
  generalize hwd : World.drew w = wd
  have HOd : Kept (OwnK wd 78 2 (.slice (some ⟨g, 0, none⟩) n cap) n (fl l)) := kept (by rw [← hwd]; exact HO.out.later ((Below.refl _ _).drew))
  have HCd : Kept (Chg (fun b => b = g) w wd) := kept (by rw [← hwd]; exact Chg.drew _ _)
  have c1 : wd.cell? ⟨g, i * 2, none⟩ = some (.int .i64 a1) := by rw [← hwd]; exact l1 (Lat.drew w)
  have c2 : wd.cell? ⟨g, i * 2 + 1, none⟩ = some (.int .i64 a2) := by rw [← hwd]; exact l2 (Lat.drew w)
  have d1 : wd.cell? ⟨g, j * 2, none⟩ = some (.int .i64 b1) := by rw [← hwd]; exact l3 (Lat.drew w)
  have d2 : wd.cell? ⟨g, j * 2 + 1, none⟩ = some (.int .i64 b2) := by rw [← hwd]; exact l4 (Lat.drew w)
  have q1 := HOd.out.free (i * 2)
  have q2 := HOd.out.free (i * 2 + 1)
  have q3 := HOd.out.free (j * 2)
  have q4 := HOd.out.free (j * 2 + 1)
  clear hwd l1 l2 l3 l4
  have HFin : Kept (OwnK ((((wd.setCell ⟨g, i * 2, none⟩ (.int .i64 b1)).setCell ⟨g, i * 2 + 1, none⟩ (.int .i64 b2)).setCell ⟨g, j * 2, none⟩ (.int .i64 a1)).setCell ⟨g, j * 2 + 1, none⟩ (.int .i64 a2)) 78 2 (.slice (some ⟨g, 0, none⟩) n cap) n (fl (swapL l i j)) ∧
      Chg (fun b => b = g) w ((((wd.setCell ⟨g, i * 2, none⟩ (.int .i64 b1)).setCell ⟨g, i * 2 + 1, none⟩ (.int .i64 b2)).setCell ⟨g, j * 2, none⟩ (.int .i64 a1)).setCell ⟨g, j * 2 + 1, none⟩ (.int .i64 a2))) := kept (by
    rw [HSw.out]
    exact ⟨(((HOd.out.store _ _).store _ _).store _ _).store _ _, (((HCd.out.trans (Chg.setCell _ _ _) (fun _ _ h => h)).trans (Chg.setCell _ _ _) (fun _ _ h => h)).trans (Chg.setCell _ _ _) (fun _ _ h => h)).trans (Chg.setCell _ _ _) (fun _ _ h => h)⟩)
  by_cases hij : i = j
  · subst hij
    go_wp2_with fail
    refine hK _ _ ?_
    go_wp2_with fail
    go_end0
    exact ⟨rfl, HFin.out.1, HFin.out.2⟩
  · have n1 : i * 2 ≠ j * 2 := by omega
    have n2 : i * 2 + 1 ≠ j * 2 := by omega
    have n3 : i * 2 ≠ j * 2 + 1 := by omega
    have n4 : i * 2 + 1 ≠ j * 2 + 1 := by omega
    go_wp2_with fail
    refine hK _ _ ?_
    go_wp2_with fail
    go_end0
    exact ⟨rfl, HFin.out.1, HFin.out.2⟩

theorem assertE (x : TypeId) (v : Value) (w : World) : (Instr.typeAssert (.iface 78 v) x 78 true).run Try.prog w = .ok (.tuple #[v, .bool true]) w := by kernel_rfl

/-- A heap at block p, its pairs at v. -/
structure IsHp (w : World) (p : Nat) (v : Value) (l : List (Int × Int)) : Prop where
  blk : Blk w p #[v] 75
  row : OwnK w 78 2 v l.length (fl l)
theorem IsHp.later {w w' : World} {p : Nat} {v : Value} {l : List (Int × Int)} (h : IsHp w p v l) (hb : Below w.heap.size w w') : IsHp w' p v l := ⟨(hb.block p h.blk.lt).trans h.blk, h.row.later hb⟩
theorem IsHp.keep {w w' : World} {S : Nat → Prop} {p : Nat} {v : Value} {l : List (Int × Int)} (h : IsHp w p v l) (hc : Chg S w w') (hp : ¬ S p) (hv : ∀ g, v.ownBlock = some g → ¬ S g) : IsHp w' p v l :=
  ⟨hc.keep h.blk hp, h.row.chg hc hv⟩
theorem IsHp.ne {w : World} {p : Nat} {v : Value} {l : List (Int × Int)} (h : IsHp w p v l) : v.ownBlock ≠ some p := h.row.ne h.blk (by decide)
theorem IsHp.row0 {w : World} {p : Nat} {v : Value} {l : List (Int × Int)} (h : IsHp w p v l) (h0 : 0 < l.length) : ∃ g cap, v = .slice (some ⟨g, 0, none⟩) l.length cap ∧ l.length ≤ cap ∧ cap ≤ maxLen ∧ g ≠ p ∧ g < w.heap.size := by
  obtain ⟨a, cap, rfl, h1, h2, h3⟩ := h.row.slice
  obtain ⟨g, rfl⟩ := h3 h0
  exact ⟨g, cap, rfl, h1, h2, fun e => h.ne (by simp [Value.ownBlock, e]), h.row.lt g rfl⟩

set_option maxHeartbeats 4000000 in
theorem push_calls (p : Nat) (v : Value) (l : List (Int × Int)) (a1 a2 : Int) (w : World) (h : IsHp w p v l) (hl : l.length ≤ 1000000) :
    Calls Try.prog 69 #[.pointer (some ⟨p, 0, none⟩), .iface 78 (.agg #[.int .i64 a1, .int .i64 a2])] w fun e w' => e = .returned (.tuple #[]) ∧
      ∃ v', IsHp w' p v' (l ++ [(a1, a2)]) ∧ Chg (fun b => b = p ∨ some b = v.ownBlock) w w' ∧ ∀ g, v'.ownBlock = some g → some g = v.ownBlock ∨ w.heap.size ≤ g := by
  obtain ⟨j0, hj, hy0, hy1, hy2⟩ := info_partsE infoE
  have hpl := h.blk.lt
  have hta := assertE
  have c0 : w.cell? ⟨p, 0, none⟩ = some v := h.blk.cell rfl
  have H := kept h
  clear h
  go_enter Try.func69, Try.ntmps69
  go_wp2_with fail
  obtain ⟨C, hC⟩ : ∃ C, C = w.heap.size := ⟨_, rfl⟩
  rw [← hC]
  generalize hwa : World.alloc w _ = wa
  have hG : Blk wa C #[.int .i64 a1, .int .i64 a2] 78 := by rw [← hwa, hC]; exact Blk.fresh _ _ _
  have hBa : Below w.heap.size w wa := by rw [← hwa]; exact (Below.refl _ _).alloc (Nat.le_refl _) _
  have HA := kept (H.out.later hBa)
  have HBa := kept hBa
  have HCs := kept hC
  have g0 : wa.cell? ⟨C, 0, none⟩ = some (.int .i64 a1) := hG.cell rfl
  have g1 : wa.cell? ⟨C, 1, none⟩ = some (.int .i64 a2) := hG.cell rfl
  have c1 : wa.cell? ⟨p, 0, none⟩ = some v := HA.out.blk.cell rfl
  have k0 := lat_cell g0
  have k1 := lat_cell g1
  have k2 := lat_cell c1
  clear hwa hG hBa c0 g0 g1 c1 hta hC
  refine wp_region_mixL [0] [1,2,3,4] [5,6,7,8] (by kernel_rfl) (by kernel_rfl) ?_
  intro K hK
  simp only [pick, List.filterMap_cons, List.filterMap_nil, List.getElem?_cons_zero, List.getElem?_cons_succ]
  repeat (show wpQuiet _ _ _ _ (_ :: _) _; go_big_quiet_step (fail))
  refine wpQuiet_nil ?_
  show wpList _ _ _ [_, _, _, _] _ _
  generalize hwd : World.drew wa = wd
  have HD : Kept (IsHp wd p v l) := kept (by rw [← hwd]; exact HA.out.later ((Below.refl _ _).drew))
  have HBd : Kept (Below w.heap.size w wd) := kept (by rw [← hwd]; exact HBa.out.drew)
  clear hwd k0 k1 k2
  obtain ⟨va, vc, rfl, _⟩ := HD.out.row.slice
  go_wp2_with (first | (at_builtin; refine wpList_appK1 rfl _ _ 75 rfl 78 j0 (.agg #[.int .i64 0, .int .i64 0]) 2 16 Try.underlying75 hj hy0 hy1 hy2 rfl (by decide) (.slice va l.length vc) l.length _ [.int .i64 a1, .int .i64 a2] rfl HD.out.row rfl (by intro u hu; simp at hu; rcases hu with rfl | rfl <;> rfl) rfl ?_ ?_ ?_))
  · simp [maxLen]; omega
  · omega
  intro v7 w7 O7 C7 F7
  obtain ⟨a7, cap7, rfl, _⟩ := O7.slice
  have hne : (Value.slice va l.length vc).ownBlock ≠ some p := HD.out.ne
  have hB7 : Blk w7 p #[.slice va l.length vc] 75 := C7.keep HD.out.blk (fun e => hne e.symm)
  have c7 : w7.cell? ⟨p, 0, none⟩ = some (.slice va l.length vc) := hB7.cell rfl
  have f7 : w7.frozen? ⟨p, 0, none⟩ = false := hB7.free 0
  have HB7 := kept hB7
  have HO7 : Kept (OwnK w7 78 2 (.slice a7 (l.length + 1) cap7) (l.length + 1) (fl (l ++ [(a1, a2)]))) := kept (by rw [fl_append]; exact O7)
  have HC7 : Kept (Chg (fun b => b = p ∨ some b = (Value.slice va l.length vc).ownBlock) w w7) := kept ((Chg.of_below HBd.out).trans C7 (fun b _ h => .inr h))
  have HF7 : Kept (∀ g, (Value.slice a7 (l.length + 1) cap7).ownBlock = some g → some g = (Value.slice va l.length vc).ownBlock ∨ w.heap.size ≤ g) := kept (fun g hg => (F7 g hg).imp id fun h => Nat.le_trans HBd.out.size h)
  clear hB7 O7 C7 F7 hne
  go_wp2_with fail
  refine hK _ _ ?_
  go_wp2_with fail
  go_end0
  have hl1 : (l ++ [(a1, a2)]).length = l.length + 1 := by simp
  refine ⟨rfl, _, ⟨HB7.out.set 0 _, ?_⟩, HC7.out.trans (Chg.setCell _ ⟨p, 0, none⟩ _) (fun b _ h => .inl h), HF7.out⟩
  rw [hl1]
  exact HO7.out.setOther (a := ⟨p, 0, none⟩) (HO7.out.ne HB7.out (by decide)) _

set_option maxHeartbeats 4000000 in
theorem pop_calls (p g n cap : Nat) (l : List (Int × Int)) (w : World) (h : IsHp w p (.slice (some ⟨g, 0, none⟩) (n + 1) cap) l) (hn : l.length = n + 1) (hl : n ≤ 1000000) :
    Calls Try.prog 68 #[.pointer (some ⟨p, 0, none⟩)] w fun e w' => e = .returned (.iface 78 (.agg #[.int .i64 (at_ l n).1, .int .i64 (at_ l n).2])) ∧
      IsHp w' p (.slice (some ⟨g, 0, none⟩) n cap) (l.take n) ∧ Chg (fun b => b = p) w w' := by
  have hgp : g ≠ p := fun e => h.ne (by simp [Value.ownBlock, e])
  have hrow : OwnK w 78 2 (.slice (some ⟨g, 0, none⟩) (n + 1) cap) (n + 1) (fl l) := by have := h.row; rw [hn] at this; exact this
  obtain ⟨_, cap', hv, hnc, hcm, _⟩ := hrow.slice
  simp only [Value.slice.injEq, true_and] at hv
  obtain ⟨rfl, rfl⟩ := hv
  simp only [maxLen] at hcm
  obtain ⟨c1, c2⟩ := fl_at l n (by omega)
  have c1 := hrow.cell c1
  have c2 := hrow.cell c2
  have c0 : w.cell? ⟨p, 0, none⟩ = some (.slice (some ⟨g, 0, none⟩) (n + 1) cap) := h.blk.cell rfl
  have f0 : w.frozen? ⟨p, 0, none⟩ = false := h.blk.free 0
  have hpl := h.blk.lt
  have hgl := hrow.lt g rfl
  obtain ⟨a1, ha1⟩ : ∃ a1, a1 = (at_ l n).1 := ⟨_, rfl⟩
  obtain ⟨a2, ha2⟩ : ∃ a2, a2 = (at_ l n).2 := ⟨_, rfl⟩
  rw [← ha1] at c1
  rw [← ha2] at c2
  rw [← ha1, ← ha2]
  have hcut : OwnK w 78 2 (.slice (some ⟨g, 0, none⟩) n cap) n (fl (l.take n)) := by
    refine ⟨by rw [length_fl, List.length_take]; omega, ?_⟩
    rcases hrow.2 with ⟨hv, _⟩ | ⟨g', cap', cur, hv, hb, hgg, h1, h2, h3, h4⟩
    · simp at hv
    · simp only [Value.slice.injEq, Option.some.injEq, Addr.mk.injEq, and_true, true_and] at hv
      obtain ⟨rfl, rfl⟩ := hv
      refine .inr ⟨g, cap, cur, rfl, hb, hgg, by omega, h2, h3, ?_⟩
      have e : fl l = fl (l.take n) ++ fl (l.drop n) := by rw [← fl_append, List.take_append_drop]
      rw [e] at h4
      have h5 := congrArg (List.take (n * 2)) h4
      rw [List.take_take, Nat.min_eq_left (by omega), List.take_left' (by rw [length_fl, List.length_take]; omega)] at h5
      exact h5
  have HCut := kept hcut
  have HBl := kept h.blk
  have HLt := kept (show (l.take n).length = n by rw [List.length_take]; omega)
  have hcap : n ≤ cap := by omega
  clear h hrow ha1 ha2 hcut hn
  go_enter Try.func68, Try.ntmps68
  go_wp2_with fail
  go_ret
  refine ⟨rfl, ⟨(HBl.out.set 0 _).alloc _, ?_⟩, (Chg.setCell w ⟨p, 0, none⟩ _).trans (Chg.alloc (fun _ => False) _ _) (fun _ _ h => h.elim)⟩
  rw [HLt.out]
  exact (HCut.out.setOther (a := ⟨p, 0, none⟩) (by simpa [Value.ownBlock] using hgp) _).later ((Below.refl _ _).alloc (Nat.le_refl _) _)
end Go.Proofs.Ytbldocbijihpgaa.HistH

-- ---- Hbn
/- A heap's Swap, Push and Pop of its own. -/
namespace Go.Proofs.Ytbldocbijihpgaa.NormH
set_option linter.unusedSimpArgs false
set_option linter.unusedVariables false
open Go.RowKit Mix _root_.Go.Proofs.Ytbldocbijihpgaa.Own Ol Hp
attribute [local go_sem] Own.max_int Own.min_int

set_option maxHeartbeats 4000000 in
theorem swap_calls (g n cap : Nat) (l : List (Int × Int)) (i j : Nat) (w : World) (hO : OwnK w 86 2 (.slice (some ⟨g, 0, none⟩) n cap) n (fl l)) (hi : i < n) (hj : j < n) :
    Calls Try.prog 75 #[.slice (some ⟨g, 0, none⟩) n cap, .int .i64 (i : Int), .int .i64 (j : Int)] w fun e w' => e = .returned (.tuple #[]) ∧ OwnK w' 86 2 (.slice (some ⟨g, 0, none⟩) n cap) n (fl (swapL l i j)) ∧ Chg (fun b => b = g) w w' := by
  have hln : l.length = n := by have := hO.1; rw [length_fl] at this; omega
  obtain ⟨c1, c2⟩ := fl_at l i (by omega)
  obtain ⟨d1, d2⟩ := fl_at l j (by omega)
  have c1 := hO.cell c1
  have c2 := hO.cell c2
  have d1 := hO.cell d1
  have d2 := hO.cell d2
  have hsw : fl (swapL l i j) = ((((fl l).set (i * 2) (.int .i64 (at_ l j).1)).set (i * 2 + 1) (.int .i64 (at_ l j).2)).set (j * 2) (.int .i64 (at_ l i).1)).set (j * 2 + 1) (.int .i64 (at_ l i).2) := by
    unfold swapL
    rw [fl_set _ j _ (by rw [List.length_set]; omega), fl_set l i _ (by omega)]
  generalize at_ l i = a at c1 c2 hsw
  generalize at_ l j = c at d1 d2 hsw
  obtain ⟨a1, a2⟩ := a
  obtain ⟨b1, b2⟩ := c
  have l1 := lat_cell c1
  have l2 := lat_cell c2
  have l3 := lat_cell d1
  have l4 := lat_cell d2
  have HO := kept hO
  have HSw := kept hsw
  clear hO c1 c2 d1 d2 hln hsw
  go_enter Try.func75, Try.ntmps75
  go_wp2_with fail
  refine wp_region_mixL [2,3] [0,1,4,5,6,7,8,9,10,11,12] [13,14,15] (by kernel_rfl) (by kernel_rfl) ?_
  intro K hK
  simp only [pick, List.filterMap_cons, List.filterMap_nil, List.getElem?_cons_zero, List.getElem?_cons_succ]
  repeat (show wpQuiet _ _ _ _ (_ :: _) _; go_big_quiet_step (fail))
  refine wpQuiet_nil ?_
  show wpList _ _ _ [_, _, _] _ _
  generalize hwd : World.drew w = wd
  have HOd : Kept (OwnK wd 86 2 (.slice (some ⟨g, 0, none⟩) n cap) n (fl l)) := kept (by rw [← hwd]; exact HO.out.later ((Below.refl _ _).drew))
  have HCd : Kept (Chg (fun b => b = g) w wd) := kept (by rw [← hwd]; exact Chg.drew _ _)
  have c1 : wd.cell? ⟨g, i * 2, none⟩ = some (.int .i64 a1) := by rw [← hwd]; exact l1 (Lat.drew w)
  have c2 : wd.cell? ⟨g, i * 2 + 1, none⟩ = some (.int .i64 a2) := by rw [← hwd]; exact l2 (Lat.drew w)
  have d1 : wd.cell? ⟨g, j * 2, none⟩ = some (.int .i64 b1) := by rw [← hwd]; exact l3 (Lat.drew w)
  have d2 : wd.cell? ⟨g, j * 2 + 1, none⟩ = some (.int .i64 b2) := by rw [← hwd]; exact l4 (Lat.drew w)
  have q1 := HOd.out.free (i * 2)
  have q2 := HOd.out.free (i * 2 + 1)
  have q3 := HOd.out.free (j * 2)
  have q4 := HOd.out.free (j * 2 + 1)
  clear hwd l1 l2 l3 l4
  have HFin : Kept (OwnK ((((wd.setCell ⟨g, i * 2, none⟩ (.int .i64 b1)).setCell ⟨g, i * 2 + 1, none⟩ (.int .i64 b2)).setCell ⟨g, j * 2, none⟩ (.int .i64 a1)).setCell ⟨g, j * 2 + 1, none⟩ (.int .i64 a2)) 86 2 (.slice (some ⟨g, 0, none⟩) n cap) n (fl (swapL l i j)) ∧
      Chg (fun b => b = g) w ((((wd.setCell ⟨g, i * 2, none⟩ (.int .i64 b1)).setCell ⟨g, i * 2 + 1, none⟩ (.int .i64 b2)).setCell ⟨g, j * 2, none⟩ (.int .i64 a1)).setCell ⟨g, j * 2 + 1, none⟩ (.int .i64 a2))) := kept (by
    rw [HSw.out]
    exact ⟨(((HOd.out.store _ _).store _ _).store _ _).store _ _, (((HCd.out.trans (Chg.setCell _ _ _) (fun _ _ h => h)).trans (Chg.setCell _ _ _) (fun _ _ h => h)).trans (Chg.setCell _ _ _) (fun _ _ h => h)).trans (Chg.setCell _ _ _) (fun _ _ h => h)⟩)
  by_cases hij : i = j
  · subst hij
    go_wp2_with fail
    refine hK _ _ ?_
    go_wp2_with fail
    go_end0
    exact ⟨rfl, HFin.out.1, HFin.out.2⟩
  · have n1 : i * 2 ≠ j * 2 := by omega
    have n2 : i * 2 + 1 ≠ j * 2 := by omega
    have n3 : i * 2 ≠ j * 2 + 1 := by omega
    have n4 : i * 2 + 1 ≠ j * 2 + 1 := by omega
    go_wp2_with fail
    refine hK _ _ ?_
    go_wp2_with fail
    go_end0
    exact ⟨rfl, HFin.out.1, HFin.out.2⟩

theorem assertE (x : TypeId) (v : Value) (w : World) : (Instr.typeAssert (.iface 86 v) x 86 true).run Try.prog w = .ok (.tuple #[v, .bool true]) w := by kernel_rfl

/-- A heap at block p, its pairs at v. -/
structure IsHp (w : World) (p : Nat) (v : Value) (l : List (Int × Int)) : Prop where
  blk : Blk w p #[v] 84
  row : OwnK w 86 2 v l.length (fl l)
theorem IsHp.later {w w' : World} {p : Nat} {v : Value} {l : List (Int × Int)} (h : IsHp w p v l) (hb : Below w.heap.size w w') : IsHp w' p v l := ⟨(hb.block p h.blk.lt).trans h.blk, h.row.later hb⟩
theorem IsHp.keep {w w' : World} {S : Nat → Prop} {p : Nat} {v : Value} {l : List (Int × Int)} (h : IsHp w p v l) (hc : Chg S w w') (hp : ¬ S p) (hv : ∀ g, v.ownBlock = some g → ¬ S g) : IsHp w' p v l :=
  ⟨hc.keep h.blk hp, h.row.chg hc hv⟩
theorem IsHp.ne {w : World} {p : Nat} {v : Value} {l : List (Int × Int)} (h : IsHp w p v l) : v.ownBlock ≠ some p := h.row.ne h.blk (by decide)
theorem IsHp.row0 {w : World} {p : Nat} {v : Value} {l : List (Int × Int)} (h : IsHp w p v l) (h0 : 0 < l.length) : ∃ g cap, v = .slice (some ⟨g, 0, none⟩) l.length cap ∧ l.length ≤ cap ∧ cap ≤ maxLen ∧ g ≠ p ∧ g < w.heap.size := by
  obtain ⟨a, cap, rfl, h1, h2, h3⟩ := h.row.slice
  obtain ⟨g, rfl⟩ := h3 h0
  exact ⟨g, cap, rfl, h1, h2, fun e => h.ne (by simp [Value.ownBlock, e]), h.row.lt g rfl⟩

set_option maxHeartbeats 4000000 in
theorem push_calls (p : Nat) (v : Value) (l : List (Int × Int)) (a1 a2 : Int) (w : World) (h : IsHp w p v l) (hl : l.length ≤ 1000000) :
    Calls Try.prog 74 #[.pointer (some ⟨p, 0, none⟩), .iface 86 (.agg #[.int .i64 a1, .int .i64 a2])] w fun e w' => e = .returned (.tuple #[]) ∧
      ∃ v', IsHp w' p v' (l ++ [(a1, a2)]) ∧ Chg (fun b => b = p ∨ some b = v.ownBlock) w w' ∧ ∀ g, v'.ownBlock = some g → some g = v.ownBlock ∨ w.heap.size ≤ g := by
  obtain ⟨j0, hj, hy0, hy1, hy2⟩ := info_partsE infoE
  have hpl := h.blk.lt
  have hta := assertE
  have c0 : w.cell? ⟨p, 0, none⟩ = some v := h.blk.cell rfl
  have H := kept h
  clear h
  go_enter Try.func74, Try.ntmps74
  go_wp2_with fail
  obtain ⟨C, hC⟩ : ∃ C, C = w.heap.size := ⟨_, rfl⟩
  rw [← hC]
  generalize hwa : World.alloc w _ = wa
  have hG : Blk wa C #[.int .i64 a1, .int .i64 a2] 86 := by rw [← hwa, hC]; exact Blk.fresh _ _ _
  have hBa : Below w.heap.size w wa := by rw [← hwa]; exact (Below.refl _ _).alloc (Nat.le_refl _) _
  have HA := kept (H.out.later hBa)
  have HBa := kept hBa
  have HCs := kept hC
  have g0 : wa.cell? ⟨C, 0, none⟩ = some (.int .i64 a1) := hG.cell rfl
  have g1 : wa.cell? ⟨C, 1, none⟩ = some (.int .i64 a2) := hG.cell rfl
  have c1 : wa.cell? ⟨p, 0, none⟩ = some v := HA.out.blk.cell rfl
  have k0 := lat_cell g0
  have k1 := lat_cell g1
  have k2 := lat_cell c1
  clear hwa hG hBa c0 g0 g1 c1 hta hC
  refine wp_region_mixL [0] [1,2,3,4] [5,6,7,8] (by kernel_rfl) (by kernel_rfl) ?_
  intro K hK
  simp only [pick, List.filterMap_cons, List.filterMap_nil, List.getElem?_cons_zero, List.getElem?_cons_succ]
  repeat (show wpQuiet _ _ _ _ (_ :: _) _; go_big_quiet_step (fail))
  refine wpQuiet_nil ?_
  show wpList _ _ _ [_, _, _, _] _ _
  generalize hwd : World.drew wa = wd
  have HD : Kept (IsHp wd p v l) := kept (by rw [← hwd]; exact HA.out.later ((Below.refl _ _).drew))
  have HBd : Kept (Below w.heap.size w wd) := kept (by rw [← hwd]; exact HBa.out.drew)
  clear hwd k0 k1 k2
  obtain ⟨va, vc, rfl, _⟩ := HD.out.row.slice
  go_wp2_with (first | (at_builtin; refine wpList_appK1 rfl _ _ 84 rfl 86 j0 (.agg #[.int .i64 0, .int .i64 0]) 2 16 Try.underlying84 hj hy0 hy1 hy2 rfl (by decide) (.slice va l.length vc) l.length _ [.int .i64 a1, .int .i64 a2] rfl HD.out.row rfl (by intro u hu; simp at hu; rcases hu with rfl | rfl <;> rfl) rfl ?_ ?_ ?_))
  · simp [maxLen]; omega
  · omega
  intro v7 w7 O7 C7 F7
  obtain ⟨a7, cap7, rfl, _⟩ := O7.slice
  have hne : (Value.slice va l.length vc).ownBlock ≠ some p := HD.out.ne
  have hB7 : Blk w7 p #[.slice va l.length vc] 84 := C7.keep HD.out.blk (fun e => hne e.symm)
  have c7 : w7.cell? ⟨p, 0, none⟩ = some (.slice va l.length vc) := hB7.cell rfl
  have f7 : w7.frozen? ⟨p, 0, none⟩ = false := hB7.free 0
  have HB7 := kept hB7
  have HO7 : Kept (OwnK w7 86 2 (.slice a7 (l.length + 1) cap7) (l.length + 1) (fl (l ++ [(a1, a2)]))) := kept (by rw [fl_append]; exact O7)
  have HC7 : Kept (Chg (fun b => b = p ∨ some b = (Value.slice va l.length vc).ownBlock) w w7) := kept ((Chg.of_below HBd.out).trans C7 (fun b _ h => .inr h))
  have HF7 : Kept (∀ g, (Value.slice a7 (l.length + 1) cap7).ownBlock = some g → some g = (Value.slice va l.length vc).ownBlock ∨ w.heap.size ≤ g) := kept (fun g hg => (F7 g hg).imp id fun h => Nat.le_trans HBd.out.size h)
  clear hB7 O7 C7 F7 hne
  go_wp2_with fail
  refine hK _ _ ?_
  go_wp2_with fail
  go_end0
  have hl1 : (l ++ [(a1, a2)]).length = l.length + 1 := by simp
  refine ⟨rfl, _, ⟨HB7.out.set 0 _, ?_⟩, HC7.out.trans (Chg.setCell _ ⟨p, 0, none⟩ _) (fun b _ h => .inl h), HF7.out⟩
  rw [hl1]
  exact HO7.out.setOther (a := ⟨p, 0, none⟩) (HO7.out.ne HB7.out (by decide)) _

set_option maxHeartbeats 4000000 in
theorem pop_calls (p g n cap : Nat) (l : List (Int × Int)) (w : World) (h : IsHp w p (.slice (some ⟨g, 0, none⟩) (n + 1) cap) l) (hn : l.length = n + 1) (hl : n ≤ 1000000) :
    Calls Try.prog 73 #[.pointer (some ⟨p, 0, none⟩)] w fun e w' => e = .returned (.iface 86 (.agg #[.int .i64 (at_ l n).1, .int .i64 (at_ l n).2])) ∧
      IsHp w' p (.slice (some ⟨g, 0, none⟩) n cap) (l.take n) ∧ Chg (fun b => b = p) w w' := by
  have hgp : g ≠ p := fun e => h.ne (by simp [Value.ownBlock, e])
  have hrow : OwnK w 86 2 (.slice (some ⟨g, 0, none⟩) (n + 1) cap) (n + 1) (fl l) := by have := h.row; rw [hn] at this; exact this
  obtain ⟨_, cap', hv, hnc, hcm, _⟩ := hrow.slice
  simp only [Value.slice.injEq, true_and] at hv
  obtain ⟨rfl, rfl⟩ := hv
  simp only [maxLen] at hcm
  obtain ⟨c1, c2⟩ := fl_at l n (by omega)
  have c1 := hrow.cell c1
  have c2 := hrow.cell c2
  have c0 : w.cell? ⟨p, 0, none⟩ = some (.slice (some ⟨g, 0, none⟩) (n + 1) cap) := h.blk.cell rfl
  have f0 : w.frozen? ⟨p, 0, none⟩ = false := h.blk.free 0
  have hpl := h.blk.lt
  have hgl := hrow.lt g rfl
  obtain ⟨a1, ha1⟩ : ∃ a1, a1 = (at_ l n).1 := ⟨_, rfl⟩
  obtain ⟨a2, ha2⟩ : ∃ a2, a2 = (at_ l n).2 := ⟨_, rfl⟩
  rw [← ha1] at c1
  rw [← ha2] at c2
  rw [← ha1, ← ha2]
  have hcut : OwnK w 86 2 (.slice (some ⟨g, 0, none⟩) n cap) n (fl (l.take n)) := by
    refine ⟨by rw [length_fl, List.length_take]; omega, ?_⟩
    rcases hrow.2 with ⟨hv, _⟩ | ⟨g', cap', cur, hv, hb, hgg, h1, h2, h3, h4⟩
    · simp at hv
    · simp only [Value.slice.injEq, Option.some.injEq, Addr.mk.injEq, and_true, true_and] at hv
      obtain ⟨rfl, rfl⟩ := hv
      refine .inr ⟨g, cap, cur, rfl, hb, hgg, by omega, h2, h3, ?_⟩
      have e : fl l = fl (l.take n) ++ fl (l.drop n) := by rw [← fl_append, List.take_append_drop]
      rw [e] at h4
      have h5 := congrArg (List.take (n * 2)) h4
      rw [List.take_take, Nat.min_eq_left (by omega), List.take_left' (by rw [length_fl, List.length_take]; omega)] at h5
      exact h5
  have HCut := kept hcut
  have HBl := kept h.blk
  have HLt := kept (show (l.take n).length = n by rw [List.length_take]; omega)
  have hcap : n ≤ cap := by omega
  clear h hrow ha1 ha2 hcut hn
  go_enter Try.func73, Try.ntmps73
  go_wp2_with fail
  go_ret
  refine ⟨rfl, ⟨(HBl.out.set 0 _).alloc _, ?_⟩, (Chg.setCell w ⟨p, 0, none⟩ _).trans (Chg.alloc (fun _ => False) _ _) (fun _ _ h => h.elim)⟩
  rw [HLt.out]
  exact (HCut.out.setOther (a := ⟨p, 0, none⟩) (by simpa [Value.ownBlock] using hgp) _).later ((Below.refl _ _).alloc (Nat.le_refl _) _)
end Go.Proofs.Ytbldocbijihpgaa.NormH

-- ---- Hch
/- The library's heap over these methods: up, down, Push, Pop. -/
namespace Go.Proofs.Ytbldocbijihpgaa.HistH
set_option linter.unusedSimpArgs false
set_option linter.unusedVariables false
open Go.RowKit Mix _root_.Go.Proofs.Ytbldocbijihpgaa.Own Ol Hp
attribute [local go_sem] Own.max_int Own.min_int

theorem par_t (j : Nat) : ((j : Int) - 1).tdiv 2 = (par j : Int) := by
  unfold par
  rcases Nat.eq_zero_or_pos j with h | h
  · subst h; rfl
  · rw [Int.tdiv_eq_ediv_of_nonneg (by omega)]; omega
theorem par_e (j : Nat) (h : 0 < j) : ((j : Int) - 1) / 2 = (par j : Int) := by unfold par; omega

theorem load_rows (a : Addr) (v : Value) (w : World) (h : w.cell? a = some v) : (loadVar 75 a).run Try.prog w = .ok v w := by
  simp [loadVar, Sem.run_bind, isAgg, run_underlying Try.underlying75 w, h, Result.andThen]
theorem method_len (a : Addr) (v : Value) (w : World) (h : w.cell? a = some v) : (Go.method 220 73 (.pointer (some a)) "Len").run Try.prog w = .ok (39, v) w := by
  have e1 : (Go.method 220 73 (.pointer (some a)) "Len").run Try.prog w = ((receiverAt 73 (.val (.pointer (some a))) false (some (("Len".splitOn ".").getLastD "Len"))) >>= fun r => pure ((39 : FuncId), r)).run Try.prog w := by kernel_rfl
  have e2 : (receiverAt 73 (.val (.pointer (some a))) false (some (("Len".splitOn ".").getLastD "Len"))).run Try.prog w = (loadVar 75 a).run Try.prog w := by kernel_rfl
  rw [e1, Sem.run_bind, e2, load_rows a v w h]
  rfl
theorem method_less (a : Addr) (v : Value) (w : World) (h : w.cell? a = some v) : (Go.method 220 73 (.pointer (some a)) "Less").run Try.prog w = .ok (67, v) w := by
  have e1 : (Go.method 220 73 (.pointer (some a)) "Less").run Try.prog w = ((receiverAt 73 (.val (.pointer (some a))) false (some (("Less".splitOn ".").getLastD "Less"))) >>= fun r => pure ((67 : FuncId), r)).run Try.prog w := by kernel_rfl
  have e2 : (receiverAt 73 (.val (.pointer (some a))) false (some (("Less".splitOn ".").getLastD "Less"))).run Try.prog w = (loadVar 75 a).run Try.prog w := by kernel_rfl
  rw [e1, Sem.run_bind, e2, load_rows a v w h]
  rfl
theorem method_swap (a : Addr) (v : Value) (w : World) (h : w.cell? a = some v) : (Go.method 220 73 (.pointer (some a)) "Swap").run Try.prog w = .ok (70, v) w := by
  have e1 : (Go.method 220 73 (.pointer (some a)) "Swap").run Try.prog w = ((receiverAt 73 (.val (.pointer (some a))) false (some (("Swap".splitOn ".").getLastD "Swap"))) >>= fun r => pure ((70 : FuncId), r)).run Try.prog w := by kernel_rfl
  have e2 : (receiverAt 73 (.val (.pointer (some a))) false (some (("Swap".splitOn ".").getLastD "Swap"))).run Try.prog w = (loadVar 75 a).run Try.prog w := by kernel_rfl
  rw [e1, Sem.run_bind, e2, load_rows a v w h]
  rfl
theorem method_push (a : Addr) (w : World) : (Go.method 220 73 (.pointer (some a)) "Push").run Try.prog w = .ok (69, .pointer (some a)) w := by kernel_rfl
theorem method_pop (a : Addr) (w : World) : (Go.method 220 73 (.pointer (some a)) "Pop").run Try.prog w = .ok (68, .pointer (some a)) w := by kernel_rfl

attribute [local go_sem] method_len method_less method_swap method_push method_pop

set_option maxHeartbeats 8000000 in
theorem up_calls (p g n cap : Nat) (l : List (Int × Int)) (j : Nat) (w : World) (h : IsHp w p (.slice (some ⟨g, 0, none⟩) n cap) l) (hn : l.length = n) (hnb : n ≤ 1000000) (hj : j < n) (hu : UpInv ltG l n j) :
    Calls Try.prog 45 #[.iface 73 (.pointer (some ⟨p, 0, none⟩)), .int .i64 (j : Int)] w fun e w' => e = .returned (.tuple #[]) ∧
      ∃ l', IsHp w' p (.slice (some ⟨g, 0, none⟩) n cap) l' ∧ l'.length = n ∧ Heap ltG l' n ∧ l'.Perm l ∧ Chg (fun b => b = g) w w' := by
  have H := kept h
  have HU := kept hu
  have HN := kept hn
  clear h hu hn
  go_enter Try.func45, Try.ntmps45
  go_wp2_with fail
  go_loopw [1] (fun s1 wr => ∃ (k : Nat) (l1 : List (Int × Int)), s1 = .int .i64 (k : Int) ∧ k < n ∧ IsHp wr p (.slice (some ⟨g, 0, none⟩) n cap) l1 ∧ l1.length = n ∧ UpInv ltG l1 n k ∧ l1.Perm l ∧ Chg (fun b => b = g) w wr) (fun s1 _ => (intOf s1).toNat)
  case atStart => exact ⟨j, l, rfl, hj, H.out, HN.out, HU.out, List.Perm.refl _, Chg.refl _ _⟩
  case round =>
    obtain ⟨k, l1, rfl, hk, hh, hl1, hui, hpm, hch⟩ := hrel
    have c0 : wr.cell? ⟨p, 0, none⟩ = some (.slice (some ⟨g, 0, none⟩) n cap) := hh.blk.cell rfl
    have HH := kept hh
    have HL1 := kept hl1
    have HUI := kept hui
    have HPM := kept hpm
    have HCh := kept hch
    clear hh hl1 hui hpm hch
    by_cases hk0 : k = 0
    · subst hk0
      have HF : Kept (Heap ltG l1 n) := kept (up_done HUI.out (.inl rfl))
      go_wp2_with fail
      go_end0
      exact ⟨rfl, l1, HH.out, HL1.out, HF.out, HPM.out, HCh.out⟩
    · have hpt := par_t k
      have hpe := par_e k (by omega)
      have hpl := par_lt (show 0 < k by omega)
      obtain ⟨q, hq⟩ : ∃ q, q = par k := ⟨_, rfl⟩
      rw [← hq] at hpt hpe hpl
      have hne : ((q : Int) == (k : Int)) = false := by rw [beq_eq_false_iff_ne]; omega
      obtain ⟨b, hb⟩ : ∃ b, b = ltG (at_ l1 k) (at_ l1 q) := ⟨_, rfl⟩
      have hrow : OwnK wr 78 2 (.slice (some ⟨g, 0, none⟩) n cap) n (fl l1) := by have := HH.out.row; rw [HL1.out] at this; exact this
      have hless := less_calls g n cap l1 k q wr hrow hk (by omega) b hb
      have HLess := kept hless
      have HQ := kept hq
      have HBq := kept hb
      have hk0' : 0 < k := by omega
      clear hless hrow hq hb hk0
      cases b with
      | false =>
        have HF : Kept (Heap ltG l1 n) := kept (up_done HUI.out (.inr (by rw [← HQ.out]; exact HBq.out.symm)))
        go_wp2_with (first | (go_at_call 67; refine HLess.out.mono ?_; rintro e w2 ⟨rfl, hb2⟩; have HH2 := kept (HH.out.later hb2); have HCh2 := kept (HCh.out.trans (Chg.of_below (S := fun _ => False) hb2) (fun _ _ h => h.elim)); clear hb2))
        go_end0
        exact ⟨rfl, l1, HH2.out, HL1.out, HF.out, HPM.out, HCh2.out⟩
      | true =>
        go_wp2_with (first
          | (go_at_call 67; refine HLess.out.mono ?_; rintro e w2 ⟨rfl, hb2⟩; have HH2 := kept (HH.out.later hb2); have HCh2 := kept (HCh.out.trans (Chg.of_below (S := fun _ => False) hb2) (fun _ _ h => h.elim)); have c2 : w2.cell? ⟨p, 0, none⟩ = some (.slice (some ⟨g, 0, none⟩) n cap) := HH2.out.blk.cell rfl; have HS : Kept (OwnK w2 78 2 (.slice (some ⟨g, 0, none⟩) n cap) n (fl l1)) := kept (by have := HH2.out.row; rw [HL1.out] at this; exact this); clear hb2)
          | (go_at_call 70; refine (swap_calls g n cap l1 q k _ HS.out (by omega) hk).mono ?_; rintro e w3 ⟨rfl, ho3, hc3⟩
             have HH3 : Kept (IsHp w3 p (.slice (some ⟨g, 0, none⟩) n cap) (swapL l1 q k)) := kept ⟨hc3.keep HH2.out.blk (fun e => HH2.out.ne (by simp [Value.ownBlock, e])), by rw [length_swapL, HL1.out]; exact ho3⟩
             have HCh3 := kept (HCh2.out.trans hc3 (fun _ _ h => h)); clear ho3 hc3))
        go_roundw
        case rel =>
          have h1 := up_step oG HUI.out (by omega) hk (by rw [HL1.out]; exact Nat.le_refl _) (by rw [← HQ.out]; exact HBq.out.symm)
          rw [← HQ.out] at h1
          exact ⟨q, swapL l1 q k, rfl, by omega, HH3.out, by rw [length_swapL]; exact HL1.out, h1, (perm_swap l1 q k (by rw [HL1.out]; omega) (by rw [HL1.out]; exact hk)).trans HPM.out, HCh3.out⟩
        case measure => simp [intOf]; omega
end Go.Proofs.Ytbldocbijihpgaa.HistH

-- ---- Hcn
/- The library's heap over these methods: up, down, Push, Pop. -/
namespace Go.Proofs.Ytbldocbijihpgaa.NormH
set_option linter.unusedSimpArgs false
set_option linter.unusedVariables false
open Go.RowKit Mix _root_.Go.Proofs.Ytbldocbijihpgaa.Own Ol Hp
attribute [local go_sem] Own.max_int Own.min_int

theorem par_t (j : Nat) : ((j : Int) - 1).tdiv 2 = (par j : Int) := by
  unfold par
  rcases Nat.eq_zero_or_pos j with h | h
  · subst h; rfl
  · rw [Int.tdiv_eq_ediv_of_nonneg (by omega)]; omega
theorem par_e (j : Nat) (h : 0 < j) : ((j : Int) - 1) / 2 = (par j : Int) := by unfold par; omega

theorem load_rows (a : Addr) (v : Value) (w : World) (h : w.cell? a = some v) : (loadVar 84 a).run Try.prog w = .ok v w := by
  simp [loadVar, Sem.run_bind, isAgg, run_underlying Try.underlying84 w, h, Result.andThen]
theorem method_len (a : Addr) (v : Value) (w : World) (h : w.cell? a = some v) : (Go.method 220 82 (.pointer (some a)) "Len").run Try.prog w = .ok (71, v) w := by
  have e1 : (Go.method 220 82 (.pointer (some a)) "Len").run Try.prog w = ((receiverAt 82 (.val (.pointer (some a))) false (some (("Len".splitOn ".").getLastD "Len"))) >>= fun r => pure ((71 : FuncId), r)).run Try.prog w := by kernel_rfl
  have e2 : (receiverAt 82 (.val (.pointer (some a))) false (some (("Len".splitOn ".").getLastD "Len"))).run Try.prog w = (loadVar 84 a).run Try.prog w := by kernel_rfl
  rw [e1, Sem.run_bind, e2, load_rows a v w h]
  rfl
theorem method_less (a : Addr) (v : Value) (w : World) (h : w.cell? a = some v) : (Go.method 220 82 (.pointer (some a)) "Less").run Try.prog w = .ok (72, v) w := by
  have e1 : (Go.method 220 82 (.pointer (some a)) "Less").run Try.prog w = ((receiverAt 82 (.val (.pointer (some a))) false (some (("Less".splitOn ".").getLastD "Less"))) >>= fun r => pure ((72 : FuncId), r)).run Try.prog w := by kernel_rfl
  have e2 : (receiverAt 82 (.val (.pointer (some a))) false (some (("Less".splitOn ".").getLastD "Less"))).run Try.prog w = (loadVar 84 a).run Try.prog w := by kernel_rfl
  rw [e1, Sem.run_bind, e2, load_rows a v w h]
  rfl
theorem method_swap (a : Addr) (v : Value) (w : World) (h : w.cell? a = some v) : (Go.method 220 82 (.pointer (some a)) "Swap").run Try.prog w = .ok (75, v) w := by
  have e1 : (Go.method 220 82 (.pointer (some a)) "Swap").run Try.prog w = ((receiverAt 82 (.val (.pointer (some a))) false (some (("Swap".splitOn ".").getLastD "Swap"))) >>= fun r => pure ((75 : FuncId), r)).run Try.prog w := by kernel_rfl
  have e2 : (receiverAt 82 (.val (.pointer (some a))) false (some (("Swap".splitOn ".").getLastD "Swap"))).run Try.prog w = (loadVar 84 a).run Try.prog w := by kernel_rfl
  rw [e1, Sem.run_bind, e2, load_rows a v w h]
  rfl
theorem method_push (a : Addr) (w : World) : (Go.method 220 82 (.pointer (some a)) "Push").run Try.prog w = .ok (74, .pointer (some a)) w := by kernel_rfl
theorem method_pop (a : Addr) (w : World) : (Go.method 220 82 (.pointer (some a)) "Pop").run Try.prog w = .ok (73, .pointer (some a)) w := by kernel_rfl

attribute [local go_sem] method_len method_less method_swap method_push method_pop

set_option maxHeartbeats 8000000 in
theorem up_calls (p g n cap : Nat) (l : List (Int × Int)) (j : Nat) (w : World) (h : IsHp w p (.slice (some ⟨g, 0, none⟩) n cap) l) (hn : l.length = n) (hnb : n ≤ 1000000) (hj : j < n) (hu : UpInv ltG l n j) :
    Calls Try.prog 45 #[.iface 82 (.pointer (some ⟨p, 0, none⟩)), .int .i64 (j : Int)] w fun e w' => e = .returned (.tuple #[]) ∧
      ∃ l', IsHp w' p (.slice (some ⟨g, 0, none⟩) n cap) l' ∧ l'.length = n ∧ Heap ltG l' n ∧ l'.Perm l ∧ Chg (fun b => b = g) w w' := by
  have H := kept h
  have HU := kept hu
  have HN := kept hn
  clear h hu hn
  go_enter Try.func45, Try.ntmps45
  go_wp2_with fail
  go_loopw [1] (fun s1 wr => ∃ (k : Nat) (l1 : List (Int × Int)), s1 = .int .i64 (k : Int) ∧ k < n ∧ IsHp wr p (.slice (some ⟨g, 0, none⟩) n cap) l1 ∧ l1.length = n ∧ UpInv ltG l1 n k ∧ l1.Perm l ∧ Chg (fun b => b = g) w wr) (fun s1 _ => (intOf s1).toNat)
  case atStart => exact ⟨j, l, rfl, hj, H.out, HN.out, HU.out, List.Perm.refl _, Chg.refl _ _⟩
  case round =>
    obtain ⟨k, l1, rfl, hk, hh, hl1, hui, hpm, hch⟩ := hrel
    have c0 : wr.cell? ⟨p, 0, none⟩ = some (.slice (some ⟨g, 0, none⟩) n cap) := hh.blk.cell rfl
    have HH := kept hh
    have HL1 := kept hl1
    have HUI := kept hui
    have HPM := kept hpm
    have HCh := kept hch
    clear hh hl1 hui hpm hch
    by_cases hk0 : k = 0
    · subst hk0
      have HF : Kept (Heap ltG l1 n) := kept (up_done HUI.out (.inl rfl))
      go_wp2_with fail
      go_end0
      exact ⟨rfl, l1, HH.out, HL1.out, HF.out, HPM.out, HCh.out⟩
    · have hpt := par_t k
      have hpe := par_e k (by omega)
      have hpl := par_lt (show 0 < k by omega)
      obtain ⟨q, hq⟩ : ∃ q, q = par k := ⟨_, rfl⟩
      rw [← hq] at hpt hpe hpl
      have hne : ((q : Int) == (k : Int)) = false := by rw [beq_eq_false_iff_ne]; omega
      obtain ⟨b, hb⟩ : ∃ b, b = ltG (at_ l1 k) (at_ l1 q) := ⟨_, rfl⟩
      have hrow : OwnK wr 86 2 (.slice (some ⟨g, 0, none⟩) n cap) n (fl l1) := by have := HH.out.row; rw [HL1.out] at this; exact this
      have hless := less_calls g n cap l1 k q wr hrow hk (by omega) b hb
      have HLess := kept hless
      have HQ := kept hq
      have HBq := kept hb
      have hk0' : 0 < k := by omega
      clear hless hrow hq hb hk0
      cases b with
      | false =>
        have HF : Kept (Heap ltG l1 n) := kept (up_done HUI.out (.inr (by rw [← HQ.out]; exact HBq.out.symm)))
        go_wp2_with (first | (go_at_call 72; refine HLess.out.mono ?_; rintro e w2 ⟨rfl, hb2⟩; have HH2 := kept (HH.out.later hb2); have HCh2 := kept (HCh.out.trans (Chg.of_below (S := fun _ => False) hb2) (fun _ _ h => h.elim)); clear hb2))
        go_end0
        exact ⟨rfl, l1, HH2.out, HL1.out, HF.out, HPM.out, HCh2.out⟩
      | true =>
        go_wp2_with (first
          | (go_at_call 72; refine HLess.out.mono ?_; rintro e w2 ⟨rfl, hb2⟩; have HH2 := kept (HH.out.later hb2); have HCh2 := kept (HCh.out.trans (Chg.of_below (S := fun _ => False) hb2) (fun _ _ h => h.elim)); have c2 : w2.cell? ⟨p, 0, none⟩ = some (.slice (some ⟨g, 0, none⟩) n cap) := HH2.out.blk.cell rfl; have HS : Kept (OwnK w2 86 2 (.slice (some ⟨g, 0, none⟩) n cap) n (fl l1)) := kept (by have := HH2.out.row; rw [HL1.out] at this; exact this); clear hb2)
          | (go_at_call 75; refine (swap_calls g n cap l1 q k _ HS.out (by omega) hk).mono ?_; rintro e w3 ⟨rfl, ho3, hc3⟩
             have HH3 : Kept (IsHp w3 p (.slice (some ⟨g, 0, none⟩) n cap) (swapL l1 q k)) := kept ⟨hc3.keep HH2.out.blk (fun e => HH2.out.ne (by simp [Value.ownBlock, e])), by rw [length_swapL, HL1.out]; exact ho3⟩
             have HCh3 := kept (HCh2.out.trans hc3 (fun _ _ h => h)); clear ho3 hc3))
        go_roundw
        case rel =>
          have h1 := up_step oG HUI.out (by omega) hk (by rw [HL1.out]; exact Nat.le_refl _) (by rw [← HQ.out]; exact HBq.out.symm)
          rw [← HQ.out] at h1
          exact ⟨q, swapL l1 q k, rfl, by omega, HH3.out, by rw [length_swapL]; exact HL1.out, h1, (perm_swap l1 q k (by rw [HL1.out]; omega) (by rw [HL1.out]; exact hk)).trans HPM.out, HCh3.out⟩
        case measure => simp [intOf]; omega
end Go.Proofs.Ytbldocbijihpgaa.NormH

-- ---- Hdh
/- The library's heap: down. -/
namespace Go.Proofs.Ytbldocbijihpgaa.HistH
set_option linter.unusedSimpArgs false
set_option linter.unusedVariables false
open Go.RowKit Mix _root_.Go.Proofs.Ytbldocbijihpgaa.Own Ol Hp
attribute [local go_sem] Own.max_int Own.min_int
attribute [local go_sem] method_len method_less method_swap method_push method_pop

theorem par_two {i k : Nat} (h0 : 0 < i) (h : par i = k) : i = 2 * k + 1 ∨ i = 2 * k + 2 := by unfold par at h; omega
theorem par_l (k : Nat) : par (2 * k + 1) = k := by unfold par; omega
theorem par_r (k : Nat) : par (2 * k + 2) = k := by unfold par; omega

/-- What holds on the way down. -/
structure DownS (w wr : World) (p g N cap n : Nat) (l l1 : List (Int × Int)) (k : Nat) : Prop where
  hp : IsHp wr p (.slice (some ⟨g, 0, none⟩) N cap) l1
  len : l1.length = N
  inv : DownInv ltG l1 n k
  perm : l1.Perm l
  far : ∀ i, n ≤ i → at_ l1 i = at_ l i
  chg : Chg (fun b => b = g) w wr

theorem DownS.later {w wr w' : World} {p g N cap n : Nat} {l l1 : List (Int × Int)} {k : Nat} (h : DownS w wr p g N cap n l l1 k) (hb : Below wr.heap.size wr w') : DownS w w' p g N cap n l l1 k :=
  ⟨h.hp.later hb, h.len, h.inv, h.perm, h.far, h.chg.trans (Chg.of_below (S := fun _ => False) hb) (fun _ _ h => h.elim)⟩
theorem DownS.row {w wr : World} {p g N cap n : Nat} {l l1 : List (Int × Int)} {k : Nat} (h : DownS w wr p g N cap n l l1 k) : OwnK wr 78 2 (.slice (some ⟨g, 0, none⟩) N cap) N (fl l1) := by
  have := h.hp.row; rw [h.len] at this; exact this
theorem DownS.swap {w wr w' : World} {p g N cap n : Nat} {l l1 : List (Int × Int)} {k j : Nat} (h : DownS w wr p g N cap n l l1 k) (hn : n ≤ N) (hj0 : 0 < j) (hj : j < n) (hp : par j = k) (hlt : ltG (at_ l1 j) (at_ l1 k) = true) (hc : ∀ i, 0 < i → i < n → par i = k → ltG (at_ l1 i) (at_ l1 j) = false)
    (ho : OwnK w' 78 2 (.slice (some ⟨g, 0, none⟩) N cap) N (fl (swapL l1 k j))) (hch : Chg (fun b => b = g) wr w') : DownS w w' p g N cap n l (swapL l1 k j) j := by
  have hpl := par_lt hj0
  rw [hp] at hpl
  refine ⟨⟨hch.keep h.hp.blk (fun e => h.hp.ne (by simp [Value.ownBlock, e])), by rw [length_swapL, h.len]; exact ho⟩, by rw [length_swapL]; exact h.len, down_step oG h.inv hj0 hj (by rw [h.len]; exact hn) hp hlt hc, (perm_swap l1 k j (by rw [h.len]; omega) (by rw [h.len]; omega)).trans h.perm, fun i hi => ?_, h.chg.trans hch (fun _ _ h => h)⟩
  rw [at_swap l1 k j i (by rw [h.len]; omega) (by rw [h.len]; omega), if_neg (by omega), if_neg (by omega)]
  exact h.far i hi

set_option maxHeartbeats 16000000 in
theorem down_calls (p g N cap n : Nat) (l : List (Int × Int)) (i0 : Nat) (w : World) (h : IsHp w p (.slice (some ⟨g, 0, none⟩) N cap) l) (hN : l.length = N) (hNb : N ≤ 1000000) (hn : n ≤ N) (hi0 : i0 ≤ N) (hu : DownInv ltG l n i0) :
    Calls Try.prog 46 #[.iface 73 (.pointer (some ⟨p, 0, none⟩)), .int .i64 (i0 : Int), .int .i64 (n : Int)] w fun e w' => ∃ b l', e = .returned (.bool b) ∧ IsHp w' p (.slice (some ⟨g, 0, none⟩) N cap) l' ∧ l'.length = N ∧ Heap ltG l' n ∧ l'.Perm l ∧ (∀ i, n ≤ i → at_ l' i = at_ l i) ∧ Chg (fun b => b = g) w w' := by
  have HS0 : Kept (DownS w w p g N cap n l l i0) := kept ⟨h, hN, hu, List.Perm.refl _, fun _ _ => rfl, Chg.refl _ _⟩
  clear h hu hN
  go_enter Try.func46, Try.ntmps46
  go_wp2_with fail
  go_loopw [7] (fun s7 wr => ∃ (k : Nat) (l1 : List (Int × Int)), s7 = .int .i64 (k : Int) ∧ k ≤ N ∧ DownS w wr p g N cap n l l1 k) (fun s7 _ => N - (intOf s7).toNat)
  case atStart => exact ⟨i0, l, rfl, hi0, HS0.out⟩
  case round =>
    obtain ⟨k, l1, rfl, hk, hs⟩ := hrel
    have c0 : wr.cell? ⟨p, 0, none⟩ = some (.slice (some ⟨g, 0, none⟩) N cap) := hs.hp.blk.cell rfl
    have HS := kept hs
    have hless := fun i j (wx : World) (hx : DownS w wx p g N cap n l l1 k) (hi : i < N) (hj : j < N) => less_calls g N cap l1 i j wx hx.row hi hj _ rfl
    have HLess := kept hless
    clear hs hless HS0
    by_cases hA : n ≤ 2 * k + 1
    · have hd : decide ((2 * (k : Int) + 1) < (n : Int)) = false := by simp; omega
      have hA2 : (n : Int) ≤ 2 * (k : Int) + 1 := by omega
      have HF : Kept (Heap ltG l1 n) := kept (down_done HS.out.inv fun i h0 hi hp => by rcases par_two h0 hp with e | e <;> omega)
      go_wp2_with fail
      go_ret
      exact ⟨_, l1, rfl, HS.out.hp, HS.out.len, HF.out, HS.out.perm, HS.out.far, HS.out.chg⟩
    · have hB : 2 * k + 1 < n := by omega
      have hB2 : ¬ (n : Int) ≤ 2 * (k : Int) + 1 := by omega
      have hB3 : (2 * (k : Int) + 1) < (n : Int) := by omega
      by_cases hC : 2 * k + 2 < n
      · have hC2 : (2 * (k : Int) + 1 + 1) < (n : Int) := by omega
        cases hR : ltG (at_ l1 (2 * k + 2)) (at_ l1 (2 * k + 1)) with
        | true =>
          have HL1 : Kept (Calls Try.prog 67 #[.slice (some ⟨g, 0, none⟩) N cap, .int .i64 (2 * (k : Int) + 1 + 1), .int .i64 (2 * (k : Int) + 1)] wr fun e w' => e = .returned (.bool true) ∧ Below wr.heap.size wr w') := kept (by have h := HLess.out (2 * k + 2) (2 * k + 1) wr HS.out (by omega) (by omega); rw [hR, show ((2 * k + 2 : Nat) : Int) = 2 * (k : Int) + 1 + 1 by omega, show ((2 * k + 1 : Nat) : Int) = 2 * (k : Int) + 1 by omega] at h; exact h)
          have HKids : Kept (∀ i, 0 < i → i < n → par i = k → ltG (at_ l1 i) (at_ l1 (2 * k + 2)) = false) := kept (fun i h0 hi hp => by
            rcases par_two h0 hp with e | e <;> subst e; exact oG.asym hR; exact oG.irr _)
          have hL2 := fun wx hx => HLess.out (2 * k + 2) k wx hx (by omega) (by omega)
          rw [show ((2 * k + 2 : Nat) : Int) = 2 * (k : Int) + 1 + 1 by omega] at hL2
          have HL2 := kept hL2
          clear hL2
          cases hb : ltG (at_ l1 (2 * k + 2)) (at_ l1 k) with
          | false =>
            rw [hb] at HL2
            have HB := kept hb
            clear hb HLess
            go_wp2_with fail
            refine HL1.out.mono ?_
            rintro e w1 ⟨rfl, hb1⟩
            have HS1 := kept (HS.out.later hb1)
            have c1 : w1.cell? ⟨p, 0, none⟩ = some (.slice (some ⟨g, 0, none⟩) N cap) := HS1.out.hp.blk.cell rfl
            clear hb1
            go_wp2_with fail
            refine (HL2.out _ HS1.out).mono ?_
            rintro e w2 ⟨rfl, hb2⟩
            have HS2 := kept (HS1.out.later hb2)
            have c2 : w2.cell? ⟨p, 0, none⟩ = some (.slice (some ⟨g, 0, none⟩) N cap) := HS2.out.hp.blk.cell rfl
            clear hb2
            have HF : Kept (Heap ltG l1 n) := kept (down_done HS2.out.inv fun i h0 hi hp => oG.le HB.out (HKids.out i h0 hi hp))
            go_wp2_with fail
            go_ret
            exact ⟨_, l1, rfl, HS2.out.hp, HS2.out.len, HF.out, HS2.out.perm, HS2.out.far, HS2.out.chg⟩
          | true =>
            rw [hb] at HL2
            have HB := kept hb
            clear hb HLess
            go_wp2_with fail
            refine HL1.out.mono ?_
            rintro e w1 ⟨rfl, hb1⟩
            have HS1 := kept (HS.out.later hb1)
            have c1 : w1.cell? ⟨p, 0, none⟩ = some (.slice (some ⟨g, 0, none⟩) N cap) := HS1.out.hp.blk.cell rfl
            clear hb1
            go_wp2_with fail
            refine (HL2.out _ HS1.out).mono ?_
            rintro e w2 ⟨rfl, hb2⟩
            have HS2 := kept (HS1.out.later hb2)
            have c2 : w2.cell? ⟨p, 0, none⟩ = some (.slice (some ⟨g, 0, none⟩) N cap) := HS2.out.hp.blk.cell rfl
            clear hb2
            have HSw := kept (swap_calls g N cap l1 k (2 * k + 2) w2 HS2.out.row (by omega) (by omega))
            rw [show ((2 * k + 2 : Nat) : Int) = 2 * (k : Int) + 1 + 1 by omega] at HSw
            go_wp2_with fail
            refine HSw.out.mono ?_
            rintro e w3 ⟨rfl, ho3, hc3⟩
            have HS3 := kept (HS2.out.swap hn (by omega) (by omega) (par_r k) HB.out HKids.out ho3 hc3)
            clear ho3 hc3
            go_wp2_with fail
            go_roundw
            case rel => exact ⟨2 * k + 2, _, by congr 1, by omega, HS3.out⟩
            case measure => simp [intOf]; omega
        | false =>
          have HL1 : Kept (Calls Try.prog 67 #[.slice (some ⟨g, 0, none⟩) N cap, .int .i64 (2 * (k : Int) + 1 + 1), .int .i64 (2 * (k : Int) + 1)] wr fun e w' => e = .returned (.bool false) ∧ Below wr.heap.size wr w') := kept (by have h := HLess.out (2 * k + 2) (2 * k + 1) wr HS.out (by omega) (by omega); rw [hR, show ((2 * k + 2 : Nat) : Int) = 2 * (k : Int) + 1 + 1 by omega, show ((2 * k + 1 : Nat) : Int) = 2 * (k : Int) + 1 by omega] at h; exact h)
          have HKids : Kept (∀ i, 0 < i → i < n → par i = k → ltG (at_ l1 i) (at_ l1 (2 * k + 1)) = false) := kept (fun i h0 hi hp => by
            rcases par_two h0 hp with e | e <;> subst e; exact oG.irr _; exact hR)
          have hL2 := fun wx hx => HLess.out (2 * k + 1) k wx hx (by omega) (by omega)
          rw [show ((2 * k + 1 : Nat) : Int) = 2 * (k : Int) + 1 by omega] at hL2
          have HL2 := kept hL2
          clear hL2
          cases hb : ltG (at_ l1 (2 * k + 1)) (at_ l1 k) with
          | false =>
            rw [hb] at HL2
            have HB := kept hb
            clear hb HLess
            go_wp2_with fail
            refine HL1.out.mono ?_
            rintro e w1 ⟨rfl, hb1⟩
            have HS1 := kept (HS.out.later hb1)
            have c1 : w1.cell? ⟨p, 0, none⟩ = some (.slice (some ⟨g, 0, none⟩) N cap) := HS1.out.hp.blk.cell rfl
            clear hb1
            go_wp2_with fail
            refine (HL2.out _ HS1.out).mono ?_
            rintro e w2 ⟨rfl, hb2⟩
            have HS2 := kept (HS1.out.later hb2)
            have c2 : w2.cell? ⟨p, 0, none⟩ = some (.slice (some ⟨g, 0, none⟩) N cap) := HS2.out.hp.blk.cell rfl
            clear hb2
            have HF : Kept (Heap ltG l1 n) := kept (down_done HS2.out.inv fun i h0 hi hp => oG.le HB.out (HKids.out i h0 hi hp))
            go_wp2_with fail
            go_ret
            exact ⟨_, l1, rfl, HS2.out.hp, HS2.out.len, HF.out, HS2.out.perm, HS2.out.far, HS2.out.chg⟩
          | true =>
            rw [hb] at HL2
            have HB := kept hb
            clear hb HLess
            go_wp2_with fail
            refine HL1.out.mono ?_
            rintro e w1 ⟨rfl, hb1⟩
            have HS1 := kept (HS.out.later hb1)
            have c1 : w1.cell? ⟨p, 0, none⟩ = some (.slice (some ⟨g, 0, none⟩) N cap) := HS1.out.hp.blk.cell rfl
            clear hb1
            go_wp2_with fail
            refine (HL2.out _ HS1.out).mono ?_
            rintro e w2 ⟨rfl, hb2⟩
            have HS2 := kept (HS1.out.later hb2)
            have c2 : w2.cell? ⟨p, 0, none⟩ = some (.slice (some ⟨g, 0, none⟩) N cap) := HS2.out.hp.blk.cell rfl
            clear hb2
            have HSw := kept (swap_calls g N cap l1 k (2 * k + 1) w2 HS2.out.row (by omega) (by omega))
            rw [show ((2 * k + 1 : Nat) : Int) = 2 * (k : Int) + 1 by omega] at HSw
            go_wp2_with fail
            refine HSw.out.mono ?_
            rintro e w3 ⟨rfl, ho3, hc3⟩
            have HS3 := kept (HS2.out.swap hn (by omega) (by omega) (par_l k) HB.out HKids.out ho3 hc3)
            clear ho3 hc3
            go_wp2_with fail
            go_roundw
            case rel => exact ⟨2 * k + 1, _, by congr 1, by omega, HS3.out⟩
            case measure => simp [intOf]; omega
      · have hC2 : ¬ (2 * (k : Int) + 1 + 1) < (n : Int) := by omega
        have HKids : Kept (∀ i, 0 < i → i < n → par i = k → ltG (at_ l1 i) (at_ l1 (2 * k + 1)) = false) := kept (fun i h0 hi hp => by
          rcases par_two h0 hp with e | e; subst e; exact oG.irr _; omega)
        have hL2 := fun wx hx => HLess.out (2 * k + 1) k wx hx (by omega) (by omega)
        rw [show ((2 * k + 1 : Nat) : Int) = 2 * (k : Int) + 1 by omega] at hL2
        have HL2 := kept hL2
        clear hL2
        cases hb : ltG (at_ l1 (2 * k + 1)) (at_ l1 k) with
        | false =>
          rw [hb] at HL2
          have HB := kept hb
          clear hb HLess
          go_wp2_with fail
          refine (HL2.out _ HS.out).mono ?_
          rintro e w2 ⟨rfl, hb2⟩
          have HS2 := kept (HS.out.later hb2)
          have c2 : w2.cell? ⟨p, 0, none⟩ = some (.slice (some ⟨g, 0, none⟩) N cap) := HS2.out.hp.blk.cell rfl
          clear hb2
          have HF : Kept (Heap ltG l1 n) := kept (down_done HS2.out.inv fun i h0 hi hp => oG.le HB.out (HKids.out i h0 hi hp))
          go_wp2_with fail
          go_ret
          exact ⟨_, l1, rfl, HS2.out.hp, HS2.out.len, HF.out, HS2.out.perm, HS2.out.far, HS2.out.chg⟩
        | true =>
          rw [hb] at HL2
          have HB := kept hb
          clear hb HLess
          go_wp2_with fail
          refine (HL2.out _ HS.out).mono ?_
          rintro e w2 ⟨rfl, hb2⟩
          have HS2 := kept (HS.out.later hb2)
          have c2 : w2.cell? ⟨p, 0, none⟩ = some (.slice (some ⟨g, 0, none⟩) N cap) := HS2.out.hp.blk.cell rfl
          clear hb2
          have HSw := kept (swap_calls g N cap l1 k (2 * k + 1) w2 HS2.out.row (by omega) (by omega))
          rw [show ((2 * k + 1 : Nat) : Int) = 2 * (k : Int) + 1 by omega] at HSw
          go_wp2_with fail
          refine HSw.out.mono ?_
          rintro e w3 ⟨rfl, ho3, hc3⟩
          have HS3 := kept (HS2.out.swap hn (by omega) (by omega) (par_l k) HB.out HKids.out ho3 hc3)
          clear ho3 hc3
          go_wp2_with fail
          go_roundw
          case rel => exact ⟨2 * k + 1, _, by congr 1, by omega, HS3.out⟩
          case measure => simp [intOf]; omega
end Go.Proofs.Ytbldocbijihpgaa.HistH

-- ---- Hdn
/- The library's heap: down. -/
namespace Go.Proofs.Ytbldocbijihpgaa.NormH
set_option linter.unusedSimpArgs false
set_option linter.unusedVariables false
open Go.RowKit Mix _root_.Go.Proofs.Ytbldocbijihpgaa.Own Ol Hp
attribute [local go_sem] Own.max_int Own.min_int
attribute [local go_sem] method_len method_less method_swap method_push method_pop

theorem par_two {i k : Nat} (h0 : 0 < i) (h : par i = k) : i = 2 * k + 1 ∨ i = 2 * k + 2 := by unfold par at h; omega
theorem par_l (k : Nat) : par (2 * k + 1) = k := by unfold par; omega
theorem par_r (k : Nat) : par (2 * k + 2) = k := by unfold par; omega

/-- What holds on the way down. -/
structure DownS (w wr : World) (p g N cap n : Nat) (l l1 : List (Int × Int)) (k : Nat) : Prop where
  hp : IsHp wr p (.slice (some ⟨g, 0, none⟩) N cap) l1
  len : l1.length = N
  inv : DownInv ltG l1 n k
  perm : l1.Perm l
  far : ∀ i, n ≤ i → at_ l1 i = at_ l i
  chg : Chg (fun b => b = g) w wr

theorem DownS.later {w wr w' : World} {p g N cap n : Nat} {l l1 : List (Int × Int)} {k : Nat} (h : DownS w wr p g N cap n l l1 k) (hb : Below wr.heap.size wr w') : DownS w w' p g N cap n l l1 k :=
  ⟨h.hp.later hb, h.len, h.inv, h.perm, h.far, h.chg.trans (Chg.of_below (S := fun _ => False) hb) (fun _ _ h => h.elim)⟩
theorem DownS.row {w wr : World} {p g N cap n : Nat} {l l1 : List (Int × Int)} {k : Nat} (h : DownS w wr p g N cap n l l1 k) : OwnK wr 86 2 (.slice (some ⟨g, 0, none⟩) N cap) N (fl l1) := by
  have := h.hp.row; rw [h.len] at this; exact this
theorem DownS.swap {w wr w' : World} {p g N cap n : Nat} {l l1 : List (Int × Int)} {k j : Nat} (h : DownS w wr p g N cap n l l1 k) (hn : n ≤ N) (hj0 : 0 < j) (hj : j < n) (hp : par j = k) (hlt : ltG (at_ l1 j) (at_ l1 k) = true) (hc : ∀ i, 0 < i → i < n → par i = k → ltG (at_ l1 i) (at_ l1 j) = false)
    (ho : OwnK w' 86 2 (.slice (some ⟨g, 0, none⟩) N cap) N (fl (swapL l1 k j))) (hch : Chg (fun b => b = g) wr w') : DownS w w' p g N cap n l (swapL l1 k j) j := by
  have hpl := par_lt hj0
  rw [hp] at hpl
  refine ⟨⟨hch.keep h.hp.blk (fun e => h.hp.ne (by simp [Value.ownBlock, e])), by rw [length_swapL, h.len]; exact ho⟩, by rw [length_swapL]; exact h.len, down_step oG h.inv hj0 hj (by rw [h.len]; exact hn) hp hlt hc, (perm_swap l1 k j (by rw [h.len]; omega) (by rw [h.len]; omega)).trans h.perm, fun i hi => ?_, h.chg.trans hch (fun _ _ h => h)⟩
  rw [at_swap l1 k j i (by rw [h.len]; omega) (by rw [h.len]; omega), if_neg (by omega), if_neg (by omega)]
  exact h.far i hi

set_option maxHeartbeats 16000000 in
theorem down_calls (p g N cap n : Nat) (l : List (Int × Int)) (i0 : Nat) (w : World) (h : IsHp w p (.slice (some ⟨g, 0, none⟩) N cap) l) (hN : l.length = N) (hNb : N ≤ 1000000) (hn : n ≤ N) (hi0 : i0 ≤ N) (hu : DownInv ltG l n i0) :
    Calls Try.prog 46 #[.iface 82 (.pointer (some ⟨p, 0, none⟩)), .int .i64 (i0 : Int), .int .i64 (n : Int)] w fun e w' => ∃ b l', e = .returned (.bool b) ∧ IsHp w' p (.slice (some ⟨g, 0, none⟩) N cap) l' ∧ l'.length = N ∧ Heap ltG l' n ∧ l'.Perm l ∧ (∀ i, n ≤ i → at_ l' i = at_ l i) ∧ Chg (fun b => b = g) w w' := by
  have HS0 : Kept (DownS w w p g N cap n l l i0) := kept ⟨h, hN, hu, List.Perm.refl _, fun _ _ => rfl, Chg.refl _ _⟩
  clear h hu hN
  go_enter Try.func46, Try.ntmps46
  go_wp2_with fail
  go_loopw [7] (fun s7 wr => ∃ (k : Nat) (l1 : List (Int × Int)), s7 = .int .i64 (k : Int) ∧ k ≤ N ∧ DownS w wr p g N cap n l l1 k) (fun s7 _ => N - (intOf s7).toNat)
  case atStart => exact ⟨i0, l, rfl, hi0, HS0.out⟩
  case round =>
    obtain ⟨k, l1, rfl, hk, hs⟩ := hrel
    have c0 : wr.cell? ⟨p, 0, none⟩ = some (.slice (some ⟨g, 0, none⟩) N cap) := hs.hp.blk.cell rfl
    have HS := kept hs
    have hless := fun i j (wx : World) (hx : DownS w wx p g N cap n l l1 k) (hi : i < N) (hj : j < N) => less_calls g N cap l1 i j wx hx.row hi hj _ rfl
    have HLess := kept hless
    clear hs hless HS0
    by_cases hA : n ≤ 2 * k + 1
    · have hd : decide ((2 * (k : Int) + 1) < (n : Int)) = false := by simp; omega
      have hA2 : (n : Int) ≤ 2 * (k : Int) + 1 := by omega
      have HF : Kept (Heap ltG l1 n) := kept (down_done HS.out.inv fun i h0 hi hp => by rcases par_two h0 hp with e | e <;> omega)
      go_wp2_with fail
      go_ret
      exact ⟨_, l1, rfl, HS.out.hp, HS.out.len, HF.out, HS.out.perm, HS.out.far, HS.out.chg⟩
    · have hB : 2 * k + 1 < n := by omega
      have hB2 : ¬ (n : Int) ≤ 2 * (k : Int) + 1 := by omega
      have hB3 : (2 * (k : Int) + 1) < (n : Int) := by omega
      by_cases hC : 2 * k + 2 < n
      · have hC2 : (2 * (k : Int) + 1 + 1) < (n : Int) := by omega
        cases hR : ltG (at_ l1 (2 * k + 2)) (at_ l1 (2 * k + 1)) with
        | true =>
          have HL1 : Kept (Calls Try.prog 72 #[.slice (some ⟨g, 0, none⟩) N cap, .int .i64 (2 * (k : Int) + 1 + 1), .int .i64 (2 * (k : Int) + 1)] wr fun e w' => e = .returned (.bool true) ∧ Below wr.heap.size wr w') := kept (by have h := HLess.out (2 * k + 2) (2 * k + 1) wr HS.out (by omega) (by omega); rw [hR, show ((2 * k + 2 : Nat) : Int) = 2 * (k : Int) + 1 + 1 by omega, show ((2 * k + 1 : Nat) : Int) = 2 * (k : Int) + 1 by omega] at h; exact h)
          have HKids : Kept (∀ i, 0 < i → i < n → par i = k → ltG (at_ l1 i) (at_ l1 (2 * k + 2)) = false) := kept (fun i h0 hi hp => by
            rcases par_two h0 hp with e | e <;> subst e; exact oG.asym hR; exact oG.irr _)
          have hL2 := fun wx hx => HLess.out (2 * k + 2) k wx hx (by omega) (by omega)
          rw [show ((2 * k + 2 : Nat) : Int) = 2 * (k : Int) + 1 + 1 by omega] at hL2
          have HL2 := kept hL2
          clear hL2
          cases hb : ltG (at_ l1 (2 * k + 2)) (at_ l1 k) with
          | false =>
            rw [hb] at HL2
            have HB := kept hb
            clear hb HLess
            go_wp2_with fail
            refine HL1.out.mono ?_
            rintro e w1 ⟨rfl, hb1⟩
            have HS1 := kept (HS.out.later hb1)
            have c1 : w1.cell? ⟨p, 0, none⟩ = some (.slice (some ⟨g, 0, none⟩) N cap) := HS1.out.hp.blk.cell rfl
            clear hb1
            go_wp2_with fail
            refine (HL2.out _ HS1.out).mono ?_
            rintro e w2 ⟨rfl, hb2⟩
            have HS2 := kept (HS1.out.later hb2)
            have c2 : w2.cell? ⟨p, 0, none⟩ = some (.slice (some ⟨g, 0, none⟩) N cap) := HS2.out.hp.blk.cell rfl
            clear hb2
            have HF : Kept (Heap ltG l1 n) := kept (down_done HS2.out.inv fun i h0 hi hp => oG.le HB.out (HKids.out i h0 hi hp))
            go_wp2_with fail
            go_ret
            exact ⟨_, l1, rfl, HS2.out.hp, HS2.out.len, HF.out, HS2.out.perm, HS2.out.far, HS2.out.chg⟩
          | true =>
            rw [hb] at HL2
            have HB := kept hb
            clear hb HLess
            go_wp2_with fail
            refine HL1.out.mono ?_
            rintro e w1 ⟨rfl, hb1⟩
            have HS1 := kept (HS.out.later hb1)
            have c1 : w1.cell? ⟨p, 0, none⟩ = some (.slice (some ⟨g, 0, none⟩) N cap) := HS1.out.hp.blk.cell rfl
            clear hb1
            go_wp2_with fail
            refine (HL2.out _ HS1.out).mono ?_
            rintro e w2 ⟨rfl, hb2⟩
            have HS2 := kept (HS1.out.later hb2)
            have c2 : w2.cell? ⟨p, 0, none⟩ = some (.slice (some ⟨g, 0, none⟩) N cap) := HS2.out.hp.blk.cell rfl
            clear hb2
            have HSw := kept (swap_calls g N cap l1 k (2 * k + 2) w2 HS2.out.row (by omega) (by omega))
            rw [show ((2 * k + 2 : Nat) : Int) = 2 * (k : Int) + 1 + 1 by omega] at HSw
            go_wp2_with fail
            refine HSw.out.mono ?_
            rintro e w3 ⟨rfl, ho3, hc3⟩
            have HS3 := kept (HS2.out.swap hn (by omega) (by omega) (par_r k) HB.out HKids.out ho3 hc3)
            clear ho3 hc3
            go_wp2_with fail
            go_roundw
            case rel => exact ⟨2 * k + 2, _, by congr 1, by omega, HS3.out⟩
            case measure => simp [intOf]; omega
        | false =>
          have HL1 : Kept (Calls Try.prog 72 #[.slice (some ⟨g, 0, none⟩) N cap, .int .i64 (2 * (k : Int) + 1 + 1), .int .i64 (2 * (k : Int) + 1)] wr fun e w' => e = .returned (.bool false) ∧ Below wr.heap.size wr w') := kept (by have h := HLess.out (2 * k + 2) (2 * k + 1) wr HS.out (by omega) (by omega); rw [hR, show ((2 * k + 2 : Nat) : Int) = 2 * (k : Int) + 1 + 1 by omega, show ((2 * k + 1 : Nat) : Int) = 2 * (k : Int) + 1 by omega] at h; exact h)
          have HKids : Kept (∀ i, 0 < i → i < n → par i = k → ltG (at_ l1 i) (at_ l1 (2 * k + 1)) = false) := kept (fun i h0 hi hp => by
            rcases par_two h0 hp with e | e <;> subst e; exact oG.irr _; exact hR)
          have hL2 := fun wx hx => HLess.out (2 * k + 1) k wx hx (by omega) (by omega)
          rw [show ((2 * k + 1 : Nat) : Int) = 2 * (k : Int) + 1 by omega] at hL2
          have HL2 := kept hL2
          clear hL2
          cases hb : ltG (at_ l1 (2 * k + 1)) (at_ l1 k) with
          | false =>
            rw [hb] at HL2
            have HB := kept hb
            clear hb HLess
            go_wp2_with fail
            refine HL1.out.mono ?_
            rintro e w1 ⟨rfl, hb1⟩
            have HS1 := kept (HS.out.later hb1)
            have c1 : w1.cell? ⟨p, 0, none⟩ = some (.slice (some ⟨g, 0, none⟩) N cap) := HS1.out.hp.blk.cell rfl
            clear hb1
            go_wp2_with fail
            refine (HL2.out _ HS1.out).mono ?_
            rintro e w2 ⟨rfl, hb2⟩
            have HS2 := kept (HS1.out.later hb2)
            have c2 : w2.cell? ⟨p, 0, none⟩ = some (.slice (some ⟨g, 0, none⟩) N cap) := HS2.out.hp.blk.cell rfl
            clear hb2
            have HF : Kept (Heap ltG l1 n) := kept (down_done HS2.out.inv fun i h0 hi hp => oG.le HB.out (HKids.out i h0 hi hp))
            go_wp2_with fail
            go_ret
            exact ⟨_, l1, rfl, HS2.out.hp, HS2.out.len, HF.out, HS2.out.perm, HS2.out.far, HS2.out.chg⟩
          | true =>
            rw [hb] at HL2
            have HB := kept hb
            clear hb HLess
            go_wp2_with fail
            refine HL1.out.mono ?_
            rintro e w1 ⟨rfl, hb1⟩
            have HS1 := kept (HS.out.later hb1)
            have c1 : w1.cell? ⟨p, 0, none⟩ = some (.slice (some ⟨g, 0, none⟩) N cap) := HS1.out.hp.blk.cell rfl
            clear hb1
            go_wp2_with fail
            refine (HL2.out _ HS1.out).mono ?_
            rintro e w2 ⟨rfl, hb2⟩
            have HS2 := kept (HS1.out.later hb2)
            have c2 : w2.cell? ⟨p, 0, none⟩ = some (.slice (some ⟨g, 0, none⟩) N cap) := HS2.out.hp.blk.cell rfl
            clear hb2
            have HSw := kept (swap_calls g N cap l1 k (2 * k + 1) w2 HS2.out.row (by omega) (by omega))
            rw [show ((2 * k + 1 : Nat) : Int) = 2 * (k : Int) + 1 by omega] at HSw
            go_wp2_with fail
            refine HSw.out.mono ?_
            rintro e w3 ⟨rfl, ho3, hc3⟩
            have HS3 := kept (HS2.out.swap hn (by omega) (by omega) (par_l k) HB.out HKids.out ho3 hc3)
            clear ho3 hc3
            go_wp2_with fail
            go_roundw
            case rel => exact ⟨2 * k + 1, _, by congr 1, by omega, HS3.out⟩
            case measure => simp [intOf]; omega
      · have hC2 : ¬ (2 * (k : Int) + 1 + 1) < (n : Int) := by omega
        have HKids : Kept (∀ i, 0 < i → i < n → par i = k → ltG (at_ l1 i) (at_ l1 (2 * k + 1)) = false) := kept (fun i h0 hi hp => by
          rcases par_two h0 hp with e | e; subst e; exact oG.irr _; omega)
        have hL2 := fun wx hx => HLess.out (2 * k + 1) k wx hx (by omega) (by omega)
        rw [show ((2 * k + 1 : Nat) : Int) = 2 * (k : Int) + 1 by omega] at hL2
        have HL2 := kept hL2
        clear hL2
        cases hb : ltG (at_ l1 (2 * k + 1)) (at_ l1 k) with
        | false =>
          rw [hb] at HL2
          have HB := kept hb
          clear hb HLess
          go_wp2_with fail
          refine (HL2.out _ HS.out).mono ?_
          rintro e w2 ⟨rfl, hb2⟩
          have HS2 := kept (HS.out.later hb2)
          have c2 : w2.cell? ⟨p, 0, none⟩ = some (.slice (some ⟨g, 0, none⟩) N cap) := HS2.out.hp.blk.cell rfl
          clear hb2
          have HF : Kept (Heap ltG l1 n) := kept (down_done HS2.out.inv fun i h0 hi hp => oG.le HB.out (HKids.out i h0 hi hp))
          go_wp2_with fail
          go_ret
          exact ⟨_, l1, rfl, HS2.out.hp, HS2.out.len, HF.out, HS2.out.perm, HS2.out.far, HS2.out.chg⟩
        | true =>
          rw [hb] at HL2
          have HB := kept hb
          clear hb HLess
          go_wp2_with fail
          refine (HL2.out _ HS.out).mono ?_
          rintro e w2 ⟨rfl, hb2⟩
          have HS2 := kept (HS.out.later hb2)
          have c2 : w2.cell? ⟨p, 0, none⟩ = some (.slice (some ⟨g, 0, none⟩) N cap) := HS2.out.hp.blk.cell rfl
          clear hb2
          have HSw := kept (swap_calls g N cap l1 k (2 * k + 1) w2 HS2.out.row (by omega) (by omega))
          rw [show ((2 * k + 1 : Nat) : Int) = 2 * (k : Int) + 1 by omega] at HSw
          go_wp2_with fail
          refine HSw.out.mono ?_
          rintro e w3 ⟨rfl, ho3, hc3⟩
          have HS3 := kept (HS2.out.swap hn (by omega) (by omega) (par_l k) HB.out HKids.out ho3 hc3)
          clear ho3 hc3
          go_wp2_with fail
          go_roundw
          case rel => exact ⟨2 * k + 1, _, by congr 1, by omega, HS3.out⟩
          case measure => simp [intOf]; omega
end Go.Proofs.Ytbldocbijihpgaa.NormH

-- ---- Heh
/- The library's heap: Push and Pop. -/
namespace Go.Proofs.Ytbldocbijihpgaa.HistH
set_option linter.unusedSimpArgs false
set_option linter.unusedVariables false
open Go.RowKit Mix _root_.Go.Proofs.Ytbldocbijihpgaa.Own Ol Hp
attribute [local go_sem] Own.max_int Own.min_int
attribute [local go_sem] method_len method_less method_swap method_push method_pop

theorem hlen_calls (a : Option Addr) (n cap : Nat) (w : World) : Calls Try.prog 39 #[.slice a n cap] w fun e w' => e = .returned (.int .i64 (n : Int)) ∧ Below w.heap.size w w' := by
  go_enter Try.func39, Try.ntmps39
  go_wp2_with fail
  go_ret
  exact ⟨rfl, Below.refl _ _⟩

set_option maxHeartbeats 4000000 in
theorem hpush_calls (p : Nat) (v : Value) (l : List (Int × Int)) (a1 a2 : Int) (w : World) (h : IsHp w p v l) (hl : l.length < 1000000) (hh : Heap ltG l l.length) :
    Calls Try.prog 38 #[.iface 73 (.pointer (some ⟨p, 0, none⟩)), .iface 78 (.agg #[.int .i64 a1, .int .i64 a2])] w fun e w' => e = .returned (.tuple #[]) ∧
      ∃ v' l', IsHp w' p v' l' ∧ Heap ltG l' l'.length ∧ l'.Perm (l ++ [(a1, a2)]) ∧ Chg (fun b => b = p ∨ some b = v.ownBlock) w w' ∧ ∀ g, v'.ownBlock = some g → some g = v.ownBlock ∨ w.heap.size ≤ g := by
  have H := kept h
  have HHe := kept hh
  clear h hh
  go_enter Try.func38, Try.ntmps38
  go_wp2_with fail
  refine (push_calls p v l a1 a2 _ H.out (by omega)).mono ?_
  rintro e w1 ⟨rfl, v1, h1, hc1, hf1⟩
  have hl1 : (l ++ [(a1, a2)]).length = l.length + 1 := by simp
  obtain ⟨g, cap, rfl, _, _, hgp, hgl⟩ := h1.row0 (by omega)
  rw [hl1] at h1 hf1
  have c1 : w1.cell? ⟨p, 0, none⟩ = some (.slice (some ⟨g, 0, none⟩) (l.length + 1) cap) := by
    have := h1.blk.cell (i := 0) rfl
    exact this
  have hup := fun w1b (hb : Below w1.heap.size w1 w1b) => up_calls p g (l.length + 1) cap (l ++ [(a1, a2)]) l.length w1b (h1.later hb) hl1 (by omega) (by omega) (up_start HHe.out)
  have HUp := kept hup
  have HC1 := kept hc1
  have HF1 := kept (hf1 g rfl)

  clear hup hc1 hf1 h1
  go_wp2_with (first | (go_at_call 39; refine (hlen_calls _ _ _ _).mono ?_; rintro e w1b ⟨rfl, hbl⟩; have HC1b := kept (HC1.out.trans (Chg.of_below (S := fun _ => False) hbl) (fun _ _ h => h.elim)); have HUpb := HUp.out w1b hbl; clear hbl) | (go_at_call 45; refine HUpb.mono ?_; rintro e w2 ⟨rfl, l', h2, hl2, hh2, hp2, hc2⟩; have H2 := kept h2; have HL2 := kept hl2; have HH2 := kept hh2; have HP2 := kept hp2; have HC2 := kept hc2; clear h2 hl2 hh2 hp2 hc2))
  go_end0
  refine ⟨rfl, _, l', H2.out, by rw [HL2.out]; exact HH2.out, HP2.out, HC1b.out.trans HC2.out (fun b hb h => ?_), ?_⟩
  · subst h
    rcases HF1.out with h | h
    · exact .inr h
    · omega
  · intro g' hg'
    simp only [Value.ownBlock, Option.map_some, Option.some.injEq] at hg'
    rw [← hg']; exact HF1.out

set_option maxHeartbeats 4000000 in
theorem hpop_calls (p g n cap : Nat) (l : List (Int × Int)) (w : World) (h : IsHp w p (.slice (some ⟨g, 0, none⟩) (n + 1) cap) l) (hn : l.length = n + 1) (hl : n < 1000000) (hh : Heap ltG l (n + 1)) :
    Calls Try.prog 40 #[.iface 73 (.pointer (some ⟨p, 0, none⟩))] w fun e w' => e = .returned (.iface 78 (.agg #[.int .i64 (at_ l 0).1, .int .i64 (at_ l 0).2])) ∧
      ∃ l', IsHp w' p (.slice (some ⟨g, 0, none⟩) n cap) l' ∧ l'.length = n ∧ Heap ltG l' n ∧ l.Perm (at_ l 0 :: l') ∧ (∀ y ∈ l', ltG y (at_ l 0) = false) ∧ Chg (fun b => b = p ∨ b = g) w w' := by
  have hgp : g ≠ p := fun e => h.ne (by simp [Value.ownBlock, e])
  have H := kept h
  have HHe := kept hh
  have HN := kept hn
  have c0 : w.cell? ⟨p, 0, none⟩ = some (.slice (some ⟨g, 0, none⟩) (n + 1) cap) := h.blk.cell rfl
  have hrow : OwnK w 78 2 (.slice (some ⟨g, 0, none⟩) (n + 1) cap) (n + 1) (fl l) := by have := h.row; rw [hn] at this; exact this
  have HSw0 := kept (fun w0 (hb : Below w.heap.size w w0) => swap_calls g (n + 1) cap l 0 n w0 (hrow.later hb) (by omega) (by omega))

  clear h hh hn hrow
  go_enter Try.func40, Try.ntmps40
  go_wp2_with (first | (go_at_call 39; refine (hlen_calls _ _ _ _).mono ?_; rintro e w0 ⟨rfl, hbl⟩; have H0 := kept (H.out.later hbl); have HC0 := kept (Chg.of_below (S := fun b => b = p ∨ b = g) hbl); have HSw := kept (HSw0.out w0 hbl); have c00 : w0.cell? ⟨p, 0, none⟩ = some (.slice (some ⟨g, 0, none⟩) (n + 1) cap) := H0.out.blk.cell rfl; clear hbl)
                     | (go_at_call 70; refine HSw.out.mono ?_; rintro e w1 ⟨rfl, ho1, hc1⟩
                        have H1 : Kept (IsHp w1 p (.slice (some ⟨g, 0, none⟩) (n + 1) cap) (swapL l 0 n)) := kept ⟨hc1.keep H0.out.blk (fun e => H0.out.ne (by simp [Value.ownBlock, e])), by rw [length_swapL, HN.out]; exact ho1⟩
                        have HC1 := kept (HC0.out.trans hc1 (fun _ _ h => .inr h))
                        have c1 : w1.cell? ⟨p, 0, none⟩ = some (.slice (some ⟨g, 0, none⟩) (n + 1) cap) := H1.out.blk.cell rfl
                        have HDn := kept (down_calls p g (n + 1) cap n (swapL l 0 n) 0 w1 H1.out (by rw [length_swapL]; exact HN.out) (by omega) (by omega) (by omega) (pop_start HN.out HHe.out))
                        clear ho1 hc1)
                     | (go_at_call 46; refine HDn.out.mono ?_; rintro e w2 ⟨b, l2, rfl, h2, hl2, hh2, hp2, hf2, hc2⟩
                        have HPop := kept (pop_calls p g n cap l2 w2 h2 hl2 (by omega))
                        have HH2 := kept hh2
                        have HP2 : Kept (l2.Perm l) := kept (hp2.trans (perm_swap l 0 n (by rw [HN.out]; omega) (by rw [HN.out]; omega)))
                        have HF2 : Kept (at_ l2 n = at_ l 0) := kept (by rw [hf2 n (Nat.le_refl _), at_swap l 0 n n (by rw [HN.out]; omega) (by rw [HN.out]; omega), if_pos rfl])
                        have HC2 := kept hc2
                        have HL2 := kept hl2
                        clear h2 hl2 hh2 hp2 hf2 hc2)
                     | (go_at_call 68; refine HPop.out.mono ?_; rintro e w3 ⟨rfl, h3, hc3⟩; have H3 := kept h3; have HC3 := kept hc3; clear h3 hc3))
  go_ret
  obtain ⟨h1, h2⟩ := pop_end oG HN.out HHe.out HP2.out HF2.out
  rw [HF2.out] at h1 h2 ⊢
  refine ⟨rfl, l2.take n, H3.out, by rw [List.length_take, HL2.out]; omega, heap_take HH2.out, h1, h2, ?_⟩
  exact (HC1.out.trans HC2.out (fun _ _ h => .inr h)).trans HC3.out (fun _ _ h => .inl h)
end Go.Proofs.Ytbldocbijihpgaa.HistH

-- ---- Hen
/- The library's heap: Push and Pop. -/
namespace Go.Proofs.Ytbldocbijihpgaa.NormH
set_option linter.unusedSimpArgs false
set_option linter.unusedVariables false
open Go.RowKit Mix _root_.Go.Proofs.Ytbldocbijihpgaa.Own Ol Hp
attribute [local go_sem] Own.max_int Own.min_int
attribute [local go_sem] method_len method_less method_swap method_push method_pop

theorem hlen_calls (a : Option Addr) (n cap : Nat) (w : World) : Calls Try.prog 71 #[.slice a n cap] w fun e w' => e = .returned (.int .i64 (n : Int)) ∧ Below w.heap.size w w' := by
  go_enter Try.func71, Try.ntmps71
  go_wp2_with fail
  go_ret
  exact ⟨rfl, Below.refl _ _⟩

set_option maxHeartbeats 4000000 in
theorem hpush_calls (p : Nat) (v : Value) (l : List (Int × Int)) (a1 a2 : Int) (w : World) (h : IsHp w p v l) (hl : l.length < 1000000) (hh : Heap ltG l l.length) :
    Calls Try.prog 38 #[.iface 82 (.pointer (some ⟨p, 0, none⟩)), .iface 86 (.agg #[.int .i64 a1, .int .i64 a2])] w fun e w' => e = .returned (.tuple #[]) ∧
      ∃ v' l', IsHp w' p v' l' ∧ Heap ltG l' l'.length ∧ l'.Perm (l ++ [(a1, a2)]) ∧ Chg (fun b => b = p ∨ some b = v.ownBlock) w w' ∧ ∀ g, v'.ownBlock = some g → some g = v.ownBlock ∨ w.heap.size ≤ g := by
  have H := kept h
  have HHe := kept hh
  clear h hh
  go_enter Try.func38, Try.ntmps38
  go_wp2_with fail
  refine (push_calls p v l a1 a2 _ H.out (by omega)).mono ?_
  rintro e w1 ⟨rfl, v1, h1, hc1, hf1⟩
  have hl1 : (l ++ [(a1, a2)]).length = l.length + 1 := by simp
  obtain ⟨g, cap, rfl, _, _, hgp, hgl⟩ := h1.row0 (by omega)
  rw [hl1] at h1 hf1
  have c1 : w1.cell? ⟨p, 0, none⟩ = some (.slice (some ⟨g, 0, none⟩) (l.length + 1) cap) := by
    have := h1.blk.cell (i := 0) rfl
    exact this
  have hup := fun w1b (hb : Below w1.heap.size w1 w1b) => up_calls p g (l.length + 1) cap (l ++ [(a1, a2)]) l.length w1b (h1.later hb) hl1 (by omega) (by omega) (up_start HHe.out)
  have HUp := kept hup
  have HC1 := kept hc1
  have HF1 := kept (hf1 g rfl)

  clear hup hc1 hf1 h1
  go_wp2_with (first | (go_at_call 71; refine (hlen_calls _ _ _ _).mono ?_; rintro e w1b ⟨rfl, hbl⟩; have HC1b := kept (HC1.out.trans (Chg.of_below (S := fun _ => False) hbl) (fun _ _ h => h.elim)); have HUpb := HUp.out w1b hbl; clear hbl) | (go_at_call 45; refine HUpb.mono ?_; rintro e w2 ⟨rfl, l', h2, hl2, hh2, hp2, hc2⟩; have H2 := kept h2; have HL2 := kept hl2; have HH2 := kept hh2; have HP2 := kept hp2; have HC2 := kept hc2; clear h2 hl2 hh2 hp2 hc2))
  go_end0
  refine ⟨rfl, _, l', H2.out, by rw [HL2.out]; exact HH2.out, HP2.out, HC1b.out.trans HC2.out (fun b hb h => ?_), ?_⟩
  · subst h
    rcases HF1.out with h | h
    · exact .inr h
    · omega
  · intro g' hg'
    simp only [Value.ownBlock, Option.map_some, Option.some.injEq] at hg'
    rw [← hg']; exact HF1.out

set_option maxHeartbeats 4000000 in
theorem hpop_calls (p g n cap : Nat) (l : List (Int × Int)) (w : World) (h : IsHp w p (.slice (some ⟨g, 0, none⟩) (n + 1) cap) l) (hn : l.length = n + 1) (hl : n < 1000000) (hh : Heap ltG l (n + 1)) :
    Calls Try.prog 40 #[.iface 82 (.pointer (some ⟨p, 0, none⟩))] w fun e w' => e = .returned (.iface 86 (.agg #[.int .i64 (at_ l 0).1, .int .i64 (at_ l 0).2])) ∧
      ∃ l', IsHp w' p (.slice (some ⟨g, 0, none⟩) n cap) l' ∧ l'.length = n ∧ Heap ltG l' n ∧ l.Perm (at_ l 0 :: l') ∧ (∀ y ∈ l', ltG y (at_ l 0) = false) ∧ Chg (fun b => b = p ∨ b = g) w w' := by
  have hgp : g ≠ p := fun e => h.ne (by simp [Value.ownBlock, e])
  have H := kept h
  have HHe := kept hh
  have HN := kept hn
  have c0 : w.cell? ⟨p, 0, none⟩ = some (.slice (some ⟨g, 0, none⟩) (n + 1) cap) := h.blk.cell rfl
  have hrow : OwnK w 86 2 (.slice (some ⟨g, 0, none⟩) (n + 1) cap) (n + 1) (fl l) := by have := h.row; rw [hn] at this; exact this
  have HSw0 := kept (fun w0 (hb : Below w.heap.size w w0) => swap_calls g (n + 1) cap l 0 n w0 (hrow.later hb) (by omega) (by omega))

  clear h hh hn hrow
  go_enter Try.func40, Try.ntmps40
  go_wp2_with (first | (go_at_call 71; refine (hlen_calls _ _ _ _).mono ?_; rintro e w0 ⟨rfl, hbl⟩; have H0 := kept (H.out.later hbl); have HC0 := kept (Chg.of_below (S := fun b => b = p ∨ b = g) hbl); have HSw := kept (HSw0.out w0 hbl); have c00 : w0.cell? ⟨p, 0, none⟩ = some (.slice (some ⟨g, 0, none⟩) (n + 1) cap) := H0.out.blk.cell rfl; clear hbl)
                     | (go_at_call 75; refine HSw.out.mono ?_; rintro e w1 ⟨rfl, ho1, hc1⟩
                        have H1 : Kept (IsHp w1 p (.slice (some ⟨g, 0, none⟩) (n + 1) cap) (swapL l 0 n)) := kept ⟨hc1.keep H0.out.blk (fun e => H0.out.ne (by simp [Value.ownBlock, e])), by rw [length_swapL, HN.out]; exact ho1⟩
                        have HC1 := kept (HC0.out.trans hc1 (fun _ _ h => .inr h))
                        have c1 : w1.cell? ⟨p, 0, none⟩ = some (.slice (some ⟨g, 0, none⟩) (n + 1) cap) := H1.out.blk.cell rfl
                        have HDn := kept (down_calls p g (n + 1) cap n (swapL l 0 n) 0 w1 H1.out (by rw [length_swapL]; exact HN.out) (by omega) (by omega) (by omega) (pop_start HN.out HHe.out))
                        clear ho1 hc1)
                     | (go_at_call 46; refine HDn.out.mono ?_; rintro e w2 ⟨b, l2, rfl, h2, hl2, hh2, hp2, hf2, hc2⟩
                        have HPop := kept (pop_calls p g n cap l2 w2 h2 hl2 (by omega))
                        have HH2 := kept hh2
                        have HP2 : Kept (l2.Perm l) := kept (hp2.trans (perm_swap l 0 n (by rw [HN.out]; omega) (by rw [HN.out]; omega)))
                        have HF2 : Kept (at_ l2 n = at_ l 0) := kept (by rw [hf2 n (Nat.le_refl _), at_swap l 0 n n (by rw [HN.out]; omega) (by rw [HN.out]; omega), if_pos rfl])
                        have HC2 := kept hc2
                        have HL2 := kept hl2
                        clear h2 hl2 hh2 hp2 hf2 hc2)
                     | (go_at_call 73; refine HPop.out.mono ?_; rintro e w3 ⟨rfl, h3, hc3⟩; have H3 := kept h3; have HC3 := kept hc3; clear h3 hc3))
  go_ret
  obtain ⟨h1, h2⟩ := pop_end oG HN.out HHe.out HP2.out HF2.out
  rw [HF2.out] at h1 h2 ⊢
  refine ⟨rfl, l2.take n, H3.out, by rw [List.length_take, HL2.out]; omega, heap_take HH2.out, h1, h2, ?_⟩
  exact (HC1.out.trans HC2.out (fun _ _ h => .inr h)).trans HC3.out (fun _ _ h => .inl h)
end Go.Proofs.Ytbldocbijihpgaa.NormH

-- ---- Hfn
/- The library's heap: Fix at the top. -/
namespace Go.Proofs.Ytbldocbijihpgaa.NormH
set_option linter.unusedSimpArgs false
set_option linter.unusedVariables false
open Go.RowKit Mix _root_.Go.Proofs.Ytbldocbijihpgaa.Own Ol Hp
attribute [local go_sem] Own.max_int Own.min_int
attribute [local go_sem] method_len method_less method_swap method_push method_pop

set_option maxHeartbeats 4000000 in
theorem hfix_calls (p g n cap : Nat) (l : List (Int × Int)) (w : World) (h : IsHp w p (.slice (some ⟨g, 0, none⟩) n cap) l) (hn : l.length = n) (hnb : n ≤ 1000000) (h1 : 0 < n) (hu : DownInv ltG l n 0) :
    Calls Try.prog 41 #[.iface 82 (.pointer (some ⟨p, 0, none⟩)), .int .i64 0] w fun e w' => e = .returned (.tuple #[]) ∧
      ∃ l', IsHp w' p (.slice (some ⟨g, 0, none⟩) n cap) l' ∧ l'.length = n ∧ Heap ltG l' n ∧ l'.Perm l ∧ Chg (fun b => b = g) w w' := by
  have H := kept h
  have HN := kept hn
  have HU := kept hu
  have c0 : w.cell? ⟨p, 0, none⟩ = some (.slice (some ⟨g, 0, none⟩) n cap) := h.blk.cell rfl
  clear h hu hn
  go_enter Try.func41, Try.ntmps41
  go_wp2_with (first | (go_at_call 71; refine (hlen_calls _ _ _ _).mono ?_; rintro e w0 ⟨rfl, hbl⟩; have H0 := kept (H.out.later hbl); have HC0 := kept (Chg.of_below (S := fun b => b = g) hbl); have HDn := kept (down_calls p g n cap n l 0 w0 H0.out HN.out (by omega) (Nat.le_refl _) (by omega) HU.out); clear hbl)
                     | (go_at_call 46; refine HDn.out.mono ?_; rintro e w2 ⟨b, l2, rfl, h2, hl2, hh2, hp2, hf2, hc2⟩
                        have H2 := kept h2
                        have HH2 := kept hh2
                        have HP2 := kept hp2
                        have HC2 := kept (HC0.out.trans hc2 (fun _ _ h => h))
                        have HL2 := kept hl2
                        have HUp := kept (up_calls p g n cap l2 0 w2 h2 hl2 (by omega) h1 ⟨fun i h0 hi _ => hh2 i h0 hi, fun i h0 => absurd h0 (Nat.lt_irrefl 0)⟩)
                        clear h2 hl2 hh2 hp2 hf2 hc2)
                     | (go_at_call 45; refine HUp.out.mono ?_; rintro e w3 ⟨rfl, l3, h3, hl3, hh3, hp3, hc3⟩; have H3 := kept h3; have HL3 := kept hl3; have HH3 := kept hh3; have HP3 := kept hp3; have HC3 := kept hc3; clear h3 hl3 hh3 hp3 hc3))
  · go_end0
    exact ⟨rfl, l3, H3.out, HL3.out, HH3.out, HP3.out.trans HP2.out, HC2.out.trans HC3.out (fun _ _ h => h)⟩
  · go_end0
    exact ⟨rfl, l2, H2.out, HL2.out, HH2.out, HP2.out, HC2.out⟩
end Go.Proofs.Ytbldocbijihpgaa.NormH

-- ---- Ro
/- The document's order of places. -/
namespace Go.Proofs.Ytbldocbijihpgaa
set_option linter.unusedSimpArgs false
set_option linter.unusedVariables false
open Go.RowKit Mix _root_.Go.Proofs.Ytbldocbijihpgaa.Own Ol
attribute [local go_sem] max_int min_int

theorem infoI64 : (Try.prog.info? 3).map (fun i => (i.zero, i.size, i.bytes)) = some (some (.int .i64 0), 1, 8) := by kernel_rfl
theorem info_partsI {i : Option TypeInfo} {z : Value} {s b : Nat} (h : i.map (fun i => (i.zero, i.size, i.bytes)) = some (some z, s, b)) : ∃ i0, i = some i0 ∧ i0.zero = some z ∧ i0.size = s ∧ i0.bytes = b := by
  cases i with
  | none => simp at h
  | some i => simp at h; exact ⟨i, rfl, h.1, h.2.1, h.2.2⟩

/-- Places as values. -/
def idx (l : List Nat) : List Value := l.map fun i : Nat => .int .i64 (i : Int)
@[simp] theorem length_idx (l : List Nat) : (idx l).length = l.length := by simp [idx]
theorem idx_at (l : List Nat) (i : Nat) (h : i < l.length) : (idx l)[i]? = some (.int .i64 ((l.getD i 0 : Nat) : Int)) := by
  simp [idx, List.getD_eq_getElem?_getD, h]
theorem idx_drop (l : List Nat) (k : Nat) : idx (l.drop k) = (idx l).drop k := by simp [idx, List.map_drop]
theorem idx_take (l : List Nat) (k : Nat) : idx (l.take k) = (idx l).take k := by simp [idx, List.map_take]
theorem one_idx (l : List Nat) : ∀ u ∈ idx l, u.oneCell' = true := by
  intro u hu; obtain ⟨n, _, rfl⟩ := List.mem_map.1 hu; rfl

/-- What holds of the row of places, on the way. -/
structure RowO (B : Nat) (w wr : World) (v : Value) (l : List Nat) : Prop where
  own : Owns wr 3 v (idx l)
  new : ∀ g, v.ownBlock = some g → B ≤ g
  low : Below B w wr

theorem rd_cap {w : World} {a : Option Addr} {n c : Nat} {xs : List Value} (h : Rd w (.slice a n c) xs) (c' : Nat) (h1 : n ≤ c') (h2 : c' ≤ maxLen) : Rd w (.slice a n c') xs := by
  obtain ⟨_, _, hv, h3, h4, hc⟩ := h
  simp only [Value.slice.injEq] at hv
  obtain ⟨rfl, rfl, rfl⟩ := hv
  exact ⟨_, _, rfl, h1, h2, hc⟩
/-- What stands ahead of a place, full; what stands from a place on. -/
theorem row_parts {w : World} {a : Option Addr} {cap : Nat} {o : List Nat} (h : Owns w 3 (.slice a o.length cap) (idx o)) (k : Nat) (hk : k ≤ o.length) :
    Rd w (.slice a k k) (idx (o.take k)) ∧ Rd w (.slice (if cap = k then a else a.map fun x => x.add k) (o.length - k) (cap - k)) (idx (o.drop k)) ∧ ((if cap = k then a else a.map fun x => x.add k) = none → cap - k = 0) := by
  have hr := h.rd
  have hcm : o.length ≤ cap ∧ cap ≤ maxLen ∧ (a = none → cap = 0) := by
    rcases h.form with ⟨hv, hx⟩ | ⟨g, cap', cur, hv, _, h1, h2, _⟩
    · simp only [Value.slice.injEq] at hv; obtain ⟨rfl, h0, rfl⟩ := hv; rw [h0]; exact ⟨Nat.le_refl _, Nat.zero_le _, fun _ => rfl⟩
    · simp only [Value.slice.injEq, length_idx] at hv h1; obtain ⟨rfl, _, rfl⟩ := hv; exact ⟨h1, h2, fun e => by cases e⟩
  refine ⟨?_, ?_, fun e => ?_⟩
  · have := hr.take k hk
    rw [← idx_take] at this
    exact rd_cap this k (Nat.le_refl _) (by omega)
  · have := hr.sub k (o.length - k) (by omega)
    rw [← idx_drop, show k + (o.length - k) - k = o.length - k by omega] at this
    rwa [List.take_of_length_le (by simp)] at this
  · split at e
    · omega
    · cases a with
      | none => have := hcm.2.2 rfl; omega
      | some x => cases e

set_option maxHeartbeats 8000000 in
theorem rorder_calls (a : Option Addr) (n c : Nat) (l : List Int) (w : World) (hR : Rd w (.slice a n n) (ints .i64 l)) (hn : n ≤ 100000) :
    Calls Try.prog 29 #[.slice a n c] w fun e w' => ∃ v, e = .returned v ∧ RowO w.heap.size w w' v (ordL l) := by
  have hln : l.length = n := by have := hR.length; rw [length_ints] at this; exact this.symm
  obtain ⟨i0, hi, hz0, hz1, hz2⟩ := info_partsI infoI64
  have HR := kept hR
  have HL := kept hln
  have HN := kept hn
  obtain ⟨B, hB⟩ : ∃ B, B = w.heap.size := ⟨_, rfl⟩
  rw [← hB]
  have HB := kept hB
  clear hR hln hn hB
  go_enter Try.func29, Try.ntmps29
  go_wp2_with fail
  go_loopw [3, 4] (fun s3 s4 wr => ∃ i : Nat, i ≤ n ∧ s4 = .int .i64 (i : Int) ∧ ∃ v3, v3 = s3 ∧ RowO B w wr v3 (ordN l i)) (fun s3 s4 _ => n - (intOf s4).toNat)
  case atStart => exact ⟨0, Nat.zero_le _, rfl, _, rfl, Owns.nil _ _, fun g hg => by simp [Value.ownBlock] at hg, by have := HB.out; subst this; exact Below.refl _ _⟩
  case round =>
    obtain ⟨i, hi2, rfl, v3, rfl, hro⟩ := hrel
    obtain ⟨wo, rfl⟩ : ∃ wo, wo = wr := ⟨wr, rfl⟩
    have hn5 := HN.out
    have hlow := hro.low
    have hRd := HR.out.below hlow (by rw [HB.out]; exact HR.out.lt)
    by_cases hlt : i < n
    · have hil : i < l.length := by rw [HL.out]; exact hlt
      obtain ⟨x, rfl, hc⟩ := hRd.at (Own.ints_at .i64 l i hil)
      obtain ⟨y, hy⟩ : ∃ y, y = l.getD i 0 := ⟨_, rfl⟩
      rw [← hy] at hc
      have HRd := kept hRd
      have HRo := kept hro
      have HY := kept hy
      clear hRd hro hy hlow
      by_cases hpos : 0 < y
      · have p0 : ¬ y ≤ 0 := by omega
        obtain ⟨o, ho⟩ : ∃ o, o = ordN l i := ⟨_, rfl⟩
        rw [← ho] at HRo
        have hol : o.length ≤ i := by rw [ho]; exact length_ordN l i
        obtain ⟨a1, cap1, rfl, hrow⟩ := HRo.out.own.slice
        simp only [length_idx] at HRo ⊢
        have hcapm : cap1 ≤ maxLen ∧ o.length ≤ cap1 := by
          rcases HRo.out.own.form with ⟨hv, _⟩ | ⟨g, cap, cur, hv, _, h1, h2, _⟩
          · simp at hv; simp [hv]
          · simp at hv; rw [hv.2]; exact ⟨h2, by simpa using h1⟩
        simp only [maxLen] at hcapm
        have hmem : ∀ j, j ∈ o → j < i ∧ 0 < l.getD j 0 := fun j hj => by rw [ho] at hj; exact mem_ordN.1 hj
        have HO := kept ho
        have HM := kept hmem
        clear ho hmem hrow
        obtain ⟨hcm, hoc⟩ := hcapm
        go_wp2_with fail
        go_loopw [5] (fun s5 wq => ∃ k : Nat, k ≤ o.length ∧ s5 = .int .i64 (k : Int) ∧ Below wo.heap.size wo wq ∧ (∀ j ∈ o.drop k, l.getD j 0 < y)) (fun s5 _ => (intOf s5).toNat)
        case atStart => exact ⟨o.length, Nat.le_refl _, rfl, Below.refl _ _, by simp⟩
        case round =>
          obtain ⟨k, hk, rfl, hbq, hall⟩ := hrel
          obtain ⟨wq, rfl⟩ : ∃ wq, wq = wr := ⟨wr, rfl⟩
          have HBq := kept hbq
          have HRo2 : Kept (RowO B w wq (.slice a1 o.length cap1) o) := kept ⟨HRo.out.own.keep fun g _ hg => hbq.block g hg, HRo.out.new, HRo.out.low.trans (hbq.mono (by have h1 := HRo.out.low.size; have h2 := HB.out; omega))⟩
          have HRd2 := kept (HRd.out.later hbq)
          have HAll := kept hall
          have hcq : wq.cell? (x.add i) = some (.int .i64 y) := by rw [← hc]; exact hbq.cell (World.block_lt_of_cell? wo _ hc)
          clear hbq hall
          by_cases hk0 : 0 < k
          · have hkl : k - 1 < o.length := by omega
            obtain ⟨g1, rfl⟩ : ∃ g1, a1 = some ⟨g1, 0, none⟩ := by
              obtain ⟨a', cap', hv, hg⟩ := HRo2.out.own.slice
              simp at hv
              rw [hv.1]; exact hg (by intro e; have := congrArg List.length e; simp at this; rw [this] at hkl; simp at hkl)
            have hco := HRo2.out.own.cell (idx_at o (k - 1) hkl)
            obtain ⟨q, hq⟩ : ∃ q, q = o.getD (k - 1) 0 := ⟨_, rfl⟩
            rw [← hq] at hco
            have hqm : q ∈ o := by rw [hq, List.getD_eq_getElem?_getD, List.getElem?_eq_getElem hkl]; exact List.getElem_mem _
            have hqi := (HM.out q hqm).1
            have hql : q < l.length := by rw [HL.out]; omega
            obtain ⟨x2, hx2, hcz⟩ := HRd2.out.at (Own.ints_at .i64 l q hql)
            cases hx2
            obtain ⟨z, hz⟩ : ∃ z, z = l.getD q 0 := ⟨_, rfl⟩
            rw [← hz] at hcz
            have HQ := kept hq
            have HZ := kept hz
            obtain ⟨k1, hk1⟩ : ∃ k1, k = k1 + 1 := ⟨k - 1, by omega⟩
            subst hk1
            simp only [Nat.add_sub_cancel] at hco HQ hkl
            have l0 := lat_cell hco
            have l1 := lat_cell hcz
            have l2 := lat_cell hcq
            have e1 : ((k1 + 1 : Nat) : Int) - 1 = (k1 : Int) := by omega
            have hqn : q < n := by omega
            clear hq hz hqm hqi hql hco hcz hcq
            by_cases hzy : z < y
            · have hd : decide (z < y) = true := by simpa using hzy
              go_wp2_with fail
              refine wp_region_quietL (by kernel_rfl) (by kernel_rfl) ?_
              repeat (go_big_quiet_step (fail))
              refine wpQuiet_nil ?_
              intro nq
              have HB3 := kept (HBq.out.trans (nq.below.mono HBq.out.size))
              generalize nq.w = w3 at HB3 ⊢
              clear l0 l1 l2
              go_wp2_with fail
              go_roundw
              case rel =>
                refine ⟨k1, by omega, by go_num, HB3.out, fun j hj => ?_⟩
                rw [List.drop_eq_getElem_cons (by omega)] at hj
                rcases List.mem_cons.1 hj with rfl | hj
                · have h1 := HQ.out; have h2 := HZ.out
                  rw [List.getD_eq_getElem?_getD, List.getElem?_eq_getElem (by omega)] at h1
                  simp only [Option.getD_some] at h1
                  rw [← h1, ← h2]; exact hzy
                · exact HAll.out j hj
              case measure => simp [intOf]
            · have hd : decide (z < y) = false := by simpa using hzy
              have HE : Kept (ins l i o = o.take (k1 + 1) ++ i :: o.drop (k1 + 1)) := kept (by
                have hf : Fall l o := by rw [HO.out]; exact (ordN_spec l i).1
                refine ins_at hf (k1 + 1) hk (fun j hj => by rw [← HY.out]; exact HAll.out j hj) fun _ => ?_
                rw [Nat.add_sub_cancel, ← HQ.out, ← HZ.out, ← HY.out]; exact hzy)
              clear HAll HQ HZ hzy
              go_wp2_with fail
              refine wp_region_quietL (by kernel_rfl) (by kernel_rfl) ?_
              repeat (go_big_quiet_step (fail))
              refine wpQuiet_nil ?_
              intro nq
              have HRo3 : Kept (RowO B w nq.w (.slice (some ⟨g1, 0, none⟩) o.length cap1) o) := kept ⟨HRo2.out.own.keep fun g _ hg => nq.below.block g hg, HRo2.out.new, HRo2.out.low.trans (nq.below.mono (by have h1 := HRo2.out.low.size; have h2 := HB.out; omega))⟩
              generalize nq.w = w3 at HRo3 ⊢
              clear l0 l1 l2
              have hkc : k1 + 1 ≤ cap1 := by omega
              go_wp2_with fail
              refine wp_region_mixL [0,1,2,3] [4,6,7,8] [5,9,10,11] (by kernel_rfl) (by kernel_rfl) ?_
              intro K hK
              simp only [pick, List.filterMap_cons, List.filterMap_nil, List.getElem?_cons_zero, List.getElem?_cons_succ]
              repeat (show wpQuiet _ _ _ _ (_ :: _) _; go_big_quiet_step (fail))
              refine wpQuiet_nil ?_
              obtain ⟨hA, hBs, hnil⟩ := row_parts HRo3.out.own (k1 + 1) hk
              obtain ⟨A2, hA2⟩ : ∃ A2, A2 = (if cap1 = k1 + 1 then some (⟨g1, 0, none⟩ : Addr) else some (⟨g1, k1 + 1, none⟩ : Addr)) := ⟨_, rfl⟩
              have hA3 : (if cap1 = k1 + 1 then some (⟨g1, 0, none⟩ : Addr) else (some (⟨g1, 0, none⟩ : Addr)).map fun x => x.add (k1 + 1)) = A2 := by rw [hA2]; simp [Addr.add]
              rw [hA3] at hBs hnil
              rw [← hA2]
              clear hA3
              clear hA2
              generalize hwd : World.drew w3 = w4
              have HRo4 : Kept (RowO B w w4 (.slice (some ⟨g1, 0, none⟩) o.length cap1) o) := kept (by rw [← hwd]; exact ⟨HRo3.out.own, HRo3.out.new, HRo3.out.low.drew⟩)
              have HA : Kept (Rd w4 (.slice (some ⟨g1, 0, none⟩) (k1 + 1) (k1 + 1)) (idx (o.take (k1 + 1)))) := kept (by rw [← hwd]; exact hA)
              have HBs : Kept (Rd w4 (.slice A2 (o.length - (k1 + 1)) (cap1 - (k1 + 1))) (idx (o.drop (k1 + 1)))) := kept (by rw [← hwd]; exact hBs)
              have HNil := kept hnil
              clear hA hBs hnil hwd HRo3
              have hb5 : Below w4.heap.size w4 (w4.alloc (.cells #[.int .i64 (i : Int)] 3)) := (Below.refl _ _).alloc (Nat.le_refl _) _
              have hO5 : Owns (w4.alloc (.cells #[.int .i64 (i : Int)] 3)) 3 (.slice (some ⟨w4.heap.size, 0, none⟩) 1 1) [.int .i64 (i : Int)] :=
                Owns.mk (xs := [.int .i64 (i : Int)]) (Blk.fresh _ _ _) (Nat.le_refl _) (by simp [maxLen]) rfl rfl
              have HB5 := kept hb5
              have HO5 := kept hO5
              have HC5 : Kept (Rd (w4.alloc (.cells #[.int .i64 (i : Int)] 3)) (.slice A2 (o.length - (k1 + 1)) (cap1 - (k1 + 1))) (idx (o.drop (k1 + 1)))) := kept (HBs.out.later hb5)
              clear hb5 hO5
              show wpList _ _ _ [_, _, _, _] _ _
              go_wp2_with (first | (at_builtin; refine wpList_appRd rfl _ _ 24 rfl 3 i0 (.int .i64 0) 8 Try.underlying24 hi hz0 hz1 hz2 rfl _ _ rfl HO5.out A2 _ _ _ rfl HC5.out HNil.out (one_idx _) ?_ ?_ ?_) | fail)
              · simp [maxLen]; omega
              · simp; omega
              intro v6 w6 O6 C6 F6
              obtain ⟨a6, cap6, rfl, hg6⟩ := O6.slice
              have hsz5 : (w4.alloc (.cells #[.int .i64 (i : Int)] 3)).heap.size = w4.heap.size + 1 := by simp
              have hc46 : Chg (fun _ => False) w4 w6 := ((Chg.of_below (S := fun _ => False) HB5.out).trans C6 (fun b hb h => by
                simp [Value.ownBlock] at h; omega))
              have hb6 : Below w4.heap.size w4 w6 := hc46.below (Nat.le_refl _) (fun _ _ h => h)
              have HA6 := kept (HA.out.later hb6)
              have HR6 := kept O6.rd
              have HB6 := kept hb6
              have hl6 : (Value.int .i64 (i : Int) :: idx (o.drop (k1 + 1))).length = o.length - (k1 + 1) + 1 := by simp
              rw [hl6] at HR6 ⊢
              clear O6 C6 F6 hg6 hsz5 hc46 hb6 hl6
              go_wp2_with (first | (at_builtin; refine wpList_appFull rfl _ _ 24 rfl 3 i0 (.int .i64 0) 8 Try.underlying24 hi hz0 hz1 hz2 rfl (some ⟨g1, 0, none⟩) _ _ rfl HA6.out a6 _ _ _ rfl HR6.out (by omega) ?_ ?_ ?_) | fail)
              · simp [maxLen]; omega
              · omega
              intro v7 w7 O7 B7 F7
              have HO7 : Kept (RowO B w w7 v7 (ordN l (i + 1))) := kept (by
                have e1 : ordN l (i + 1) = o.take (k1 + 1) ++ i :: o.drop (k1 + 1) := by
                  rw [← HE.out, HO.out]; show (if _ then _ else _) = _; rw [if_pos (by rw [← HY.out]; exact hpos)]
                have h1 := HRo4.out.low.size
                have h2 := HB.out
                have h3 := HB6.out.size
                refine ⟨?_, fun g hg => by have := F7 g hg; omega, (HRo4.out.low.trans (HB6.out.mono (by omega))).trans (B7.mono (by omega))⟩
                rw [e1]; simpa [idx] using O7)
              clear O7 B7 F7
              go_wp2_with fail
              refine hK _ _ ?_
              go_wp2_with fail
              go_roundw
              case rel => exact ⟨i + 1, by omega, by go_num, _, rfl, HO7.out⟩
              case measure => simp [intOf]; omega
          · have hd : decide (0 < k) = false := by simp; omega
            have hkz : k = 0 := by omega
            subst hkz
            have HE : Kept (ins l i o = o.take 0 ++ i :: o.drop 0) := kept (by
                have hf : Fall l o := by rw [HO.out]; exact (ordN_spec l i).1
                refine ins_at hf 0 hk (fun j hj => by rw [← HY.out]; exact HAll.out j hj) fun h => ?_
                omega)
            clear HAll hk0 hd
            have hd : decide ((0 : Int) < ((0 : Nat) : Int)) = false := rfl
            go_wp2_with fail
            refine wp_region_quietL (by kernel_rfl) (by kernel_rfl) ?_
            repeat (go_big_quiet_step (fail))
            refine wpQuiet_nil ?_
            intro nq
            have HRo3 : Kept (RowO B w nq.w (.slice a1 o.length cap1) o) := kept ⟨HRo2.out.own.keep fun g _ hg => nq.below.block g hg, HRo2.out.new, HRo2.out.low.trans (nq.below.mono (by have h1 := HRo2.out.low.size; have h2 := HB.out; omega))⟩
            generalize nq.w = w3 at HRo3 ⊢
            clear hd
            have hkc : 0 ≤ cap1 := by omega
            go_wp2_with fail
            refine wp_region_mixL [0,1,2,3] [4,6,7,8] [5,9,10,11] (by kernel_rfl) (by kernel_rfl) ?_
            intro K hK
            simp only [pick, List.filterMap_cons, List.filterMap_nil, List.getElem?_cons_zero, List.getElem?_cons_succ]
            repeat (show wpQuiet _ _ _ _ (_ :: _) _; go_big_quiet_step (fail))
            refine wpQuiet_nil ?_
            have hA := (row_parts HRo3.out.own 0 hk).1
            have hBs : Rd w3 (.slice a1 o.length cap1) (idx (o.drop 0)) := by simpa using HRo3.out.own.rd
            have hnil : a1 = none → cap1 = 0 := fun e => by
              rcases HRo3.out.own.form with ⟨hv, _⟩ | ⟨g, cap', cur, hv, _⟩
              · simp only [Value.slice.injEq] at hv; exact hv.2.2
              · simp only [Value.slice.injEq] at hv; rw [e] at hv; cases hv.1
            generalize hwd : World.drew w3 = w4
            have HRo4 : Kept (RowO B w w4 (.slice a1 o.length cap1) o) := kept (by rw [← hwd]; exact ⟨HRo3.out.own, HRo3.out.new, HRo3.out.low.drew⟩)
            have HA : Kept (Rd w4 (.slice a1 (0) (0)) (idx (o.take (0)))) := kept (by rw [← hwd]; exact hA)
            have HBs : Kept (Rd w4 (.slice a1 o.length cap1) (idx (o.drop (0)))) := kept (by rw [← hwd]; exact hBs)
            have HNil := kept hnil
            clear hA hBs hnil hwd HRo3
            have hb5 : Below w4.heap.size w4 (w4.alloc (.cells #[.int .i64 (i : Int)] 3)) := (Below.refl _ _).alloc (Nat.le_refl _) _
            have hO5 : Owns (w4.alloc (.cells #[.int .i64 (i : Int)] 3)) 3 (.slice (some ⟨w4.heap.size, 0, none⟩) 1 1) [.int .i64 (i : Int)] :=
              Owns.mk (xs := [.int .i64 (i : Int)]) (Blk.fresh _ _ _) (Nat.le_refl _) (by simp [maxLen]) rfl rfl
            have HB5 := kept hb5
            have HO5 := kept hO5
            have HC5 : Kept (Rd (w4.alloc (.cells #[.int .i64 (i : Int)] 3)) (.slice a1 o.length cap1) (idx (o.drop (0)))) := kept (HBs.out.later hb5)
            clear hb5 hO5
            show wpList _ _ _ [_, _, _, _] _ _
            go_wp2_with (first | (at_builtin; refine wpList_appRd rfl _ _ 24 rfl 3 i0 (.int .i64 0) 8 Try.underlying24 hi hz0 hz1 hz2 rfl _ _ rfl HO5.out a1 _ _ _ rfl HC5.out HNil.out (one_idx _) ?_ ?_ ?_) | fail)
            · simp [maxLen]; omega
            · simp; omega
            intro v6 w6 O6 C6 F6
            obtain ⟨a6, cap6, rfl, hg6⟩ := O6.slice
            have hsz5 : (w4.alloc (.cells #[.int .i64 (i : Int)] 3)).heap.size = w4.heap.size + 1 := by simp
            have hc46 : Chg (fun _ => False) w4 w6 := ((Chg.of_below (S := fun _ => False) HB5.out).trans C6 (fun b hb h => by
              simp [Value.ownBlock] at h; omega))
            have hb6 : Below w4.heap.size w4 w6 := hc46.below (Nat.le_refl _) (fun _ _ h => h)
            have HA6 := kept (HA.out.later hb6)
            have HR6 := kept O6.rd
            have HB6 := kept hb6
            have hl6 : (Value.int .i64 (i : Int) :: idx o).length = o.length + 1 := by simp
            rw [hl6] at HR6 ⊢
            clear O6 C6 F6 hg6 hsz5 hc46 hb6 hl6
            go_wp2_with (first | (at_builtin; refine wpList_appFull rfl _ _ 24 rfl 3 i0 (.int .i64 0) 8 Try.underlying24 hi hz0 hz1 hz2 rfl a1 _ _ rfl HA6.out a6 _ _ _ rfl HR6.out (by omega) ?_ ?_ ?_) | fail)
            · simp [maxLen]; omega
            · omega
            intro v7 w7 O7 B7 F7
            have HO7 : Kept (RowO B w w7 v7 (ordN l (i + 1))) := kept (by
              have e1 : ordN l (i + 1) = o.take (0) ++ i :: o.drop (0) := by
                rw [← HE.out, HO.out]; show (if _ then _ else _) = _; rw [if_pos (by rw [← HY.out]; exact hpos)]
              have h1 := HRo4.out.low.size
              have h2 := HB.out
              have h3 := HB6.out.size
              refine ⟨?_, fun g hg => by have := F7 g hg; omega, (HRo4.out.low.trans (HB6.out.mono (by omega))).trans (B7.mono (by omega))⟩
              rw [e1]; simpa [idx] using O7)
            clear O7 B7 F7
            go_wp2_with fail
            refine hK _ _ ?_
            go_wp2_with fail
            go_roundw
            case rel => exact ⟨i + 1, by omega, by go_num, _, rfl, HO7.out⟩
            case measure => simp [intOf]; omega
      · have p0 : y ≤ 0 := by omega
        have HE : Kept (ordN l (i + 1) = ordN l i) := kept (by show (if _ then _ else _) = _; rw [if_neg (by rw [← HY.out]; exact hpos)])
        have HRo2 : Kept (RowO B w wo v3 (ordN l (i + 1))) := kept (by rw [HE.out]; exact HRo.out)
        go_wp2_with fail
        go_roundw
        case rel => exact ⟨i + 1, by omega, by go_num, _, rfl, HRo2.out⟩
        case measure => simp [intOf]; omega
    · have hin : i = n := by omega
      subst hin
      have HF : Kept (RowO B w wo v3 (ordL l)) := kept (by unfold ordL; rw [HL.out]; exact hro)
      clear hro hlow hRd
      go_wp2_with fail
      go_ret
      exact ⟨v3, rfl, HF.out⟩
end Go.Proofs.Ytbldocbijihpgaa

-- ---- Ho
/- The places of numbers above nought, the greatest first, by a heap. -/
namespace Go.Proofs.Ytbldocbijihpgaa.HistH
set_option linter.unusedSimpArgs false
set_option linter.unusedVariables false
open Go.RowKit Mix _root_.Go.Proofs.Ytbldocbijihpgaa.Own Ol Hp
attribute [local go_sem] Own.max_int Own.min_int

/-- What holds on the way: the heap's own memory lies behind B. -/
structure HpS (B : Nat) (w wr : World) (p : Nat) (v : Value) (lh : List (Int × Int)) : Prop where
  hp : IsHp wr p v lh
  heap : Heap ltG lh lh.length
  newp : B ≤ p
  new : ∀ g, v.ownBlock = some g → B ≤ g
  low : Below B w wr
theorem HpS.later {B : Nat} {w wr w' : World} {p : Nat} {v : Value} {lh : List (Int × Int)} (h : HpS B w wr p v lh) (hb : Below wr.heap.size wr w') (hB : B ≤ wr.heap.size) : HpS B w w' p v lh :=
  ⟨h.hp.later hb, h.heap, h.newp, h.new, h.low.trans (hb.mono hB)⟩

def lenOf : Value → Nat
  | .slice _ n _ => n
  | _ => 0

set_option maxHeartbeats 8000000 in
theorem horder_calls (a : Option Addr) (n c : Nat) (l : List Int) (w : World) (hR : Rd w (.slice a n n) (ints .i64 l)) (hn : n ≤ 100000) :
    Calls Try.prog 25 #[.slice a n c] w fun e w' => ∃ v, e = .returned v ∧ RowO w.heap.size w w' v (ordL l) := by
  have hln : l.length = n := by have := hR.length; rw [length_ints] at this; exact this.symm
  obtain ⟨i0, hi, hz0, hz1, hz2⟩ := info_partsI infoI64
  have HR := kept hR
  have HL := kept hln
  have HN := kept hn
  have hta := assertE
  obtain ⟨B, hB⟩ : ∃ B, B = w.heap.size := ⟨_, rfl⟩
  rw [← hB]
  have HB := kept hB
  clear hR hln hn hB
  go_enter Try.func25, Try.ntmps25
  go_wp2_with fail
  obtain ⟨p, hp⟩ : ∃ p, p = w.heap.size + 1 := ⟨_, rfl⟩
  rw [← hp]
  generalize hw0 : World.alloc (World.alloc w _) _ = w0
  have hS0 : HpS B w w0 p (.slice (some ⟨w.heap.size, 0, none⟩) 0 0) [] := by
    have e1 : (w.alloc (.cells #[] 78)).heap.size = p := by rw [hp]; simp
    refine ⟨⟨by rw [← hw0]; exact Blk.fresh_at _ p e1.symm _ _, rfl, .inr ⟨w.heap.size, 0, #[], rfl, Nat.zero_le _, by rw [← hw0]; exact (Blk.fresh w _ _).alloc _, Nat.le_refl _, by simp [maxLen], rfl, rfl⟩⟩, fun i _ h => absurd h (by simp), by rw [HB.out, hp]; omega, fun g hg => ?_, ?_⟩
    · simp [Value.ownBlock] at hg; rw [HB.out, hg]; exact Nat.le_refl _
    · rw [← hw0, HB.out]; exact ((Below.refl _ _).alloc (Nat.le_refl _) _).alloc (by rw [e1, hp]; omega) _
  have HS0 := kept hS0
  have HpK := kept hp
  clear hS0 hp hw0
  go_loopw [13] (fun s13 wr => ∃ (i : Nat) (v : Value) (lh : List (Int × Int)), i ≤ n ∧ s13 = .int .i64 (i : Int) ∧ HpS B w wr p v lh ∧ lh.Perm ((posL l i).map (pr l))) (fun s13 _ => n - (intOf s13).toNat)
  case atStart => exact ⟨0, _, [], Nat.zero_le _, rfl, HS0.out, List.Perm.refl _⟩
  case round =>
    obtain ⟨i, v, lh, hi2, rfl, hs, hpm⟩ := hrel
    obtain ⟨wo, rfl⟩ : ∃ wo, wo = wr := ⟨wr, rfl⟩
    have hn5 := HN.out
    have hlow := hs.low
    have hRd := HR.out.below hlow (by rw [HB.out]; exact HR.out.lt)
    by_cases hlt : i < n
    · have hil : i < l.length := by rw [HL.out]; exact hlt
      obtain ⟨x, rfl, hc⟩ := hRd.at (Own.ints_at .i64 l i hil)
      obtain ⟨y, hy⟩ : ∃ y, y = l.getD i 0 := ⟨_, rfl⟩
      rw [← hy] at hc
      have hlen : lh.length ≤ i := by have := hpm.length_eq; rw [List.length_map] at this; have := length_posL l i; omega
      have HS := kept hs
      have HPm := kept hpm
      have HY := kept hy
      clear hRd hs hpm hy hlow
      by_cases hpos : 0 < y
      · have p0 : ¬ y ≤ 0 := by omega
        have HPush := kept (hpush_calls p v lh (i : Int) y wo HS.out.hp (by omega) HS.out.heap)
        go_wp2_with fail
        refine HPush.out.mono ?_
        rintro e w1 ⟨rfl, v1, l1, h1, hh1, hp1, hc1, hf1⟩
        have HS1 : Kept (HpS B w w1 p v1 l1) := kept ⟨h1, hh1, HS.out.newp, fun g hg => (hf1 g hg).elim (fun h => HS.out.new g h.symm) (fun h => Nat.le_trans (HB.out ▸ HS.out.low.size) h), HS.out.low.trans (hc1.below (HB.out ▸ HS.out.low.size) (fun k hk h => by
          rcases h with h | h
          · have := HS.out.newp; omega
          · have := HS.out.new k h.symm; omega))⟩
        have HPm1 : Kept (l1.Perm ((posL l (i + 1)).map (pr l))) := kept (by
          rw [posL_succ, if_pos (by rw [← HY.out]; exact hpos), List.map_append]
          refine hp1.trans (HPm.out.append ?_)
          simp only [List.map_cons, List.map_nil, pr]; rw [← HY.out])
        clear h1 hh1 hp1 hc1 hf1
        go_wp2_with fail
        go_roundw
        case rel => exact ⟨i + 1, v1, l1, by omega, by go_num, HS1.out, HPm1.out⟩
        case measure => simp [intOf]; omega
      · have p0 : y ≤ 0 := by omega
        have HPm1 : Kept (lh.Perm ((posL l (i + 1)).map (pr l))) := kept (by
          rw [posL_succ, if_neg (by rw [← HY.out]; exact hpos), List.append_nil]; exact HPm.out)
        go_wp2_with fail
        go_roundw
        case rel => exact ⟨i + 1, v, lh, by omega, by go_num, HS.out, HPm1.out⟩
        case measure => simp [intOf]; omega
    · have hin : i = n := by omega
      subst hin
      have HS := kept hs
      have HPm : Kept (lh.Perm ((ordL l).map (pr l))) := kept (hpm.trans (by rw [← HL.out]; exact (pairs_perm l).symm))
      clear hs hpm hRd hlow
      go_wp2_with fail
      go_loopw [6] (fun s6 wq => ∃ (out rest : List Nat) (v1 : Value) (l1 : List (Int × Int)) (v6 : Value), ordL l = out ++ rest ∧ v6 = s6 ∧ HpS B w wq p v1 l1 ∧ (rest.map (pr l)).Perm l1 ∧ RowO B w wq v6 out) (fun s6 _ => i + 1 - lenOf s6)
      case atStart => exact ⟨[], ordL l, v, lh, _, rfl, rfl, HS.out, HPm.out.symm, Owns.nil _ _, fun g hg => by simp [Value.ownBlock] at hg, HS.out.low⟩
      case round =>
        obtain ⟨out, rest, v1, l1, v6, ho, rfl, hs, hpm, hro⟩ := hrel
        obtain ⟨wq, rfl⟩ : ∃ wq, wq = wr := ⟨wr, rfl⟩
        have hBq : B ≤ wq.heap.size := by rw [HB.out]; exact hs.low.size
        have hlen : rest.length = l1.length := by have := hpm.length_eq; rwa [List.length_map] at this
        have hlen2 : out.length + rest.length ≤ i := by have := length_ordL l; rw [ho, List.length_append, HL.out] at this; exact this
        cases rest with
        | nil =>
          have hnil : l1 = [] := List.length_eq_zero_iff.1 (by simpa using hlen.symm)
          subst hnil
          obtain ⟨av, cv, rfl, _⟩ := hs.hp.row.slice
          simp only [List.length_nil] at hs ⊢
          have c0 : wq.cell? ⟨p, 0, none⟩ = some (.slice av 0 cv) := hs.hp.blk.cell rfl
          have HF : Kept (RowO B w wq v6 (ordL l)) := kept (by rw [ho, List.append_nil]; exact hro)
          clear hs hpm hro ho hlen hlen2 HS HPm
          go_wp2_with (first | (go_at_call 39; refine (hlen_calls _ _ _ _).mono ?_; rintro e w1 ⟨rfl, hbl⟩
                                have HF1 : Kept (RowO B w w1 v6 (ordL l)) := kept ⟨HF.out.own.keep fun g _ hg => hbl.block g hg, HF.out.new, HF.out.low.trans (hbl.mono hBq)⟩
                                clear hbl))
          go_ret
          exact ⟨v6, rfl, HF1.out⟩
        | cons k rest =>
          simp only [List.length_cons] at hlen hlen2
          obtain ⟨g, cap, rfl, hnc, hcm, hgp, hgl⟩ := hs.hp.row0 (by omega)
          have hl1 : l1.length = rest.length + 1 := hlen.symm
          simp only [hl1] at hs hnc ⊢
          have c0 : wq.cell? ⟨p, 0, none⟩ = some (.slice (some ⟨g, 0, none⟩) (rest.length + 1) cap) := hs.hp.blk.cell rfl
          have hx : ∃ rest' : List (Int × Int), ((k :: rest).map (pr l)) = at_ l1 0 :: rest' ∧ ∀ l', l1.Perm (at_ l1 0 :: l') → (∀ y ∈ l', ltG y (at_ l1 0) = false) → rest'.Perm l' := by
            have hs1 : ((k :: rest).map (pr l)).Pairwise fun a b => ltG b a = false := by
              have := pairs_sorted l
              rw [ho, List.map_append] at this
              exact (List.pairwise_append.1 this).2.1
            have hat : ∀ y ∈ l1, ltG y (at_ l1 0) = false := by
              intro y hy
              obtain ⟨j, hj, rfl⟩ := List.mem_iff_getElem.1 hy
              rw [← at_lt l1 j hj]
              exact heap_min oG hs.heap j hj
            have hmem : at_ l1 0 ∈ l1 := by rw [at_lt l1 0 (by omega)]; exact List.getElem_mem _
            obtain ⟨l1', hl1'⟩ : ∃ l', l1.Perm (at_ l1 0 :: l') := ⟨l1.erase (at_ l1 0), List.perm_cons_erase hmem⟩
            obtain ⟨r', hr1, hr2⟩ := pop_head oG hs1 (hpm.trans hl1') (fun y hy => hat y (hl1'.mem_iff.2 (List.mem_cons_of_mem _ hy)))
            exact ⟨r', hr1, fun l' hp _ => hr2.trans ((List.perm_cons _).1 (hl1'.symm.trans hp))⟩
          obtain ⟨rest', hx1, hx2⟩ := hx
          simp only [List.map_cons, List.cons.injEq] at hx1
          obtain ⟨hk, rfl⟩ := hx1
          have hpos : (0 : Int) < ((rest.length + 1 : Nat) : Int) := by omega
          have HPop := kept (fun (w1 : World) (hb : Below wq.heap.size wq w1) => hpop_calls p g rest.length cap l1 w1 (hs.hp.later hb) hl1 (by omega) (by rw [← hl1]; exact hs.heap))
          have HX := kept hx2
          have HS := kept hs
          have HRo := kept hro
          have HO := kept ho
          have HK := kept hk
          have HBq := kept hBq
          clear hs hpm hro ho hlen hx2 hk HPm hBq
          have hax : ∃ ax ay, at_ l1 0 = (ax, ay) ∧ ax = (k : Int) := ⟨(k : Int), l.getD k 0, HK.out.symm, rfl⟩
          obtain ⟨ax, ay, hax, haxk⟩ := hax
          rw [hax] at HPop HX
          simp only at HPop
          subst haxk
          clear hax HK
          obtain ⟨a6, cap6, rfl, _⟩ := HRo.out.own.slice
          simp only [length_idx] at HRo ⊢
          go_wp2_with fail
          refine (hlen_calls _ _ _ _).mono ?_; rintro e w1 ⟨rfl, hbl⟩
          have HS1 := kept (HS.out.later hbl HBq.out)
          have HRo1 : Kept (RowO B w w1 (.slice a6 out.length cap6) out) := kept ⟨HRo.out.own.keep fun g _ hg => hbl.block g hg, HRo.out.new, HRo.out.low.trans (hbl.mono HBq.out)⟩
          have HPop1 := kept (HPop.out w1 hbl)
          have hB1 : B ≤ w1.heap.size := Nat.le_trans HBq.out hbl.size
          have HB1 := kept hB1
          clear hbl hB1
          go_wp2_with fail
          refine HPop1.out.mono ?_
          rintro e w2 ⟨rfl, l2, h2, hl2, hh2, hp2, hm2, hc2⟩
          have hb2 : Below B w1 w2 := hc2.below HB1.out (fun b hb h => by
            rcases h with rfl | rfl
            · have := HS.out.newp; omega
            · have := HS.out.new b rfl; omega)
          have HS2 : Kept (HpS B w w2 p (.slice (some ⟨g, 0, none⟩) rest.length cap) l2) := kept ⟨h2, by rw [hl2]; exact hh2, HS.out.newp, fun b hb => HS.out.new b hb, HS1.out.low.trans hb2⟩
          have HX2 := kept (HX.out l2 hp2 hm2)
          have HRo2 : Kept (RowO B w w2 (.slice a6 out.length cap6) out) := kept ⟨HRo1.out.own.chg hc2 (fun b hb h => by
            rcases h with rfl | rfl
            · exact HRo1.out.own.ne HS1.out.hp.blk (by decide) hb
            · exact HS1.out.hp.row.neO HRo1.out.own (by decide) hb rfl), HRo1.out.new, HRo1.out.low.trans hb2⟩
          have HB2 : Kept (B ≤ w2.heap.size) := kept (Nat.le_trans HB1.out hb2.size)
          clear h2 hl2 hh2 hp2 hm2 hc2 hb2
          obtain ⟨w3, hw3⟩ : ∃ w3, w3 = w2.alloc (.cells #[.int .i64 (k : Int), .int .i64 ay] 78) := ⟨_, rfl⟩
          have hb3 : Below w2.heap.size w2 w3 := by rw [hw3]; exact (Below.refl _ _).alloc (Nat.le_refl _) _
          have HRo3 : Kept (RowO B w w3 (.slice a6 out.length cap6) out) := kept ⟨HRo2.out.own.keep fun g _ hg => hb3.block g hg, HRo2.out.new, HRo2.out.low.trans (hb3.mono HB2.out)⟩
          have HS3 := kept (HS2.out.later hb3 HB2.out)
          have HB3 : Kept (B ≤ w3.heap.size) := kept (Nat.le_trans HB2.out hb3.size)
          rw [hw3] at HRo3 HS3 HB3
          clear hb3 hw3
          have hl6 : out.length + 1 ≤ i := by omega
          have hl7 : i ≤ 100000 := HN.out
          go_wp2_with (first | (at_builtin; go_loud (refine wpList_app1 rfl _ _ 24 rfl 3 i0 (.int .i64 0) 8 Try.underlying24 hi hz0 hz1 hz2 rfl (.slice a6 out.length cap6) _ (.int .i64 (k : Int)) rfl HRo3.out.own rfl (by show Value.slice (some ⟨w2.heap.size + 1, 0, none⟩) 1 1 = _; simp) ?_ ?_ ?_)) | fail)
          · simp [maxLen]; omega
          · simp; omega
          intro v7 w7 O7 C7 F7
          have hid : idx out ++ [.int .i64 (k : Int)] = idx (out ++ [k]) := by simp [idx]
          rw [hid] at O7
          have HRo7 : Kept (RowO B w w7 v7 (out ++ [k])) := kept ⟨O7, fun g hg => (F7 g hg).elim (fun h => HRo3.out.new g h.symm) (fun h => by have h3 := HB2.out; omega), HRo3.out.low.trans (C7.below HB3.out (fun b hb h => by have := HRo3.out.new b h.symm; omega))⟩
          have HS7 : Kept (HpS B w w7 p (.slice (some ⟨g, 0, none⟩) rest.length cap) l2) := kept (by
            have h := HS3.out
            refine ⟨h.hp.keep C7 ?_ ?_, h.heap, h.newp, h.new, HRo7.out.low⟩
            · intro e; exact HRo3.out.own.ne h.hp.blk (by decide) e.symm
            · intro b hb e; exact h.hp.row.neO HRo3.out.own (by decide) e.symm hb)
          have hv7 := O7.slice
          rw [length_idx, List.length_append, List.length_singleton] at hv7
          obtain ⟨a7, cap7, rfl, _⟩ := hv7
          clear O7 C7 F7 hid
          go_wp2_with fail
          go_roundw
          case rel => exact ⟨out ++ [k], rest, _, l2, _, by rw [HO.out]; simp, rfl, HS7.out, HX2.out, HRo7.out⟩
          case measure => simp [lenOf]; omega
end Go.Proofs.Ytbldocbijihpgaa.HistH

-- ---- Kd
/- Between the print's words for rows and those of this claim's own texts. No program in sight. -/
namespace Go.Proofs.Ytbldocbijihpgaa.Own
set_option linter.unusedSimpArgs false
set_option linter.unusedVariables false
open Go Go.RowKit Go.Proofs.YtbldocbijihpgaaW.PrintWords

theorem rd_of_C {k : IntKind} {w : World} {A : Option Addr} {n : Nat} {xs : List Int} (h : Kd.C (Kd.int k) w A n xs) : Rd w (.slice A n n) (ints k xs) := by
  obtain ⟨h1, h2, h3⟩ := h
  subst h1
  refine ⟨A, xs.length, by rw [length_ints], by rw [length_ints]; exact Nat.le_refl _, h2, fun i u hu => ?_⟩
  have hi : i < xs.length := by have := (List.getElem?_eq_some_iff.1 hu).1; rwa [length_ints] at this
  obtain ⟨ad, rfl, hc⟩ := h3 (by omega)
  obtain ⟨c, hcl, hK, hcell⟩ := hc i _ (List.getElem?_eq_getElem hi)
  refine ⟨ad, rfl, ?_⟩
  have hK2 : c = [.int k xs[i]] := hK
  have := hcell 0 (.int k xs[i]) (by rw [hK2]; rfl)
  have e : u = .int k xs[i] := by
    unfold ints at hu; rw [List.getElem?_map, List.getElem?_eq_getElem hi] at hu; simp at hu; exact hu.symm
  rw [e]; simpa [Kd.int, Kd.scalar] using this

theorem C_of_rd {k : IntKind} {w : World} {A : Option Addr} {n c : Nat} {xs : List Int} (h : Rd w (.slice A n c) (ints k xs)) : Kd.C (Kd.int k) w A n xs := by
  obtain ⟨a, cap, hv, h1, h2, hc⟩ := h
  simp only [Value.slice.injEq, length_ints] at hv h1
  obtain ⟨rfl, rfl, rfl⟩ := hv
  refine ⟨rfl, by simp only [maxLen] at h2; omega, fun h0 => ?_⟩
  obtain ⟨x, hx, _⟩ := hc 0 _ (ints_at k xs 0 (by omega))
  refine ⟨x, hx, fun i y hy => ?_⟩
  have hi : i < xs.length := (List.getElem?_eq_some_iff.1 hy).1
  obtain ⟨x2, hx2, hcell⟩ := hc i _ (ints_at k xs i hi)
  rw [hx] at hx2; cases hx2
  have e : xs.getD i 0 = y := by rw [List.getD_eq_getElem?_getD, hy]; rfl
  rw [e] at hcell
  refine ⟨[.int k y], rfl, rfl, fun j u hj => ?_⟩
  match j, hj with
  | 0, hj => simp at hj; subst hj; simpa [Kd.int, Kd.scalar] using hcell

theorem own_low {w : World} {base e size n : Nat} {v : Value} {xs : List Value} (h : w.ownsRow 0 e size v n xs) (hb : ∀ g, v.ownBlock = some g → base ≤ g) : w.ownsRow base e size v n xs := by
  refine ⟨h.1, ?_⟩
  rcases h.2 with hn | ⟨g, cap, cur, rfl, _, r⟩
  · exact .inl hn
  · exact .inr ⟨g, cap, cur, rfl, hb g rfl, r⟩

/-- A row of elements, their cells one behind the other. -/
theorem R_of_flat {α : Type} (d : Kd α) (enc : α → List Value) {e : Nat} {w : World} {base : Nat} {v : Value} {xs : List α} (hM : ∀ ok x, d.M w base ok x (enc x)) (hl : ∀ x, (enc x).length = d.sz)
    (h : w.ownsRow 0 e d.sz v xs.length (xs.flatMap enc)) (hb : ∀ g, v.ownBlock = some g → base ≤ g) : Kd.R d e w base (fun _ => True) v xs := by
  refine ⟨fun _ _ => trivial, xs.flatMap enc, own_low h hb, ?_⟩
  have key : ∀ (xs : List α), (xs.flatMap enc).length = xs.length * d.sz ∧ ∀ j p, xs[j]? = some p → ((xs.flatMap enc).drop (j * d.sz)).take d.sz = enc p := by
    intro xs
    induction xs with
    | nil => exact ⟨by simp, fun j p hj => by simp at hj⟩
    | cons a t ih =>
      have ha := hl a
      refine ⟨by rw [List.flatMap_cons, List.length_append, ih.1, ha, List.length_cons, Nat.succ_mul]; omega, fun j p hj => ?_⟩
      rw [List.flatMap_cons]
      cases j with
      | zero => simp at hj; subst hj; rw [Nat.zero_mul, List.drop_zero]; exact List.take_left' ha
      | succ j =>
        have e2 : (j + 1) * d.sz = (enc a).length + j * d.sz := by rw [ha, Nat.succ_mul]; omega
        rw [e2, ← List.drop_drop, List.drop_left]
        exact ih.2 j p (by simpa using hj)
  exact ⟨(key xs).1, fun j p hj => by rw [(key xs).2 j p hj]; exact hM _ p⟩

theorem flat_ints (k : IntKind) (xs : List Int) : xs.flatMap (fun x => [Value.int k x]) = ints k xs := by
  unfold ints; induction xs with
  | nil => rfl
  | cons a t ih => simp [ih]
theorem R_of_owns {k : IntKind} {e : Nat} {w : World} {base : Nat} {v : Value} {xs : List Int} (h : Owns w e v (ints k xs)) (hb : ∀ g, v.ownBlock = some g → base ≤ g) : Kd.R (Kd.int k) e w base (fun _ => True) v xs := by
  refine R_of_flat (Kd.int k) (fun x => [Value.int k x]) (fun ok x => rfl) (fun _ => rfl) ?_ hb
  rw [flat_ints]
  have h2 : w.ownsRow 0 e 1 v (ints k xs).length (ints k xs) := h
  rwa [length_ints] at h2
theorem owns_of_R {k : IntKind} {e : Nat} {w : World} {base : Nat} {ok : Nat → Prop} {v : Value} {xs : List Int} (h : Kd.R (Kd.int k) e w base ok v xs) : Owns w e v (ints k xs) ∧ ∀ g, v.ownBlock = some g → base ≤ g := by
  obtain ⟨_, inner, ho, hl, hr⟩ := h
  have e1 : inner = ints k xs := by
    apply List.ext_getElem
    · rw [length_ints, hl]; simp [Kd.int, Kd.scalar]
    · intro i h1 h2
      rw [length_ints] at h2
      have h3 := hr i _ (List.getElem?_eq_getElem h2)
      have h4 : (inner.drop (i * 1)).take 1 = [Value.int k xs[i]] := h3
      rw [Nat.mul_one, List.drop_eq_getElem_cons h1] at h4
      simp only [List.take_succ_cons, List.take_zero, List.cons.injEq, and_true] at h4
      rw [h4]; simp [ints]
  subst e1
  refine ⟨?_, fun g hg => (World.ownsRow.lt ho g hg).1⟩
  have h2 : w.ownsRow base e 1 v xs.length (ints k xs) := ho
  refine ⟨by simp, ?_⟩
  rcases h2.2 with ⟨hv, hn⟩ | ⟨g, cap, cur, hv, _, r⟩
  · left; exact ⟨hv, by simpa using hn⟩
  · right; exact ⟨g, cap, cur, by simpa using hv, Nat.zero_le _, by simpa using r⟩
end Go.Proofs.Ytbldocbijihpgaa.Own

-- ---- Len8
/- math/bits.Len8: the library's text is walked. -/
namespace Go.Proofs.Ytbldocbijihpgaa
open Go.RowKit
set_option linter.unusedSimpArgs false
set_option linter.unusedVariables false
set_option maxRecDepth 100000 in
theorem len8tab_size8 : (Lib.len8tab.size : Int) = 256 := by
  have : Lib.len8tab.size = 256 := by decide
  omega
theorem len8_get8 (y : Nat) (h : y < Lib.len8tab.size) : ((Lib.len8tab[y]'h).toNat : Int) = Lib.len8 (y : Int) := by
  unfold Lib.len8
  rw [Int.toNat_natCast, getElem?_pos Lib.len8tab y h]
  rfl
theorem wrap_small8 (a : Nat) (ha : a ≤ 8) : RowKit.wrap64 (a : Int) = (a : Int) := by
  unfold RowKit.wrap64
  omega

set_option maxRecDepth 100000 in
theorem len8_calls (n : Nat) (w : World) (h : n < 256) :
    Calls Try.prog 47 #[.int .u8 (n : Int)] w fun e w' => e = .returned (.int .i64 (Lib.bitLen n : Int)) ∧ w = w' := by
  have e : Lib.len8 (n : Int) = (Lib.bitLen n : Int) := Lib.len8_eq ⟨n, h⟩
  have l : Lib.bitLen n ≤ 8 := Lib.bitLen_le8 ⟨n, h⟩
  go_enter Try.func47, Try.ntmps47
  go_wp2
  all_goals first
    | (go_ret; refine ⟨congrArg Ending.returned (congrArg (Value.int IntKind.i64) ?_), rfl⟩; go_light)
    | (exfalso
       go_light
       have hs := len8tab_size8
       omega)
  rw [len8_get8 n _, e, wrap_small8 _ l]
end Go.Proofs.Ytbldocbijihpgaa

-- ---- My
/- Several rows of one-cell elements that a call owns side by side: each in a block of its own. No program in sight. -/
namespace Go.Proofs.Ytbldocbijihpgaa.Own
set_option linter.unusedSimpArgs false
set_option linter.unusedVariables false
open Go Go.RowKit

/-- In no block both. -/
def Dj (u v : Value) : Prop := ∀ b, u.ownBlock = some b → v.ownBlock ≠ some b
theorem Dj.symm {u v : Value} (h : Dj u v) : Dj v u := fun b h1 h2 => h b h2 h1
/-- These rows, each alone in its block, all from block B on. -/
structure Many (B : Nat) (w : World) (e : TypeId) (R : List (Value × List Value)) : Prop where
  own : ∀ (i : Nat) v xs, R[i]? = some (v, xs) → Owns w e v xs
  new : ∀ (i : Nat) v xs, R[i]? = some (v, xs) → ∀ b, v.ownBlock = some b → B ≤ b
  sep : ∀ (i j : Nat) a xs b ys, i ≠ j → R[i]? = some (a, xs) → R[j]? = some (b, ys) → Dj a b

theorem Many.nil (B : Nat) (w : World) (e : TypeId) : Many B w e [] := ⟨fun i v xs h => by simp at h, fun i v xs h => by simp at h, fun i j a xs b ys _ h => by simp at h⟩
theorem Many.chg {B : Nat} {w w' : World} {S : Nat → Prop} {e : TypeId} {R : List (Value × List Value)} (h : Many B w e R) (hc : Chg S w w') (hn : ∀ (i : Nat) v xs, R[i]? = some (v, xs) → ∀ g, v.ownBlock = some g → ¬ S g) : Many B w' e R :=
  ⟨fun i v xs hi => (h.own i v xs hi).chg hc (hn i v xs hi), h.new, h.sep⟩
theorem Many.later {B : Nat} {w w' : World} {e : TypeId} {R : List (Value × List Value)} (h : Many B w e R) (hb : Below w.heap.size w w') : Many B w' e R :=
  ⟨fun i v xs hi => (h.own i v xs hi).keep fun g hg hl => hb.block g hl, h.new, h.sep⟩
/-- One row has turned. -/
theorem Many.set {B : Nat} {w w' : World} {e : TypeId} {R : List (Value × List Value)} (h : Many B w e R) (i : Nat) {v v' : Value} {xs xs' : List Value} (hi : R[i]? = some (v, xs)) (hc : Chg (fun k => some k = v.ownBlock) w w')
    (ho : Owns w' e v' xs') (hn : ∀ g, v'.ownBlock = some g → some g = v.ownBlock ∨ w.heap.size ≤ g) (hB : B ≤ w.heap.size) : Many B w' e (R.set i (v', xs')) := by
  have hil : i < R.length := (List.getElem?_eq_some_iff.1 hi).1
  refine ⟨fun j u ys hj => ?_, fun j u ys hj b hb => ?_, fun j k a ys b zs hjk hj hk => ?_⟩
  · by_cases e1 : j = i
    · subst e1
      rw [List.getElem?_set_self hil, Option.some.injEq, Prod.mk.injEq] at hj
      obtain ⟨rfl, rfl⟩ := hj; exact ho
    · rw [List.getElem?_set_ne (fun e => e1 e.symm)] at hj
      exact (h.own j u ys hj).chg hc fun g hg hs => h.sep j i u ys v xs e1 hj hi g hg hs.symm
  · by_cases e1 : j = i
    · subst e1
      rw [List.getElem?_set_self hil, Option.some.injEq, Prod.mk.injEq] at hj
      obtain ⟨rfl, rfl⟩ := hj
      rcases hn b hb with h1 | h1
      · exact h.new j v xs hi b h1.symm
      · omega
    · rw [List.getElem?_set_ne (fun e => e1 e.symm)] at hj; exact h.new j u ys hj b hb
  · have other : ∀ (m : Nat) (u : Value) (us : List Value), m ≠ i → R[m]? = some (u, us) → Dj u v' := fun m u us hm hmu g hg hv => by
      rcases hn g hv with h1 | h1
      · exact h.sep m i u us v xs hm hmu hi g hg h1.symm
      · have := (h.own m u us hmu).lt g hg; omega
    by_cases e1 : j = i
    · subst e1
      have e2 : k ≠ j := fun e => hjk e.symm
      rw [List.getElem?_set_self hil, Option.some.injEq, Prod.mk.injEq] at hj
      rw [List.getElem?_set_ne (fun e => e2 e.symm)] at hk
      obtain ⟨rfl, rfl⟩ := hj
      exact (other k b zs e2 hk).symm
    · rw [List.getElem?_set_ne (fun e => e1 e.symm)] at hj
      by_cases e2 : k = i
      · subst e2
        rw [List.getElem?_set_self hil, Option.some.injEq, Prod.mk.injEq] at hk
        obtain ⟨rfl, rfl⟩ := hk
        exact other j a ys e1 hj
      · rw [List.getElem?_set_ne (fun e => e2 e.symm)] at hk
        exact h.sep j k a ys b zs hjk hj hk
/-- A new row. -/
theorem Many.add {B : Nat} {w w' : World} {e : TypeId} {R : List (Value × List Value)} (h : Many B w e R) (hb : Below w.heap.size w w') {v : Value} {xs : List Value} (ho : Owns w' e v xs) (hn : ∀ g, v.ownBlock = some g → w.heap.size ≤ g) (hB : B ≤ w.heap.size) : Many B w' e (R ++ [(v, xs)]) := by
  have h' := h.later hb
  have last : ∀ (j : Nat) u ys, (R ++ [(v, xs)])[j]? = some (u, ys) → R[j]? = some (u, ys) ∨ (j = R.length ∧ u = v ∧ ys = xs) := fun j u ys hj => by
    rcases Nat.lt_trichotomy j R.length with h1 | h1 | h1
    · rw [List.getElem?_append_left h1] at hj; exact .inl hj
    · subst h1
      rw [List.getElem?_append_right (Nat.le_refl _)] at hj
      simp at hj; exact .inr ⟨rfl, hj.1.symm, hj.2.symm⟩
    · rw [List.getElem?_eq_none (by simp; omega)] at hj; cases hj
  have oth : ∀ (j : Nat) u ys, R[j]? = some (u, ys) → Dj u v := fun j u ys hj g hg hv => by
    have := (h.own j u ys hj).lt g hg; have := hn g hv; omega
  refine ⟨fun j u ys hj => ?_, fun j u ys hj b hb => ?_, fun j k a ys b zs hjk hj hk => ?_⟩
  · rcases last j u ys hj with h1 | ⟨_, rfl, rfl⟩
    · exact h'.own j u ys h1
    · exact ho
  · rcases last j u ys hj with h1 | ⟨_, rfl, rfl⟩
    · exact h'.new j u ys h1 b hb
    · have := hn b hb; omega
  · rcases last j a ys hj with h1 | ⟨rfl, rfl, rfl⟩
    · rcases last k b zs hk with h2 | ⟨rfl, rfl, rfl⟩
      · exact h'.sep j k a ys b zs hjk h1 h2
      · exact oth j a ys h1
    · rcases last k b zs hk with h2 | ⟨rfl, rfl, rfl⟩
      · exact (oth k b zs h2).symm
      · exact absurd rfl hjk
/-- A block of another type stays. -/
theorem Many.other {B : Nat} {w w' : World} {e t : TypeId} {R : List (Value × List Value)} (h : Many B w e R) (i : Nat) {v : Value} {xs : List Value} (hi : R[i]? = some (v, xs)) (hc : Chg (fun k => some k = v.ownBlock) w w') {p : Nat} {cs : Array Value} (hp : Blk w p cs t) (hne : e ≠ t) : Blk w' p cs t :=
  hc.keep hp fun hs => (h.own i v xs hi).ne hp hne hs.symm
/-- A block of another type is written. -/
theorem Many.setBlk {B : Nat} {w : World} {e t : TypeId} {R : List (Value × List Value)} (h : Many B w e R) {p : Nat} {cs : Array Value} (hp : Blk w p cs t) (hne : e ≠ t) (j : Nat) (u : Value) : Many B (w.setCell ⟨p, j, none⟩ u) e R :=
  h.chg (Chg.setCell w _ _) fun i v xs hi g hg hs => (h.own i v xs hi).ne hp hne (by rw [hg]; exact congrArg some hs)
theorem Many.below {B : Nat} {w w' : World} {e : TypeId} {R : List (Value × List Value)} (h : Many B w e R) (i : Nat) {v : Value} {xs : List Value} (hi : R[i]? = some (v, xs)) (hc : Chg (fun k => some k = v.ownBlock) w w') (hB : B ≤ w.heap.size) : Below B w w' :=
  hc.below hB fun k hk hs => by have := h.new i v xs hi k hs.symm; omega
/-- One cell of a row is written. -/
theorem Many.store {B : Nat} {w : World} {e : TypeId} {R : List (Value × List Value)} (h : Many B w e R) (i : Nat) {g n cap : Nat} {xs : List Value} (hi : R[i]? = some (.slice (some ⟨g, 0, none⟩) n cap, xs)) (j : Nat) (u : Value) (hB : B ≤ w.heap.size) :
    Many B (w.setCell ⟨g, j, none⟩ u) e (R.set i (.slice (some ⟨g, 0, none⟩) n cap, xs.set j u)) :=
  h.set i hi (by have := Chg.setCell w ⟨g, j, none⟩ u; exact this.mono fun k _ hk => by rw [hk]; rfl) ((h.own i _ _ hi).store j u) (fun b hb => .inl hb.symm) hB
end Go.Proofs.Ytbldocbijihpgaa.Own
namespace Go.Proofs.Ytbldocbijihpgaa
open Go.RowKit _root_.Go.Proofs.Ytbldocbijihpgaa.Own
theorem sliceI {w : World} {e : TypeId} {k : IntKind} {v : Value} {xs : List Int} (h : Owns w e v (ints k xs)) : ∃ a c, v = .slice a xs.length c := by
  obtain ⟨a, c, h, _⟩ := h.slice
  exact ⟨a, c, by rw [h, length_ints]⟩
theorem rowI {w : World} {e : TypeId} {k : IntKind} {v : Value} {xs : List Int} (h : Owns w e v (ints k xs)) (hx : xs ≠ []) : ∃ g c, v = .slice (some ⟨g, 0, none⟩) xs.length c ∧ xs.length ≤ c ∧ g < w.heap.size := by
  obtain ⟨g, c, h1, h2, h3⟩ := h.row (by intro e; exact hx (by have := congrArg List.length e; rw [length_ints] at this; exact List.length_eq_zero_iff.1 this))
  rw [length_ints] at h1 h2
  exact ⟨g, c, h1, h2, h3⟩
theorem ints_set (k : IntKind) (l : List Int) (i : Nat) (v : Int) : ints k (l.set i v) = (ints k l).set i (.int k v) := by simp [ints, List.map_set]
end Go.Proofs.Ytbldocbijihpgaa
