/- Small laws on memory that a call makes for itself: what has changed between two worlds, rows that are owned, blocks that are known. No program in sight. -/
import Derived.WalkKit
import Derived.Deep.Quiet
import Derived.Deep.Draws
import Derived.Laws.Rows
import Derived.Laws.Tables
namespace Go.Proofs.Ytdbnmijnjfbibaa.Own
set_option linter.unusedSimpArgs false
set_option linter.unusedVariables false
open Go Go.RowKit

/-- A fact that the walk does not see, nor unfold. -/
@[irreducible] def Kept (p : Prop) : Prop := p
theorem kept {p : Prop} (h : p) : Kept p := by unfold Kept; exact h
theorem Kept.out {p : Prop} (h : Kept p) : p := by unfold Kept at h; exact h

/-- The greater of two, the lesser of two, as Go's builtins reckon them. -/
def mx (x y : Int) : Int := if x < y then y else x
def mn (x y : Int) : Int := if y < x then y else x
theorem mx_eq (x y : Int) : mx x y = max x y := by unfold mx; omega
theorem mn_eq (x y : Int) : mn x y = min x y := by unfold mn; omega
theorem max_int (ats : Array TypeId) (ty : TypeId) (k k' : IntKind) (x y : Int) : Builtin.max_ ats ty #[.int k x, .int k' y] = pure (.int k (mx x y)) := by
  simp only [Builtin.max_, List.foldlM_cons, List.foldlM_nil, Builtin.max2, gt_iff_lt]
  rfl
theorem min_int (ats : Array TypeId) (ty : TypeId) (k k' : IntKind) (x y : Int) : Builtin.min_ ats ty #[.int k x, .int k' y] = pure (.int k (mn x y)) := by
  simp only [Builtin.min_, List.foldlM_cons, List.foldlM_nil, Builtin.min2]
  rfl

/-- Between w and w' blocks may have come, and of w's blocks only those in S have turned. -/
structure Chg (S : Nat → Prop) (w w' : World) : Prop where
  os : w'.os = w.os
  tape : w'.tape = w.tape
  output : w'.output = w.output
  size : w.heap.size ≤ w'.heap.size
  block : ∀ k, k < w.heap.size → ¬ S k → w'.heap[k]? = w.heap[k]?

theorem Chg.refl (S : Nat → Prop) (w : World) : Chg S w w := ⟨rfl, rfl, rfl, Nat.le_refl _, fun _ _ _ => rfl⟩
theorem Chg.mono {S S' : Nat → Prop} {w w' : World} (h : Chg S w w') (hs : ∀ k, k < w.heap.size → S k → S' k) : Chg S' w w' :=
  ⟨h.os, h.tape, h.output, h.size, fun k hk hn => h.block k hk fun hS => hn (hs k hk hS)⟩
theorem Chg.trans {S S2 : Nat → Prop} {a b c : World} (h : Chg S a b) (k : Chg S2 b c) (hs : ∀ k, k < a.heap.size → S2 k → S k) : Chg S a c :=
  ⟨k.os.trans h.os, k.tape.trans h.tape, k.output.trans h.output, Nat.le_trans h.size k.size, fun i hi hn => (k.block i (Nat.lt_of_lt_of_le hi h.size) fun h2 => hn (hs i hi h2)).trans (h.block i hi hn)⟩
theorem Chg.of_below {S : Nat → Prop} {w w' : World} (h : Below w.heap.size w w') : Chg S w w' := ⟨h.os, h.tape, h.output, h.size, fun k hk _ => h.block k hk⟩
theorem Chg.of_grown {w w' : World} {row : Option Nat} (h : w.grownBy w' row) : Chg (fun k => some k = row) w w' := ⟨h.os, h.tape, h.output, h.size, fun k hk hn => h.block k hk hn⟩
theorem Chg.below {S : Nat → Prop} {w w' : World} (h : Chg S w w') {B : Nat} (hB : B ≤ w.heap.size) (hs : ∀ k, k < B → ¬ S k) : Below B w w' :=
  ⟨h.os, h.tape, h.output, h.size, fun k hk => h.block k (Nat.lt_of_lt_of_le hk hB) (hs k hk)⟩
theorem Chg.keep {S : Nat → Prop} {w w' : World} (h : Chg S w w') {k : Nat} {o : Obj} (ho : w.heap[k]? = some o) (hn : ¬ S k) : w'.heap[k]? = some o :=
  (h.block k (Array.getElem?_eq_some_iff.1 ho).1 hn).trans ho
theorem Chg.setCell (w : World) (p : Addr) (v : Value) : Chg (fun k => k = p.block) w (w.setCell p v) :=
  ⟨rfl, rfl, rfl, by simp [World.setCell], fun k _ hn => Below.heap_setCell _ _ _ _ hn⟩
theorem Chg.alloc (S : Nat → Prop) (w : World) (o : Obj) : Chg S w (w.alloc o) := ⟨rfl, rfl, rfl, by simp, fun k hk _ => Below.heap_alloc _ _ _ hk⟩
theorem Chg.drew (S : Nat → Prop) (w : World) : Chg S w w.drew := ⟨rfl, rfl, rfl, Nat.le_refl _, fun _ _ _ => rfl⟩

theorem lt_of_some {w : World} {k : Nat} {o : Obj} (h : w.heap[k]? = some o) : k < w.heap.size := (Array.getElem?_eq_some_iff.1 h).1

/-- A block that is known whole. -/
abbrev Blk (w : World) (p : Nat) (cs : Array Value) (t : TypeId) : Prop := w.heap[p]? = some (.cells cs t (0, 0))

theorem Blk.cell {w : World} {p : Nat} {cs : Array Value} {t : TypeId} (h : Blk w p cs t) {i : Nat} {v : Value} (hv : cs[i]? = some v) : w.cell? ⟨p, i, none⟩ = some v := by
  simp [World.cell?, h, hv]
theorem Blk.free {w : World} {p : Nat} {cs : Array Value} {t : TypeId} (h : Blk w p cs t) (i : Nat) : w.frozen? ⟨p, i, none⟩ = false := by
  simp [World.frozen?, h]
theorem Blk.lt {w : World} {p : Nat} {cs : Array Value} {t : TypeId} (h : Blk w p cs t) : p < w.heap.size := lt_of_some h
theorem Blk.set {w : World} {p : Nat} {cs : Array Value} {t : TypeId} (h : Blk w p cs t) (i : Nat) (v : Value) : Blk (w.setCell ⟨p, i, none⟩ v) p (cs.setIfInBounds i v) t := by
  show (w.setCell ⟨p, i, none⟩ v).heap[p]? = _
  have h' : w.heap[p]? = some (.cells cs t (0, 0)) := h
  simp [World.setCell, Array.getElem?_modify, h']
theorem Blk.setOther {w : World} {p : Nat} {cs : Array Value} {t : TypeId} (h : Blk w p cs t) {a : Addr} (hn : p ≠ a.block) (v : Value) : Blk (w.setCell a v) p cs t :=
  (Below.heap_setCell w a v p hn).trans h
theorem Blk.setRow {w : World} {p : Nat} {cs : Array Value} {t : TypeId} (h : Blk w p cs t) (ds : Array Value) : Blk (w.setRow p ds) p ds t := setRow_heap w p cs ds t (0, 0) h
theorem Blk.setRowOther {w : World} {p g : Nat} {cs : Array Value} {t : TypeId} (h : Blk w p cs t) (hn : p ≠ g) (ds : Array Value) : Blk (w.setRow g ds) p cs t := (setRow_other w g p ds hn).trans h
theorem Chg.setRow (w : World) (g : Nat) (ds : Array Value) : Chg (fun k => k = g) w (w.setRow g ds) := ⟨rfl, rfl, rfl, by simp, fun k _ hn => setRow_other w g k ds hn⟩
theorem Blk.alloc {w : World} {p : Nat} {cs : Array Value} {t : TypeId} (h : Blk w p cs t) (o : Obj) : Blk (w.alloc o) p cs t :=
  (Below.heap_alloc w o p h.lt).trans h
theorem Blk.fresh (w : World) (cs : Array Value) (t : TypeId) : Blk (w.alloc (.cells cs t)) w.heap.size cs t := heap_alloc_new w _
theorem Blk.fresh_at (w : World) (q : Nat) (hq : q = w.heap.size) (cs : Array Value) (t : TypeId) : Blk (w.alloc (.cells cs t)) q cs t := by subst hq; exact Blk.fresh w cs t
theorem Blk.ne {w : World} {p q : Nat} {cs ds : Array Value} {t u : TypeId} (h : Blk w p cs t) (k : Blk w q ds u) (hne : t ≠ u) : p ≠ q := by
  rintro rfl
  have := h.symm.trans k
  simp at this
  exact hne this.2

/-- v is a slice whose cells are xs, alone in a block of its own, or nil. -/
def Owns (w : World) (e : TypeId) (v : Value) (xs : List Value) : Prop := w.ownsRow 0 e 1 v xs.length xs

theorem Owns.nil (w : World) (e : TypeId) : Owns w e (.slice none 0 0) [] := World.ownsRow_nil w 0 e 1

theorem Owns.form {w : World} {e : TypeId} {v : Value} {xs : List Value} (h : Owns w e v xs) :
    (v = .slice none 0 0 ∧ xs = []) ∨ ∃ g cap cur, v = .slice (some ⟨g, 0, none⟩) xs.length cap ∧ Blk w g cur e ∧ xs.length ≤ cap ∧ cap ≤ maxLen ∧ cur.size = cap ∧ cur.toList.take xs.length = xs := by
  rcases h.2 with ⟨hv, hn⟩ | ⟨g, cap, cur, hv, _, hg, hc, hm, hs, ht⟩
  · exact .inl ⟨hv, List.length_eq_zero_iff.1 hn⟩
  · exact .inr ⟨g, cap, cur, hv, hg, hc, hm, by simpa using hs, by simpa using ht⟩

theorem Owns.mk {w : World} {e : TypeId} {g cap : Nat} {cur : Array Value} {xs : List Value} (hg : Blk w g cur e) (hc : xs.length ≤ cap) (hm : cap ≤ maxLen) (hs : cur.size = cap) (ht : cur.toList.take xs.length = xs) :
    Owns w e (.slice (some ⟨g, 0, none⟩) xs.length cap) xs :=
  ⟨by simp, .inr ⟨g, cap, cur, rfl, Nat.zero_le _, hg, hc, hm, by simpa using hs, by simpa using ht⟩⟩

theorem Owns.keep {w w' : World} {e : TypeId} {v : Value} {xs : List Value} (h : Owns w e v xs) (hk : ∀ g, v.ownBlock = some g → g < w.heap.size → w'.heap[g]? = w.heap[g]?) : Owns w' e v xs := by
  refine ⟨h.1, ?_⟩
  rcases h.2 with hn | ⟨g, cap, cur, rfl, hb, hgg, rest⟩
  · exact .inl hn
  · exact .inr ⟨g, cap, cur, rfl, hb, (hk g rfl (lt_of_some hgg)).trans hgg, rest⟩
theorem Owns.chg {w w' : World} {S : Nat → Prop} {e : TypeId} {v : Value} {xs : List Value} (h : Owns w e v xs) (hc : Chg S w w') (hn : ∀ g, v.ownBlock = some g → ¬ S g) : Owns w' e v xs :=
  h.keep fun g hg hl => hc.block g hl (hn g hg)
theorem Owns.alloc {w : World} {e : TypeId} {v : Value} {xs : List Value} (h : Owns w e v xs) (o : Obj) : Owns (w.alloc o) e v xs :=
  h.keep fun g _ hl => Below.heap_alloc w o g hl
theorem Owns.drew {w : World} {e : TypeId} {v : Value} {xs : List Value} (h : Owns w e v xs) : Owns w.drew e v xs := h
theorem Owns.setOther {w : World} {e : TypeId} {v : Value} {xs : List Value} (h : Owns w e v xs) {a : Addr} (hn : v.ownBlock ≠ some a.block) (u : Value) : Owns (w.setCell a u) e v xs :=
  h.keep fun g hg _ => Below.heap_setCell w a u g fun e => hn (by rw [hg, e])

theorem Owns.setRowOther {w : World} {e : TypeId} {v : Value} {xs : List Value} (h : Owns w e v xs) {p : Nat} (hn : v.ownBlock ≠ some p) (ds : Array Value) : Owns (w.setRow p ds) e v xs :=
  h.keep fun g hg _ => setRow_other w p g ds fun e => hn (by rw [hg, e])

theorem Owns.lt {w : World} {e : TypeId} {v : Value} {xs : List Value} (h : Owns w e v xs) : ∀ g, v.ownBlock = some g → g < w.heap.size := fun g hg => (World.ownsRow.lt h g hg).2
theorem Owns.blk {w : World} {e : TypeId} {v : Value} {xs : List Value} (h : Owns w e v xs) : ∀ g, v.ownBlock = some g → ∃ cur, Blk w g cur e := by
  intro g hg
  rcases h.form with ⟨rfl, _⟩ | ⟨g', cap, cur, rfl, hb, _⟩
  · simp [Value.ownBlock] at hg
  · simp [Value.ownBlock] at hg; subst hg; exact ⟨cur, hb⟩
/-- An owned row lies elsewhere than a block of another type. -/
theorem Owns.ne {w : World} {e t : TypeId} {v : Value} {xs : List Value} {p : Nat} {cs : Array Value} (h : Owns w e v xs) (k : Blk w p cs t) (hne : e ≠ t) : v.ownBlock ≠ some p := by
  intro hg
  obtain ⟨cur, hb⟩ := h.blk p hg
  exact hb.ne k hne rfl

theorem Owns.row {w : World} {e : TypeId} {v : Value} {xs : List Value} (h : Owns w e v xs) (hx : xs ≠ []) : ∃ g cap, v = .slice (some ⟨g, 0, none⟩) xs.length cap ∧ xs.length ≤ cap ∧ g < w.heap.size := by
  rcases h.form with ⟨_, rfl⟩ | ⟨g, cap, cur, rfl, hb, hc, _⟩
  · exact absurd rfl hx
  · exact ⟨g, cap, rfl, hc, hb.lt⟩

theorem Owns.cell {w : World} {e : TypeId} {g n cap : Nat} {xs : List Value} (h : Owns w e (.slice (some ⟨g, 0, none⟩) n cap) xs) {j : Nat} {u : Value} (hu : xs[j]? = some u) : w.cell? ⟨g, j, none⟩ = some u := by
  have hn : n = xs.length := by
    rcases h.form with ⟨hv, _⟩ | ⟨_, _, _, hv, _⟩
    · simp at hv
    · simp at hv; exact hv.2.1
  subst hn
  have hj : j < xs.length := (List.getElem?_eq_some_iff.1 hu).1
  rw [World.ownsRow.cellAt h j (by omega), hu]
theorem Owns.free {w : World} {e : TypeId} {g n cap : Nat} {xs : List Value} (h : Owns w e (.slice (some ⟨g, 0, none⟩) n cap) xs) (j : Nat) : w.frozen? ⟨g, j, none⟩ = false := by
  obtain ⟨cur, hb⟩ := h.blk g rfl
  exact hb.free j
theorem Owns.store {w : World} {e : TypeId} {g n cap : Nat} {xs : List Value} (h : Owns w e (.slice (some ⟨g, 0, none⟩) n cap) xs) (j : Nat) (u : Value) :
    Owns (w.setCell ⟨g, j, none⟩ u) e (.slice (some ⟨g, 0, none⟩) n cap) (xs.set j u) := by
  rcases h.form with ⟨hv, _⟩ | ⟨g', cap', cur, hv, hb, hc, hm, hs, ht⟩
  · simp at hv
  · simp only [Value.slice.injEq, Option.some.injEq, Addr.mk.injEq, and_true] at hv
    obtain ⟨rfl, rfl, rfl⟩ := hv
    have := hb.set j u
    have h2 := Owns.mk (xs := xs.set j u) this (by simpa using hc) hm (by simpa using hs) (by
      rw [List.length_set, Array.toList_setIfInBounds, List.take_set, ht])
    simpa using h2

theorem Owns.length {w : World} {e : TypeId} {a : Option Addr} {n cap : Nat} {xs : List Value} (h : Owns w e (.slice a n cap) xs) : n = xs.length := by
  rcases h.form with ⟨hv, hx⟩ | ⟨g', cap', cur, hv, _⟩
  · simp at hv; simp [hx, hv]
  · simp at hv; exact hv.2.1

section
variable {P : Program} {w : World}

/-- 'append' onto what the call owns: where the result lies. Sizes of one cell. -/
theorem run_append_at (t ty e : TypeId) (i : TypeInfo) (z : Value) (bytes : Nat) (ht : P.underlying t = some (.slice e)) (hi : P.info? e = some i) (hz : i.zero = some z)
    (hsize : i.size = 1) (hby : i.bytes = bytes) (hzs : z.cells.size = 1)
    (v : Value) (xs : List Value) (hown : Owns w e v xs)
    (a : Addr) (m c : Nat) (news : List Value) (hl : news.length = m) (hnews : ∀ j u, news[j]? = some u → w.cell? (a.add j) = some u) (h1 : ∀ u ∈ news, u.oneCell' = true)
    (h63 : xs.length + m ≤ maxLen) (hbytes : (xs.length + m) * bytes ≤ 140737488355328) :
    ∃ v' w', (Builtin.append_ #[t, t] ty #[v, .slice (some a) m c]).run P w = .ok v' w' ∧ Owns w' e v' (xs ++ news) ∧ w.grownBy w' v.ownBlock ∧
      (∀ g, v'.ownBlock = some g → some g = v.ownBlock ∨ w.heap.size ≤ g) := by
  have hl1 : news.length = m * 1 := by omega
  obtain ⟨v', w', hr, ho, hg, _⟩ := run_append_own (P := P) w 0 t ty e i z 1 bytes ht hi hz hsize hby hzs (by decide) v xs.length xs hown a m c news hl1 hnews h1 h63 hbytes (Nat.zero_le _)
  refine ⟨v', w', hr, ?_, hg, ?_⟩
  · unfold Owns
    rw [List.length_append, hl]
    exact ho
  · intro g hgv
    rcases hown.form with ⟨rfl, hx⟩ | ⟨g0, cap, cur, rfl, hb, hc, hm, hs, htk⟩
    · right
      subst hx
      obtain ⟨v2, w2, hr2, ho2, _, _⟩ := run_append_own (P := P) w w.heap.size t ty e i z 1 bytes ht hi hz hsize hby hzs (by decide) (.slice none 0 0) 0 [] (World.ownsRow_nil w _ e 1) a m c news hl1 hnews h1 (by simpa using h63) (by simpa using hbytes) (Nat.le_refl _)
      have e1 := hr.symm.trans hr2
      simp only [Result.ok.injEq] at e1
      rw [e1.1] at hgv
      exact (ho2.lt g hgv).1
    · by_cases hroom : xs.length + m ≤ cap
      · left
        have hr3 := run_append_room (P := P) w t ty e i ht hi g0 xs.length cap cur hb a m c news (by rw [hsize]; exact hl1) hnews h1 hroom (by rw [hsize, hs, hl]; omega)
        have e1 := hr.symm.trans hr3
        simp only [Result.ok.injEq] at e1
        rw [e1.1] at hgv
        exact hgv.symm
      · right
        have holds : ∀ j u, xs[j]? = some u → w.cell? ((⟨g0, 0, none⟩ : Addr).add j) = some u := World.ownsRow.cells hown (g := g0) rfl
        have hr3 := run_append_grow (P := P) w t ty e i z ht hi hz ⟨g0, 0, none⟩ xs.length cap xs (by rw [hsize]; omega) holds a m c news (by rw [hsize]; exact hl1) hnews (by omega) (by simp only [maxLen] at h63; omega) (growslice_fits (by omega) (by rw [hby]; exact hbytes))
        have e1 := hr.symm.trans hr3
        simp only [Result.ok.injEq] at e1
        rw [e1.1] at hgv
        simp [Value.ownBlock] at hgv
        omega

/-- The law at the operation. -/
theorem wpList_app {ops : Array Oper} {rest : List Oper} {o : Oper} {a : Act} {Q : Exit → Act → World → Prop} (hgd : o.guard = none) (s x : Operand) (t : TypeId)
    (ho : o.op = .call { callee := .builtin .append, args := #[s, x], argTypes := #[t, t] })
    (e : TypeId) (i : TypeInfo) (z : Value) (bytes : Nat) (ht : P.underlying t = some (.slice e)) (hi : P.info? e = some i) (hz : i.zero = some z)
    (hsize : i.size = 1) (hby : i.bytes = bytes) (hzs : z.cells.size = 1)
    (v : Value) (xs : List Value) (hs : a.eval s = v) (hown : Owns w e v xs)
    (ad : Addr) (m c : Nat) (news : List Value) (hx : a.eval x = .slice (some ad) m c) (hl : news.length = m) (hnews : ∀ j u, news[j]? = some u → w.cell? (ad.add j) = some u) (h1 : ∀ u ∈ news, u.oneCell' = true)
    (h63 : xs.length + m ≤ maxLen) (hbytes : (xs.length + m) * bytes ≤ 140737488355328)
    (h : ∀ v' w', Owns w' e v' (xs ++ news) → Chg (fun k => some k = v.ownBlock) w w' → (∀ g, v'.ownBlock = some g → some g = v.ownBlock ∨ w.heap.size ≤ g) → wpList P ops Q rest (a.put o.dst v') w') : wpList P ops Q (o :: rest) a w :=
  wpList_plain hgd fun K hK => by
    obtain ⟨v', w', hr, h2, h3, h4⟩ := run_append_at (P := P) t o.type e i z bytes ht hi hz hsize hby hzs v xs hown ad m c news hl hnews h1 h63 hbytes
    unfold Oper.wp execOp
    simp only [ho, resolve, invoke, builtin, Sem.run_bind, Sem.run_pure, Result.andThen_ok, List.map_toArray, List.map_cons, List.map_nil, hs, hx, hr]
    exact hK _ _ (h v' w' h2 (Chg.of_grown h3) h4)

/-- The same, of one element that lies in a new block. -/
theorem wpList_app1 {ops : Array Oper} {rest : List Oper} {o : Oper} {a : Act} {Q : Exit → Act → World → Prop} (hgd : o.guard = none) (s x : Operand) (t : TypeId)
    (ho : o.op = .call { callee := .builtin .append, args := #[s, x], argTypes := #[t, t] })
    (e : TypeId) (i : TypeInfo) (z : Value) (bytes : Nat) (ht : P.underlying t = some (.slice e)) (hi : P.info? e = some i) (hz : i.zero = some z)
    (hsize : i.size = 1) (hby : i.bytes = bytes) (hzs : z.cells.size = 1)
    (v : Value) (xs : List Value) (u : Value) (hs : a.eval s = v) (hown : Owns w e v xs) (h1 : u.oneCell' = true)
    (hx : a.eval x = .slice (some ⟨w.heap.size, 0, none⟩) 1 1)
    (h63 : xs.length + 1 ≤ maxLen) (hbytes : (xs.length + 1) * bytes ≤ 140737488355328)
    (h : ∀ v' w', Owns w' e v' (xs ++ [u]) → Chg (fun k => some k = v.ownBlock) w w' → (∀ g, v'.ownBlock = some g → some g = v.ownBlock ∨ w.heap.size ≤ g) → wpList P ops Q rest (a.put o.dst v') w') :
    wpList P ops Q (o :: rest) a (w.alloc (.cells #[u] e)) :=
  wpList_app (w := w.alloc (.cells #[u] e)) hgd s x t ho e i z bytes ht hi hz hsize hby hzs v xs hs (hown.alloc _) ⟨w.heap.size, 0, none⟩ 1 1 [u] hx rfl
    (fun j y hj => by
      match j, hj with
      | 0, hj => simp at hj; subst hj; simp [Addr.add])
    (fun y hy => by simp at hy; subst hy; exact h1) h63 hbytes
    (fun v' w' k1 k2 k3 => h v' w' k1 ((Chg.alloc _ w _).trans k2 fun _ _ h => h) fun g hg => (k3 g hg).imp id fun h => by simp at h; omega)

/-- 'make([]T, n)', the elements of one cell. -/
theorem wpList_mk1 {ops : Array Oper} {rest : List Oper} {o : Oper} {a : Act} {Q : Exit → Act → World → Prop} (hgd : o.guard = none) (l c : Operand) (t : TypeId) (ho : o.op = Op.makeSlice t l c)
    (e : TypeId) (i : TypeInfo) (z : Value) (bytes : Nat) (ht : P.underlying t = some (.slice e)) (hi : P.info? e = some i) (hz : i.zero = some z) (hsize : i.size = 1) (hby : i.bytes = bytes) (hzs : z.cells = #[z])
    (kl kc : IntKind) (L C : Int) (n : Nat) (hl : a.eval l = .int kl L) (hc : a.eval c = .int kc C) (hL : L = (n : Int)) (hC : C = (n : Int)) (b2 : bytes * n ≤ 281474976710656) (b3 : n ≤ maxLen)
    (h : ∀ w', Owns w' e (.slice (some ⟨w.heap.size, 0, none⟩) n n) (List.replicate n z) → Below w.heap.size w w' → w.heap.size < w'.heap.size → wpList P ops Q rest (a.put o.dst (.slice (some ⟨w.heap.size, 0, none⟩) n n)) w') :
    wpList P ops Q (o :: rest) a w := by
  refine wpList_make_full w hgd l c t ho 0 e i z 1 ht hi hz hsize kl kc L C n hl hc hL hC (by rw [hby]; exact b2) b3 (Nat.zero_le _) fun w' hown hg => ?_
  rw [hzs, Nat.mul_one, toList_madeCells_one] at hown
  have ho2 : Owns w' e (.slice (some ⟨w.heap.size, 0, none⟩) n n) (List.replicate n z) := by
    unfold Owns
    rw [List.length_replicate]
    exact hown
  exact h w' ho2 ⟨hg.os, hg.tape, hg.output, hg.size, fun k hk => hg.block k hk (by simp)⟩ (ho2.lt _ rfl)
end

theorem Owns.slice {w : World} {e : TypeId} {v : Value} {xs : List Value} (h : Owns w e v xs) : ∃ a cap, v = .slice a xs.length cap ∧ (xs ≠ [] → ∃ g, a = some ⟨g, 0, none⟩) := by
  rcases h.form with ⟨rfl, rfl⟩ | ⟨g, cap, cur, rfl, _⟩
  · exact ⟨none, 0, rfl, fun h => absurd rfl h⟩
  · exact ⟨_, cap, rfl, fun _ => ⟨g, rfl⟩⟩
end Go.Proofs.Ytdbnmijnjfbibaa.Own
