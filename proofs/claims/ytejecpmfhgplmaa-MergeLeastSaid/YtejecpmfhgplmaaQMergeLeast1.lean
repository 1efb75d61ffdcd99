/- Part MergeLeast1 of what the layer's laws stand on: PAx0, Dp, Hp, Ol, Dl, Mix, Own, Sized, My, Rc, Owk, Mo, Mb, Mc, Mf, Mg, Mh, Mi, Rd, Af. Written by a program (merge.py) out of this session's own texts and of what the kit's print wrote over stand-ins (sp.py). Conditions: those that each theorem names. -/
import Derived.Test.YtejecpmfhgplmaaProg
import Derived.Below
import Derived.Deep.Draws
import Derived.Deep.AppendLies
import Derived.Maps.AppendAt
import Derived.OwnWalk
import Derived.Laws.BytesArg
import Derived.Laws.MakeOwn
import Derived.Laws.OwnMore
import Derived.Deep.OwnRows
import Derived.Tactics
import Derived.Lib.ConvBytes
import Derived.Laws.Slices
import Derived.WalkKit
import Derived.KernelRfl
import Derived.RowKit3
import Derived.Deep.LoopGhost
import Derived.Deep.QuietTactic
import Derived.BigQuiet
import Derived.WideLaws
import Derived.Deep.DeepCutAuto
import Derived.Deep.CutBlock
import Derived.Deep.RegionHeld3
import Derived.Laws.Rows
import Derived.Lib.AppendStr
import Derived.ArgAppend
import Derived.Laws.IdiomCopy
import Derived.OrdersHeld
import Derived.Laws.BitsLemmas
import Derived.RowKit
import Derived.Test.YtejecpmfhgplmaaWWords
import Derived.Test.YtejecpmfhgplmaaWLast
import Derived.Test.YtejecpmfhgplmaaWTab
import Derived.Test.YtejecpmfhgplmaaWFour
import Derived.Test.YtejecpmfhgplmaaWQPut
import Derived.Test.YtejecpmfhgplmaaWApart
import Derived.Test.YtejecpmfhgplmaaWArr
import Derived.Test.YtejecpmfhgplmaaWZeros
import Derived.Test.YtejecpmfhgplmaaWFoot
import Derived.Test.YtejecpmfhgplmaaWKept
import Derived.Test.YtejecpmfhgplmaaWShare
import Derived.Test.YtejecpmfhgplmaaWN
import Derived.Test.YtejecpmfhgplmaaWFootNe
import Derived.Test.YtejecpmfhgplmaaWAt
import Derived.Test.YtejecpmfhgplmaaWEqStruct
import Derived.Test.YtejecpmfhgplmaaWRepsOne
import Derived.Test.YtejecpmfhgplmaaWInv
import Derived.Test.YtejecpmfhgplmaaWInvWords
import Derived.Test.YtejecpmfhgplmaaWGuard
import Derived.Test.YtejecpmfhgplmaaWNEv
import Derived.Test.YtejecpmfhgplmaaWMore
import Derived.StillTail
import Derived.Deep.Quiet
import Derived.Laws.Tables
import Derived.SizedLaws
import Derived.ChangeSlices
import Derived.WalkSpells
import Derived.WalkLawsBesides
import Derived.Lib.Hide
import Derived.Deep.DeepAppendWide
-- ---- PAx0

namespace Go.Proofs.Ytejecpmfhgplmaa.PA
open Go.RowKit Go.Proofs.YtejecpmfhgplmaaW.PrintWords Go.Proofs.YtejecpmfhgplmaaW.PrintLast Go.Proofs.YtejecpmfhgplmaaW.PrintMore
attribute [local go_sem] max2_int min2_int max_two min_two max_three min_three max_four min_four   -- for this text's walks alone
set_option linter.unusedVariables false
set_option linter.unusedSimpArgs false



def errW : Option Int → Value
  | none => .nilIface
  | some c => .iface 0 (.int .i64 c)
theorem errW_none : errW none = .nilIface := rfl
theorem errW_some (c : Int) : errW (some c) = .iface 0 (.int .i64 c) := rfl

theorem info3 : (Try.prog.info? 3).map (fun i => (i.zero, i.size, i.bytes)) = some (some (.int .i64 0), 1, 8) := by kernel_rfl
-- the values' own types
/-! #### struct type 70 -/
structure S70 where
  f0 : Int
  f1 : Int
def z70 : S70 := ⟨(0 : Int), (0 : Int)⟩
def k70 : Kd S70 := Kd.iso (Kd.pair (Kd.int .i64) (Kd.int .i64)) (fun x : S70 => (x.f0, x.f1))
theorem k70_open {w : World} {x : S70} {cs : List Value} (h : k70.K w x cs) : cs = [.int .i64 x.f0, .int .i64 x.f1] := by
  obtain ⟨_, _, rfl, rfl, rfl⟩ := h
  exact rfl
theorem k70_openM {w : World} {base : Nat} {ok : Nat → Prop} {x : S70} {cs : List Value} (h : k70.M w base ok x cs) : cs = [.int .i64 x.f0, .int .i64 x.f1] := by
  obtain ⟨_, _, rfl, rfl, rfl⟩ := h
  exact rfl
theorem k70_mk (w : World) (x : S70)  : k70.K w x [.int .i64 x.f0, .int .i64 x.f1] := ⟨[.int .i64 x.f0], [.int .i64 x.f1], rfl, rfl, rfl⟩
theorem k70_mkM (w : World) (base : Nat) (ok : Nat → Prop) (x : S70)  : k70.M w base ok x [.int .i64 x.f0, .int .i64 x.f1] := ⟨[.int .i64 x.f0], [.int .i64 x.f1], rfl, rfl, rfl⟩
def rd_T70 (xs : List S70) (i : Int) : S70 := xs.getD i.toNat z70
theorem at_T70 {w : World} {A : Option Addr} {n : Nat} {xs : List S70} (h : Kd.C k70 w A n xs) (i : Int) (h0 : 0 ≤ i) (h1 : i < n) : ∃ ad , A = some ad ∧ w.cell? (ad.add (i.toNat * 2)) = some (.int .i64 (rd_T70 xs i).f0) ∧ w.cell? ⟨(ad.add (i.toNat * 2)).block, (ad.add (i.toNat * 2)).off + 1, none⟩ = some (.int .i64 (rd_T70 xs i).f1) := by
  obtain ⟨ad, c, e, _, hK, hc0⟩ := Kd.C_get h z70 i h0 h1
  have hc : ∀ j u, c[j]? = some u → w.cell? (ad.add (i.toNat * 2 + j)) = some u := hc0
  obtain rfl := k70_open hK
  exact ⟨ad, e, hc 0 _ rfl, by rw [← add_field _ _ 1 (by omega)]; exact hc 1 _ rfl⟩

/-! #### struct type 57 -/
structure S57 where
  f0 : Int
  f1 : Int
  f2 : Bool
  f3 : Bool
def z57 : S57 := ⟨(0 : Int), (0 : Int), false, false⟩
def k57 : Kd S57 := Kd.iso (Kd.pair (Kd.int .i64) (Kd.pair (Kd.int .i64) (Kd.pair Kd.bool Kd.bool))) (fun x : S57 => (x.f0, x.f1, x.f2, x.f3))
theorem k57_open {w : World} {x : S57} {cs : List Value} (h : k57.K w x cs) : cs = [.int .i64 x.f0, .int .i64 x.f1, .bool x.f2, .bool x.f3] := by
  obtain ⟨_, _, rfl, rfl, ⟨_, _, rfl, rfl, ⟨_, _, rfl, rfl, rfl⟩⟩⟩ := h
  exact rfl
theorem k57_openM {w : World} {base : Nat} {ok : Nat → Prop} {x : S57} {cs : List Value} (h : k57.M w base ok x cs) : cs = [.int .i64 x.f0, .int .i64 x.f1, .bool x.f2, .bool x.f3] := by
  obtain ⟨_, _, rfl, rfl, ⟨_, _, rfl, rfl, ⟨_, _, rfl, rfl, rfl⟩⟩⟩ := h
  exact rfl
theorem k57_mk (w : World) (x : S57)  : k57.K w x [.int .i64 x.f0, .int .i64 x.f1, .bool x.f2, .bool x.f3] := ⟨[.int .i64 x.f0], [.int .i64 x.f1, .bool x.f2, .bool x.f3], rfl, rfl, ⟨[.int .i64 x.f1], [.bool x.f2, .bool x.f3], rfl, rfl, ⟨[.bool x.f2], [.bool x.f3], rfl, rfl, rfl⟩⟩⟩
theorem k57_mkM (w : World) (base : Nat) (ok : Nat → Prop) (x : S57)  : k57.M w base ok x [.int .i64 x.f0, .int .i64 x.f1, .bool x.f2, .bool x.f3] := ⟨[.int .i64 x.f0], [.int .i64 x.f1, .bool x.f2, .bool x.f3], rfl, rfl, ⟨[.int .i64 x.f1], [.bool x.f2, .bool x.f3], rfl, rfl, ⟨[.bool x.f2], [.bool x.f3], rfl, rfl, rfl⟩⟩⟩
def rd_T57 (xs : List S57) (i : Int) : S57 := xs.getD i.toNat z57
theorem at_T57 {w : World} {A : Option Addr} {n : Nat} {xs : List S57} (h : Kd.C k57 w A n xs) (i : Int) (h0 : 0 ≤ i) (h1 : i < n) : ∃ ad , A = some ad ∧ w.cell? (ad.add (i.toNat * 4)) = some (.int .i64 (rd_T57 xs i).f0) ∧ w.cell? ⟨(ad.add (i.toNat * 4)).block, (ad.add (i.toNat * 4)).off + 1, none⟩ = some (.int .i64 (rd_T57 xs i).f1) ∧ w.cell? ⟨(ad.add (i.toNat * 4)).block, (ad.add (i.toNat * 4)).off + 2, none⟩ = some (.bool (rd_T57 xs i).f2) ∧ w.cell? ⟨(ad.add (i.toNat * 4)).block, (ad.add (i.toNat * 4)).off + 3, none⟩ = some (.bool (rd_T57 xs i).f3) := by
  obtain ⟨ad, c, e, _, hK, hc0⟩ := Kd.C_get h z57 i h0 h1
  have hc : ∀ j u, c[j]? = some u → w.cell? (ad.add (i.toNat * 4 + j)) = some u := hc0
  obtain rfl := k57_open hK
  exact ⟨ad, e, hc 0 _ rfl, by rw [← add_field _ _ 1 (by omega)]; exact hc 1 _ rfl, by rw [← add_field _ _ 2 (by omega)]; exact hc 2 _ rfl, by rw [← add_field _ _ 3 (by omega)]; exact hc 3 _ rfl⟩

end Go.Proofs.Ytejecpmfhgplmaa.PA

-- ---- Dp
/- The cheapest lengths of codes, level by level: plain facts. No program in sight. -/
namespace Go.Proofs.Ytejecpmfhgplmaa.Dp
set_option linter.unusedSimpArgs false
set_option linter.unusedVariables false

/-- One more candidate: only what is less takes the place. -/
def upd (a : Option (Int × Nat)) (c : Option Int) (k : Nat) : Option (Int × Nat) :=
  match c with
  | none => a
  | some x => match a with
    | none => some (x, k)
    | some (y, m) => if x < y then some (x, k) else some (y, m)
/-- The candidates below n, from the greatest on. -/
def run (c : Nat → Option Int) (a : Option (Int × Nat)) : Nat → Option (Int × Nat)
  | 0 => a
  | n + 1 => run c (upd a (c n) n) n
def best (c : Nat → Option Int) (o : Nat) : Option (Int × Nat) := run c none (o + 1)

/-- The best of the candidates from n to o: the greatest of those that are least. -/
def IsB (c : Nat → Option Int) (n o : Nat) : Option (Int × Nat) → Prop
  | none => ∀ j, n ≤ j → j ≤ o → c j = none
  | some (x, k) => n ≤ k ∧ k ≤ o ∧ c k = some x ∧ ∀ j y, n ≤ j → j ≤ o → c j = some y → x ≤ y ∧ (k < j → x < y)

theorem isB_upd {c : Nat → Option Int} {n o : Nat} {a : Option (Int × Nat)} (h : IsB c (n + 1) o a) (hn : n ≤ o) : IsB c n o (upd a (c n) n) := by
  cases hc : c n with
  | none =>
    show IsB c n o a
    cases a with
    | none =>
      intro j h1 h2
      by_cases e : j = n
      · rw [e]; exact hc
      · exact h j (by omega) h2
    | some p =>
      obtain ⟨x, k⟩ := p
      obtain ⟨h1, h2, h3, h4⟩ := h
      refine ⟨by omega, h2, h3, fun j y j1 j2 hj => ?_⟩
      by_cases e : j = n
      · rw [e, hc] at hj; cases hj
      · exact h4 j y (by omega) j2 hj
  | some x =>
    cases a with
    | none =>
      show IsB c n o (some (x, n))
      refine ⟨Nat.le_refl _, hn, hc, fun j y j1 j2 hj => ?_⟩
      by_cases e : j = n
      · subst e; rw [hc] at hj; cases hj; exact ⟨Int.le_refl _, fun h => by omega⟩
      · rw [h j (by omega) j2] at hj; cases hj
    | some p =>
      obtain ⟨y, m⟩ := p
      obtain ⟨h1, h2, h3, h4⟩ := h
      show IsB c n o (if x < y then some (x, n) else some (y, m))
      by_cases hxy : x < y
      · rw [if_pos hxy]
        refine ⟨Nat.le_refl _, hn, hc, fun j z j1 j2 hj => ?_⟩
        by_cases e : j = n
        · subst e; rw [hc] at hj; cases hj; exact ⟨Int.le_refl _, fun h => by omega⟩
        · have := (h4 j z (by omega) j2 hj).1; exact ⟨by omega, fun _ => by omega⟩
      · rw [if_neg hxy]
        refine ⟨by omega, h2, h3, fun j z j1 j2 hj => ?_⟩
        by_cases e : j = n
        · subst e; rw [hc] at hj; cases hj; exact ⟨by omega, fun h => by omega⟩
        · exact h4 j z (by omega) j2 hj
theorem isB_run {c : Nat → Option Int} {o : Nat} : ∀ (n : Nat) (a : Option (Int × Nat)), n ≤ o + 1 → IsB c n o a → IsB c 0 o (run c a n) := by
  intro n
  induction n with
  | zero => intro a _ h; exact h
  | succ n ih => intro a hn h; exact ih _ (by omega) (isB_upd h (by omega))
theorem best_spec (c : Nat → Option Int) (o : Nat) : IsB c 0 o (best c o) := isB_run _ _ (Nat.le_refl _) (fun j h1 h2 => by omega)
theorem isB_uniq {c : Nat → Option Int} {o : Nat} {a b : Option (Int × Nat)} (ha : IsB c 0 o a) (hb : IsB c 0 o b) : a = b := by
  cases a with
  | none =>
    cases b with
    | none => rfl
    | some q => obtain ⟨y, m⟩ := q; obtain ⟨_, h2, h3, _⟩ := hb; rw [ha m (by omega) h2] at h3; cases h3
  | some p =>
    obtain ⟨x, k⟩ := p
    obtain ⟨_, a2, a3, a4⟩ := ha
    cases b with
    | none => rw [hb k (by omega) a2] at a3; cases a3
    | some q =>
      obtain ⟨y, m⟩ := q
      obtain ⟨_, b2, b3, b4⟩ := hb
      have h1 := a4 m y (by omega) b2 b3
      have h2 := b4 k x (by omega) a2 a3
      have hx : x = y := by omega
      have hk : k = m := by
        rcases Nat.lt_trichotomy k m with h | h | h
        · have := h1.2 h; omega
        · exact h
        · have := h2.2 h; omega
      rw [hx, hk]
theorem best_some {c : Nat → Option Int} {o k : Nat} {x : Int} (hk : k ≤ o) (hc : c k = some x) : ∃ y m, best c o = some (y, m) ∧ y ≤ x := by
  have := best_spec c o
  cases hb : best c o with
  | none => rw [hb] at this; rw [this k (by omega) hk] at hc; cases hc
  | some p => obtain ⟨y, m⟩ := p; rw [hb] at this; exact ⟨y, m, rfl, (this.2.2.2 k x (by omega) hk hc).1⟩

/-- What the frequencies g cost at least behind a level that has so many open places, r levels from this one on; each that is not told here is one longer. None: it cannot be. -/
def dp : Nat → List Int → Nat → Option Int
  | 0, g, o => if g = [] then (if o = 0 then some 0 else none) else none
  | r + 1, g, o =>
    if g = [] then (if o = 0 then some 0 else none)
    else if o = 0 ∨ g.length < o then none
    else (best (fun k => (dp r (g.drop k) (2 * (o - k))).map (· + (g.drop k).sum)) o).map Prod.fst
def cand (r : Nat) (g : List Int) (o k : Nat) : Option Int := (dp r (g.drop k) (2 * (o - k))).map (· + (g.drop k).sum)
def take (r : Nat) (g : List Int) (o : Nat) : Nat := match best (cand r g o) o with
  | some (_, k) => k
  | none => 0
theorem dp_nil (r o : Nat) : dp r [] o = if o = 0 then some 0 else none := by cases r <;> simp [dp]
theorem dp_out {r : Nat} {g : List Int} {o : Nat} (hg : g ≠ []) (h : o = 0 ∨ g.length < o ∨ r = 0) : dp r g o = none := by
  cases r with
  | zero => simp [dp, hg]
  | succ r =>
    rcases h with h | h | h
    · simp [dp, hg, h]
    · simp [dp, hg, h]
    · omega
theorem dp_in {r : Nat} {g : List Int} {o : Nat} (hg : g ≠ []) (h1 : 1 ≤ o) (h2 : o ≤ g.length) : dp (r + 1) g o = (best (cand r g o) o).map Prod.fst := by
  show (if g = [] then _ else if o = 0 ∨ g.length < o then none else _) = _
  rw [if_neg hg, if_neg (by omega)]; rfl
theorem take_le (r : Nat) (g : List Int) (o : Nat) : take r g o ≤ o := by
  unfold take
  have := best_spec (cand r g o) o
  cases hb : best (cand r g o) o with
  | none => simp
  | some p => obtain ⟨y, m⟩ := p; rw [hb] at this; exact this.2.1
/-- What is known of a state that can be. -/
theorem dp_some {r : Nat} {g : List Int} {o : Nat} {x : Int} (h : dp (r + 1) g o = some x) (hg : g ≠ []) :
    1 ≤ o ∧ o ≤ g.length ∧ ∃ y, dp r (g.drop (take r g o)) (2 * (o - take r g o)) = some y ∧ x = y + (g.drop (take r g o)).sum := by
  by_cases h0 : o = 0 ∨ g.length < o
  · rw [dp_out hg (by omega)] at h; cases h
  refine ⟨by omega, by omega, ?_⟩
  rw [dp_in hg (by omega) (by omega)] at h
  have hs := best_spec (cand r g o) o
  cases hb : best (cand r g o) o with
  | none => rw [hb] at h; cases h
  | some p =>
    obtain ⟨z, k⟩ := p
    have ht : take r g o = k := by unfold take; rw [hb]
    rw [ht]
    rw [hb] at h hs
    simp only [Option.map_some, Option.some.injEq] at h
    obtain ⟨_, h2, h3, _⟩ := hs
    unfold cand at h3
    cases hd : dp r (g.drop k) (2 * (o - k)) with
    | none => rw [hd] at h3; cases h3
    | some y => rw [hd] at h3; simp at h3; exact ⟨y, rfl, by omega⟩

/-- The lengths, from a level on. -/
def lens : Nat → Nat → List Int → Nat → List Nat
  | 0, _, _, _ => []
  | r + 1, d, g, o => if g = [] then [] else List.replicate (take r g o) d ++ lens r (d + 1) (g.drop (take r g o)) (2 * (o - take r g o))
theorem lens_nil (r d o : Nat) : lens r d [] o = [] := by cases r <;> simp [lens]
theorem lens_cons {r d : Nat} {g : List Int} {o : Nat} (hg : g ≠ []) : lens (r + 1) d g o = List.replicate (take r g o) d ++ lens r (d + 1) (g.drop (take r g o)) (2 * (o - take r g o)) := by
  show (if g = [] then _ else _) = _
  rw [if_neg hg]

/-- Sums over lengths. -/
def wsum (L : Nat) (ns : List Nat) : Nat := (ns.map fun n => 2 ^ (L - n)).sum
def cost (d : Nat) : List Int → List Nat → Int
  | f :: fs, n :: ns => f * ((n : Int) - d) + cost d fs ns
  | _, _ => 0
theorem wsum_append (L : Nat) (a b : List Nat) : wsum L (a ++ b) = wsum L a + wsum L b := by simp [wsum]
theorem wsum_cons (L n : Nat) (b : List Nat) : wsum L (n :: b) = 2 ^ (L - n) + wsum L b := by simp [wsum]
theorem wsum_replicate (L n k : Nat) : wsum L (List.replicate k n) = k * 2 ^ (L - n) := by simp [wsum]
theorem cost_next (d : Nat) : ∀ (g : List Int) (ns : List Nat), ns.length = g.length → cost d g ns = cost (d + 1) g ns + g.sum := by
  intro g
  induction g with
  | nil => intro ns h; cases ns <;> simp [cost]
  | cons f fs ih =>
    intro ns h
    cases ns with
    | nil => simp at h
    | cons n ns =>
      simp only [cost, List.sum_cons]
      rw [ih ns (by simpa using h), show ((n : Int) - d) = ((n : Int) - ((d + 1 : Nat) : Int)) + 1 by omega, Int.mul_add, Int.mul_one]
      omega
theorem cost_replicate (d : Nat) : ∀ (k : Nat) (g : List Int) (ns : List Nat), cost d g (List.replicate k d ++ ns) = cost d (g.drop k) ns := by
  intro k
  induction k with
  | zero => intro g ns; simp
  | succ k ih =>
    intro g ns
    cases g with
    | nil => cases ns <;> simp [cost, List.replicate_succ]
    | cons f fs =>
      rw [List.replicate_succ, List.cons_append]
      simp only [cost, List.drop_succ_cons]
      rw [ih]; simp

theorem lens_spec (L : Nat) : ∀ (r d : Nat) (g : List Int) (o : Nat) (x : Int), d + r ≤ L + 1 → dp r g o = some x →
    (lens r d g o).length = g.length ∧ (∀ n ∈ lens r d g o, d ≤ n ∧ n < d + r ∧ n + o ≤ d + g.length) ∧ (lens r d g o).Pairwise (· ≤ ·) ∧ wsum L (lens r d g o) = o * 2 ^ (L - d) ∧ cost d g (lens r d g o) = x := by
  intro r
  induction r with
  | zero =>
    intro d g o x hd h
    by_cases hg : g = []
    · subst hg
      rw [dp_nil] at h
      by_cases ho : o = 0
      · subst ho; simp at h; subst h; simp [lens, wsum, cost]
      · rw [if_neg ho] at h; cases h
    · rw [dp_out hg (by omega)] at h; cases h
  | succ r ih =>
    intro d g o x hd h
    by_cases hg : g = []
    · subst hg
      rw [dp_nil] at h
      by_cases ho : o = 0
      · subst ho; simp at h; subst h; simp [lens, wsum, cost]
      · rw [if_neg ho] at h; cases h
    · obtain ⟨h1, h2, y, hy, hx⟩ := dp_some h hg
      have htk := take_le r g o
      rw [lens_cons hg]
      obtain ⟨k, hk⟩ : ∃ k, k = take r g o := ⟨_, rfl⟩
      rw [← hk] at hy hx htk ⊢
      obtain ⟨i1, i2, i3, i4, i5⟩ := ih (d + 1) (g.drop k) (2 * (o - k)) y (by omega) hy
      have hlen : (List.replicate k d ++ lens r (d + 1) (g.drop k) (2 * (o - k))).length = g.length := by
        rw [List.length_append, i1, List.length_replicate, List.length_drop]; omega
      refine ⟨hlen, ?_, ?_, ?_, ?_⟩
      · intro n hn
        rcases List.mem_append.1 hn with hn | hn
        · have := (List.mem_replicate.1 hn).2; omega
        · have h3 := i2 n hn
          rw [List.length_drop] at h3
          have : k < g.length := by
            have hl : 0 < (lens r (d + 1) (g.drop k) (2 * (o - k))).length := List.length_pos_of_mem hn
            rw [i1, List.length_drop] at hl; omega
          have hko : k < o := by
            rcases Nat.lt_or_ge k o with h | h
            · exact h
            · have e : 2 * (o - k) = 0 := by omega
              rw [e] at hy
              have hne : g.drop k ≠ [] := by intro e; have := congrArg List.length e; rw [List.length_drop] at this; simp at this; omega
              rw [dp_out hne (.inl rfl)] at hy; cases hy
          omega
      · rw [List.pairwise_append]
        refine ⟨List.pairwise_replicate.2 (.inr (Nat.le_refl _)), i3, fun a ha b hb => ?_⟩
        have := (List.mem_replicate.1 ha).2
        have := (i2 b hb).1
        omega
      · rw [wsum_append, wsum_replicate, i4]
        by_cases hL : d + 1 ≤ L
        · have e : 2 ^ (L - d) = 2 * 2 ^ (L - (d + 1)) := by
            rw [show L - d = (L - (d + 1)) + 1 by omega, Nat.pow_succ]; omega
          rw [e]
          generalize 2 ^ (L - (d + 1)) = P
          rw [Nat.mul_right_comm 2 (o - k) P, Nat.mul_comm (2 * P) (o - k), ← Nat.add_mul]
          congr 1; omega
        · have hr : r = 0 := by omega
          subst hr
          have ho : 2 * (o - k) = 0 := by
            by_cases hd0 : g.drop k = []
            · rw [hd0, dp_nil] at hy
              by_cases e : 2 * (o - k) = 0
              · exact e
              · rw [if_neg e] at hy; cases hy
            · rw [dp_out hd0 (by omega)] at hy; cases hy
          have : k = o := by omega
          rw [ho, Nat.zero_mul, Nat.add_zero, this]
      · rw [cost_replicate, cost_next d (g.drop k) _ (by rw [i1]), i5, hx]

/-- No others cost less: any in order that fill the places. -/
theorem dp_least (L : Nat) : ∀ (r d : Nat) (g : List Int) (o : Nat) (ns : List Nat), d + r ≤ L + 1 → ns.length = g.length → (∀ n ∈ ns, d ≤ n ∧ n < d + r) → ns.Pairwise (· ≤ ·) → wsum L ns = o * 2 ^ (L - d) →
    ∃ x, dp r g o = some x ∧ x ≤ cost d g ns := by
  intro r
  induction r with
  | zero =>
    intro d g o ns hd hl hm _ hw
    cases ns with
    | nil =>
      have hg : g = [] := by cases g <;> simp_all
      subst hg
      have ho : o = 0 := by
        have hp : 0 < 2 ^ (L - d) := Nat.pow_pos (by decide)
        simp only [wsum, List.map_nil, List.sum_nil] at hw
        rcases Nat.mul_eq_zero.1 hw.symm with h | h
        · exact h
        · omega
      exact ⟨0, by rw [dp_nil, if_pos ho], by simp [cost]⟩
    | cons n ns => have := hm n (by simp); omega
  | succ r ih =>
    intro d g o ns hd hl hm hs hw
    have hp : 0 < 2 ^ (L - d) := Nat.pow_pos (by decide)
    by_cases hg : g = []
    · subst hg
      have : ns = [] := by cases ns <;> simp_all
      subst this
      have ho : o = 0 := by
        simp only [wsum, List.map_nil, List.sum_nil] at hw
        rcases Nat.mul_eq_zero.1 hw.symm with h | h
        · exact h
        · omega
      exact ⟨0, by rw [dp_nil, if_pos ho], by simp [cost]⟩
    · -- those of this level stand ahead
      have split : ∀ (ms : List Nat), ms.Pairwise (· ≤ ·) → (∀ n ∈ ms, d ≤ n ∧ n < d + (r + 1)) → ∃ k rest, ms = List.replicate k d ++ rest ∧ (∀ n ∈ rest, d + 1 ≤ n ∧ n < d + (r + 1)) ∧ rest.Pairwise (· ≤ ·) := by
        intro ms
        induction ms with
        | nil => intro _ _; exact ⟨0, [], rfl, fun n h => (by cases h), List.Pairwise.nil⟩
        | cons a t iht =>
          intro hs hm
          obtain ⟨s1, s2⟩ := List.pairwise_cons.1 hs
          by_cases ha : a = d
          · obtain ⟨k, rest, e, h1, h2⟩ := iht s2 fun n hn => hm n (List.mem_cons_of_mem _ hn)
            exact ⟨k + 1, rest, by rw [List.replicate_succ, List.cons_append, ← e, ha], h1, h2⟩
          · refine ⟨0, a :: t, rfl, fun n hn => ?_, hs⟩
            have ha2 := hm a (by simp)
            rcases List.mem_cons.1 hn with rfl | hn
            · omega
            · have := s1 n hn; have := hm n (List.mem_cons_of_mem _ hn); omega
      obtain ⟨k, rest, e, h1, h2⟩ := split ns hs hm
      subst e
      rw [List.length_append, List.length_replicate] at hl
      rw [wsum_append, wsum_replicate] at hw
      have hrest : rest.length = (g.drop k).length := by rw [List.length_drop]; omega
      -- the places
      have hwr : ∀ (ms : List Nat), (∀ n ∈ ms, d + 1 ≤ n ∧ n < d + (r + 1)) → wsum L ms * 2 ≤ ms.length * 2 ^ (L - d) ∧ (2 ^ (L - d) ≤ 0 ∨ ms = [] ∨ 0 < wsum L ms) := by
        intro ms
        induction ms with
        | nil => intro _; exact ⟨by simp [wsum], .inr (.inl rfl)⟩
        | cons a t iht =>
          intro hm
          obtain ⟨i1, i2⟩ := iht fun n hn => hm n (List.mem_cons_of_mem _ hn)
          have ha := hm a (by simp)
          have hpa : 0 < 2 ^ (L - a) := Nat.pow_pos (by decide)
          have h2 : 2 ^ (L - a) * 2 ≤ 2 ^ (L - d) := by
            rw [← Nat.pow_succ]; exact Nat.pow_le_pow_right (by decide) (by omega)
          rw [wsum_cons, List.length_cons, Nat.add_mul, Nat.add_mul]
          exact ⟨by omega, .inr (.inr (by omega))⟩
      obtain ⟨w1, w2⟩ := hwr rest h1
      have hko : k ≤ o := by
        rcases Nat.lt_or_ge o k with h | h
        · have : o * 2 ^ (L - d) < k * 2 ^ (L - d) := Nat.mul_lt_mul_of_pos_right h hp
          omega
        · exact h
      have hog : o ≤ g.length := by
        rcases Nat.lt_or_ge g.length o with h | h
        · have h3 : (k + rest.length) * 2 ^ (L - d) < o * 2 ^ (L - d) := Nat.mul_lt_mul_of_pos_right (by omega) hp
          rw [Nat.add_mul] at h3
          omega
        · exact h
      have ho1 : 1 ≤ o := by
        rcases Nat.eq_zero_or_pos o with h | h
        · subst h
          rw [Nat.zero_mul] at hw
          have hk0 : k = 0 := by
            rcases Nat.mul_eq_zero.1 (show k * 2 ^ (L - d) = 0 by omega) with h | h <;> omega
          have hr0 : rest = [] := by
            rcases w2 with h | h | h
            · omega
            · exact h
            · omega
          subst hk0 hr0
          simp at hl
          exact absurd (List.length_eq_zero_iff.1 hl.symm) hg
        · exact h
      have hrw : wsum L rest = 2 * (o - k) * 2 ^ (L - (d + 1)) := by
        by_cases hL : d + 1 ≤ L
        · have e : 2 ^ (L - d) = 2 * 2 ^ (L - (d + 1)) := by
            rw [show L - d = (L - (d + 1)) + 1 by omega, Nat.pow_succ]; omega
          rw [e] at hw
          generalize 2 ^ (L - (d + 1)) = P at hw ⊢
          rw [Nat.mul_right_comm 2 (o - k) P, Nat.mul_comm (2 * P) (o - k), Nat.sub_mul]
          omega
        · have hr : r = 0 := by omega
          subst hr
          have : rest = [] := by
            cases rest with
            | nil => rfl
            | cons a t => have := h1 a (by simp); omega
          subst this
          have hko2 : k = o := by
            have h3 : k * 2 ^ (L - d) = o * 2 ^ (L - d) := by simpa [wsum] using hw
            exact Nat.eq_of_mul_eq_mul_right hp h3
          subst hko2
          simp [wsum]
      obtain ⟨x, hx, hle⟩ := ih (d + 1) (g.drop k) (2 * (o - k)) rest (by omega) hrest (fun n hn => by have := h1 n hn; omega) h2 hrw
      have hc : cand r g o k = some (x + (g.drop k).sum) := by unfold cand; rw [hx]; rfl
      obtain ⟨y, m, hb, hy⟩ := best_some hko hc
      refine ⟨y, by rw [dp_in hg ho1 hog, hb]; rfl, ?_⟩
      rw [cost_replicate, cost_next d (g.drop k) rest hrest]
      omega

/-- It can be: so many, no more than the places that the levels below have. -/
theorem dp_can : ∀ (r : Nat) (g : List Int) (o : Nat), 1 ≤ o → o ≤ g.length → g.length ≤ o * 2 ^ r → ∃ x, dp (r + 1) g o = some x := by
  intro r
  induction r with
  | zero =>
    intro g o h1 h2 h3
    have hl : g.length = o := by simp at h3; omega
    have hg : g ≠ [] := by intro e; subst e; simp at hl; omega
    have hc : cand 0 g o o = some (0 + (g.drop o).sum) := by
      unfold cand
      rw [List.drop_eq_nil_of_le (by omega), Nat.sub_self, Nat.mul_zero, dp_nil]; rfl
    obtain ⟨y, m, hb, _⟩ := best_some (Nat.le_refl o) hc
    exact ⟨y, by rw [dp_in hg h1 h2, hb]; rfl⟩
  | succ r ih =>
    intro g o h1 h2 h3
    have hg : g ≠ [] := by intro e; subst e; simp at h2; omega
    by_cases he : g.length = o
    · have hc : cand (r + 1) g o o = some (0 + (g.drop o).sum) := by
        unfold cand
        rw [List.drop_eq_nil_of_le (by omega), Nat.sub_self, Nat.mul_zero, dp_nil]; rfl
      obtain ⟨y, m, hb, _⟩ := best_some (Nat.le_refl o) hc
      exact ⟨y, by rw [dp_in hg h1 h2, hb]; rfl⟩
    · have hp : 1 ≤ 2 ^ r := Nat.pow_pos (by decide)
      have hp2 : 2 ^ (r + 1) = 2 * 2 ^ r := by rw [Nat.pow_succ]; omega
      obtain ⟨k, hk⟩ : ∃ k, k = 2 * o - g.length := ⟨_, rfl⟩
      have hko : k < o := by omega
      have hlen : (g.drop k).length = g.length - k := List.length_drop
      have hbig : g.length - k ≤ 2 * (o - k) * 2 ^ r := by
        by_cases hk0 : k = 0
        · subst hk0
          rw [hp2] at h3
          rw [Nat.sub_zero, Nat.sub_zero, Nat.mul_right_comm, Nat.mul_comm (2 * 2 ^ r) o]
          exact h3
        · have : 2 * (o - k) * 1 ≤ 2 * (o - k) * 2 ^ r := Nat.mul_le_mul_left _ hp
          omega
      obtain ⟨x, hx⟩ := ih (g.drop k) (2 * (o - k)) (by omega) (by omega) (by rw [hlen]; exact hbig)
      have hc : cand (r + 1) g o k = some (x + (g.drop k).sum) := by unfold cand; rw [hx]; rfl
      obtain ⟨y, m, hb, _⟩ := best_some (by omega : k ≤ o) hc
      exact ⟨y, by rw [dp_in hg h1 h2, hb]; rfl⟩

/-- What it costs is nought at least. -/
theorem dp_nonneg : ∀ (r : Nat) (g : List Int) (o : Nat) (x : Int), (∀ f ∈ g, 0 ≤ f) → dp r g o = some x → 0 ≤ x := by
  have hsum : ∀ (g : List Int), (∀ f ∈ g, 0 ≤ f) → 0 ≤ g.sum := by
    intro g
    induction g with
    | nil => intro _; simp
    | cons a t ih => intro h; have := h a (by simp); have := ih fun f hf => h f (List.mem_cons_of_mem _ hf); rw [List.sum_cons]; omega
  intro r
  induction r with
  | zero =>
    intro g o x hg h
    by_cases e : g = []
    · subst e; rw [dp_nil] at h; split at h <;> simp at h; omega
    · rw [dp_out e (by omega)] at h; cases h
  | succ r ih =>
    intro g o x hg h
    by_cases e : g = []
    · subst e; rw [dp_nil] at h; split at h <;> simp at h; omega
    · obtain ⟨_, _, y, hy, hx⟩ := dp_some h e
      have hd : ∀ f ∈ g.drop (take r g o), 0 ≤ f := fun f hf => hg f (List.mem_of_mem_drop hf)
      have := ih _ _ _ hd hy
      have := hsum _ hd
      omega
end Go.Proofs.Ytejecpmfhgplmaa.Dp

-- ---- Hp
/- Heaps that lie in lists: plain facts. No program in sight. -/
namespace Go.Proofs.Ytejecpmfhgplmaa.Hp
set_option linter.unusedSimpArgs false
set_option linter.unusedVariables false
set_option linter.unusedSectionVars false

/-- What a total order's Less says. -/
structure Ord {α : Type} (lt : α → α → Bool) : Prop where
  irr : ∀ a, lt a a = false
  tr : ∀ a b c, lt a b = true → lt b c = true → lt a c = true
  tot : ∀ a b, lt a b = false → lt b a = false → a = b

section
variable {α : Type} {lt : α → α → Bool} (O : Ord lt)
include O
theorem Ord.asym {a b : α} (h : lt a b = true) : lt b a = false := by
  cases e : lt b a with
  | false => rfl
  | true => have := O.tr _ _ _ h e; rw [O.irr] at this; cases this
/-- Not less, in a row. -/
theorem Ord.le {a b c : α} (h1 : lt b a = false) (h2 : lt c b = false) : lt c a = false := by
  cases e : lt c a with
  | false => rfl
  | true =>
    cases e2 : lt a b with
    | true => have := O.tr _ _ _ e e2; rw [this] at h2; cases h2
    | false => have := O.tot _ _ e2 h1; subst this; rw [e] at h2; cases h2
end

theorem snoc_ind {β : Type} {P : List β → Prop} (h0 : P []) (h1 : ∀ l a, P l → P (l ++ [a])) (l : List β) : P l := by
  have : ∀ n (l : List β), l.length = n → P l := by
    intro n
    induction n with
    | zero => intro l h; rw [List.length_eq_zero_iff.1 h]; exact h0
    | succ n ih =>
      intro l h
      have hne : l ≠ [] := fun e => by rw [e] at h; simp at h
      rw [← List.dropLast_concat_getLast hne]
      exact h1 _ _ (ih _ (by simp; omega))
  exact this _ l rfl

variable {α : Type} [Inhabited α]
def at_ (l : List α) (i : Nat) : α := l.getD i default
def swapL (l : List α) (i j : Nat) : List α := (l.set i (at_ l j)).set j (at_ l i)
theorem length_swapL (l : List α) (i j : Nat) : (swapL l i j).length = l.length := by simp [swapL]
theorem at_lt (l : List α) (i : Nat) (h : i < l.length) : at_ l i = l[i] := by simp [at_, List.getD_eq_getElem?_getD, h]
theorem at_swap (l : List α) (i j k : Nat) (hi : i < l.length) (hj : j < l.length) : at_ (swapL l i j) k = if k = j then at_ l i else if k = i then at_ l j else at_ l k := by
  unfold swapL
  by_cases h1 : k = j
  · subst h1; simp [at_, List.getD_eq_getElem?_getD, hj]
  · by_cases h2 : k = i
    · subst h2
      rw [if_neg h1, if_pos rfl]
      unfold at_
      simp only [List.getD_eq_getElem?_getD]
      rw [List.getElem?_set_ne (Ne.symm h1), List.getElem?_set_self hi]; rfl
    · rw [if_neg h1, if_neg h2]
      unfold at_
      simp only [List.getD_eq_getElem?_getD]
      rw [List.getElem?_set_ne (Ne.symm h1), List.getElem?_set_ne (Ne.symm h2)]

theorem perm_set_cons (l : List α) : ∀ (i : Nat) (x : α), i < l.length → (x :: l).Perm (at_ l i :: l.set i x) := by
  induction l with
  | nil => intro i x h; simp at h
  | cons a t ih =>
    intro i x h
    cases i with
    | zero => simp [at_]; exact List.Perm.swap _ _ _
    | succ i =>
      have h2 := ih i x (by simpa using h)
      have e : at_ (a :: t) (i + 1) = at_ t i := by simp [at_]
      rw [e, List.set_cons_succ]
      exact (List.Perm.swap a x t).trans ((h2.cons a).trans (List.Perm.swap _ _ _))
theorem perm_swap (l : List α) (i j : Nat) (hi : i < l.length) (hj : j < l.length) : (swapL l i j).Perm l := by
  by_cases hij : i = j
  · subst hij
    have : swapL l i i = l := by
      unfold swapL; rw [List.set_set]
      rw [at_lt l i hi]; exact List.set_getElem_self hi
    rw [this]
  · have h1 := perm_set_cons l i (at_ l j) hi
    have h2 := perm_set_cons (l.set i (at_ l j)) j (at_ l i) (by simpa using hj)
    have e : at_ (l.set i (at_ l j)) j = at_ l j := by
      unfold at_; simp only [List.getD_eq_getElem?_getD]; rw [List.getElem?_set_ne hij]
    rw [e] at h2
    have h3 := h1.trans h2
    exact ((List.perm_cons _).1 h3).symm

def par (i : Nat) : Nat := (i - 1) / 2
theorem par_lt {i : Nat} (h : 0 < i) : par i < i := by unfold par; omega

/-- The first n elements are a heap. -/
def Heap (lt : α → α → Bool) (l : List α) (n : Nat) : Prop := ∀ i, 0 < i → i < n → lt (at_ l i) (at_ l (par i)) = false
/-- .. but at j, on the way up. -/
def UpInv (lt : α → α → Bool) (l : List α) (n j : Nat) : Prop :=
  (∀ i, 0 < i → i < n → i ≠ j → lt (at_ l i) (at_ l (par i)) = false) ∧ ∀ i, 0 < j → 0 < i → i < n → par i = j → lt (at_ l i) (at_ l (par j)) = false
/-- .. but below j, on the way down. -/
def DownInv (lt : α → α → Bool) (l : List α) (n j : Nat) : Prop :=
  (∀ i, 0 < i → i < n → par i ≠ j → lt (at_ l i) (at_ l (par i)) = false) ∧ ∀ i, 0 < j → 0 < i → i < n → par i = j → lt (at_ l i) (at_ l (par j)) = false

section
variable {lt : α → α → Bool}
theorem up_done {l : List α} {n j : Nat} (h : UpInv lt l n j) (hj : j = 0 ∨ lt (at_ l j) (at_ l (par j)) = false) : Heap lt l n := fun i hi hn => by
  by_cases e : i = j
  · subst e
    rcases hj with hj | hj
    · omega
    · exact hj
  · exact h.1 i hi hn e
theorem up_step (O : Ord lt) {l : List α} {n j : Nat} (h : UpInv lt l n j) (hj : 0 < j) (hn : j < n) (hl : n ≤ l.length) (hlt : lt (at_ l j) (at_ l (par j)) = true) : UpInv lt (swapL l (par j) j) n (par j) := by
  have hp := par_lt hj
  have A := fun k => at_swap l (par j) j k (by omega) (by omega)
  constructor
  · intro i hi hin hip
    rw [A i, A (par i)]
    have hpi := par_lt hi
    by_cases e : i = j
    · subst e
      rw [if_pos rfl, if_neg (by omega), if_pos rfl]
      exact O.asym hlt
    · rw [if_neg e, if_neg hip]
      by_cases e1 : par i = j
      · rw [if_pos e1]; exact h.2 i hj hi hin e1
      · rw [if_neg e1]
        by_cases e2 : par i = par j
        · rw [if_pos e2]
          have := h.1 i hi hin e
          rw [e2] at this
          exact O.le (O.asym hlt) this
        · rw [if_neg e2]; exact h.1 i hi hin e
  · intro i hp0 hi hin hip
    have hpp := par_lt hp0
    rw [A i, A (par (par j)), if_neg (show par (par j) ≠ j by omega), if_neg (show par (par j) ≠ par j by omega)]
    have h1 := h.1 (par j) hp0 (by omega) (by omega)
    by_cases e : i = j
    · rw [if_pos e]; exact h1
    · have := par_lt hi
      rw [if_neg e, if_neg (by omega)]
      have h2 := h.1 i hi hin e
      rw [hip] at h2
      exact O.le h1 h2
theorem up_start {l : List α} {x : α} (h : Heap lt l l.length) : UpInv lt (l ++ [x]) (l.length + 1) l.length := by
  have A : ∀ k, k < l.length → at_ (l ++ [x]) k = at_ l k := fun k hk => by simp [at_, List.getD_eq_getElem?_getD, List.getElem?_append_left hk]
  constructor
  · intro i hi hin hne
    have := par_lt hi
    rw [A i (by omega), A (par i) (by omega)]
    exact h i hi (by omega)
  · intro i h0 hi hin hp
    have := par_lt hi
    omega

theorem down_done {l : List α} {n j : Nat} (h : DownInv lt l n j) (hc : ∀ i, 0 < i → i < n → par i = j → lt (at_ l i) (at_ l j) = false) : Heap lt l n := fun i hi hn => by
  by_cases e : par i = j
  · rw [e]; exact hc i hi hn e
  · exact h.1 i hi hn e
theorem down_step (O : Ord lt) {l : List α} {n i0 j : Nat} (h : DownInv lt l n i0) (hj : 0 < j) (hn : j < n) (hl : n ≤ l.length) (hp : par j = i0) (hlt : lt (at_ l j) (at_ l i0) = true) (hc : ∀ i, 0 < i → i < n → par i = i0 → lt (at_ l i) (at_ l j) = false) : DownInv lt (swapL l i0 j) n j := by
  have hpj := par_lt hj
  rw [hp] at hpj
  have A := fun k => at_swap l i0 j k (by omega) (by omega)
  constructor
  · intro i hi hin hpi
    have hpi2 := par_lt hi
    rw [A i, A (par i), if_neg hpi]
    by_cases e : i = j
    · subst e
      rw [if_pos rfl, if_pos hp]
      exact O.asym hlt
    · rw [if_neg e]
      by_cases e1 : par i = i0
      · rw [if_pos e1, if_neg (show i ≠ i0 by omega)]
        exact hc i hi hin e1
      · rw [if_neg e1]
        by_cases e2 : i = i0
        · rw [if_pos e2]
          subst e2
          exact h.2 j hi hj hn hp
        · rw [if_neg e2]; exact h.1 i hi hin e1
  · intro i h0 hi hin hpi
    have hpi2 := par_lt hi
    rw [hp, A i, A i0, if_neg (show i ≠ j by omega), if_neg (show i ≠ i0 by omega), if_neg (show i0 ≠ j by omega), if_pos rfl]
    have := h.1 i hi hin (by omega)
    rw [hpi] at this
    exact this

theorem heap_min (O : Ord lt) {l : List α} {n : Nat} (h : Heap lt l n) : ∀ i, i < n → lt (at_ l i) (at_ l 0) = false := by
  intro i
  induction i using Nat.strongRecOn with
  | _ i ih =>
    intro hi
    by_cases e : i = 0
    · subst e; exact O.irr _
    · have hp := par_lt (show 0 < i by omega)
      exact O.le (ih (par i) hp (by omega)) (h i (by omega) hi)

/-- Behind the first and the last one changed for one another. -/
theorem pop_start {l : List α} {n : Nat} (hl : l.length = n + 1) (h : Heap lt l (n + 1)) : DownInv lt (swapL l 0 n) n 0 := by
  have A := fun k => at_swap l 0 n k (by omega) (by omega)
  constructor
  · intro i hi hin hp
    have := par_lt hi
    rw [A i, A (par i), if_neg (by omega), if_neg (by omega), if_neg (by omega), if_neg hp]
    exact h i hi (by omega)
  · intro i h0; omega

/-- What is told by one pop: the least, and what is left. -/
theorem pop_end (O : Ord lt) {l l2 : List α} {n : Nat} (hl : l.length = n + 1) (h : Heap lt l (n + 1)) (hp : l2.Perm l) (hn : at_ l2 n = at_ l 0) :
    l.Perm (at_ l2 n :: l2.take n) ∧ ∀ y ∈ l2.take n, lt y (at_ l2 n) = false := by
  have hl2 : l2.length = n + 1 := hp.length_eq.trans hl
  have e : l2 = l2.take n ++ [at_ l2 n] := by
    have h1 : l2.take (n + 1) = l2 := List.take_of_length_le (by omega)
    rw [List.take_succ_eq_append_getElem (by omega)] at h1
    rw [at_lt l2 n (by omega)]; exact h1.symm
  refine ⟨hp.symm.trans ?_, ?_⟩
  · have : (l2.take n ++ [at_ l2 n]).Perm (at_ l2 n :: l2.take n) := List.perm_append_comm
    exact (List.Perm.of_eq e).trans this
  · intro y hy
    have hyl : y ∈ l := hp.mem_iff.1 (List.mem_of_mem_take hy)
    obtain ⟨i, hi, rfl⟩ := List.mem_iff_getElem.1 hyl
    rw [hn, ← at_lt l i hi]
    exact heap_min O h i (by omega)
theorem heap_take {l : List α} {n : Nat} (h : Heap lt l n) : Heap lt (l.take n) n := fun i hi hin => by
  have A : ∀ k, k < n → at_ (l.take n) k = at_ l k := fun k hk => by simp [at_, List.getD_eq_getElem?_getD, List.getElem?_take, hk]
  have := par_lt hi
  rw [A i hin, A (par i) (by omega)]
  exact h i hi hin
/-- The first of those that are in order is the least. -/
theorem pop_head (O : Ord lt) {rest h : List α} {x : α} (hs : rest.Pairwise fun a b => lt b a = false) (hp : rest.Perm (x :: h)) (hx : ∀ y ∈ h, lt y x = false) : ∃ rest', rest = x :: rest' ∧ rest'.Perm h := by
  cases rest with
  | nil => have := hp.length_eq; simp at this
  | cons r rest' =>
    have hr : r = x := by
      have h1 : r ∈ x :: h := hp.mem_iff.1 (by simp)
      rcases List.mem_cons.1 h1 with rfl | h1
      · rfl
      · have h2 := hx r h1
        have h3 : x ∈ r :: rest' := hp.mem_iff.2 (by simp)
        rcases List.mem_cons.1 h3 with rfl | h3
        · rfl
        · exact O.tot _ _ h2 ((List.pairwise_cons.1 hs).1 x h3)
    subst hr
    exact ⟨rest', rfl, (List.perm_cons _).1 hp⟩
end
end Go.Proofs.Ytejecpmfhgplmaa.Hp

-- ---- Ol
/- The places of numbers above nought, the greatest number first: plain facts. No program in sight. -/
namespace Go.Proofs.Ytejecpmfhgplmaa.Ol
set_option linter.unusedSimpArgs false
set_option linter.unusedVariables false
set_option linter.unusedSectionVars false
open Hp

/-- A place and its number: the greater number first, of two alike the lesser place. -/
def ltG (a b : Int × Int) : Bool := decide (b.2 < a.2 ∨ (a.2 = b.2 ∧ a.1 < b.1))
/-- A place and its number: the lesser number first, of two alike the lesser place. -/
def ltL (a b : Int × Int) : Bool := decide (a.2 < b.2 ∨ (a.2 = b.2 ∧ a.1 < b.1))
theorem oG : Ord ltG where
  irr a := by unfold ltG; rw [decide_eq_false]; omega
  tr a b c h1 h2 := by unfold ltG at *; rw [decide_eq_true_eq] at *; omega
  tot a b h1 h2 := by
    unfold ltG at *; rw [decide_eq_false_iff_not] at *
    obtain ⟨a1, a2⟩ := a; obtain ⟨b1, b2⟩ := b
    simp only at h1 h2
    have e1 : a2 = b2 := by omega
    have e2 : a1 = b1 := by omega
    rw [e1, e2]
theorem oL : Ord ltL where
  irr a := by unfold ltL; rw [decide_eq_false]; omega
  tr a b c h1 h2 := by unfold ltL at *; rw [decide_eq_true_eq] at *; omega
  tot a b h1 h2 := by
    unfold ltL at *; rw [decide_eq_false_iff_not] at *
    obtain ⟨a1, a2⟩ := a; obtain ⟨b1, b2⟩ := b
    simp only at h1 h2
    have e1 : a2 = b2 := by omega
    have e2 : a1 = b1 := by omega
    rw [e1, e2]

/-- A place with its number. -/
def pr (f : List Int) (i : Nat) : Int × Int := ((i : Int), f.getD i 0)
theorem pr_inj {f : List Int} {i j : Nat} (h : pr f i = pr f j) : i = j := by
  have := congrArg Prod.fst h; simp only [pr] at this; omega

/-- Those above nought, of the first n. -/
def posL (f : List Int) (n : Nat) : List Nat := (List.range n).filter fun i => decide (0 < f.getD i 0)
theorem posL_zero (f : List Int) : posL f 0 = [] := rfl
theorem posL_succ (f : List Int) (n : Nat) : posL f (n + 1) = posL f n ++ (if 0 < f.getD n 0 then [n] else []) := by
  unfold posL; rw [List.range_succ, List.filter_append]
  by_cases h : 0 < f.getD n 0
  · rw [if_pos h]; simp [h, -List.getD_eq_getElem?_getD]
  · rw [if_neg h]; simp [h, -List.getD_eq_getElem?_getD]
theorem mem_posL {f : List Int} {n i : Nat} : i ∈ posL f n ↔ i < n ∧ 0 < f.getD i 0 := by simp [posL, -List.getD_eq_getElem?_getD]
theorem length_posL (f : List Int) (n : Nat) : (posL f n).length ≤ n := by
  unfold posL; have := List.length_filter_le (fun i => decide (0 < f.getD i 0)) (List.range n); simpa using this
theorem nodup_posL (f : List Int) (n : Nat) : (posL f n).Nodup := List.nodup_range.filter _

/-- In order. -/
def Fall (f : List Int) (l : List Nat) : Prop := l.Pairwise fun a b => ltG (pr f b) (pr f a) = false

/-- i stands behind all that are no less than it. -/
def ins (f : List Int) (i : Nat) : List Nat → List Nat
  | [] => [i]
  | a :: t => if f.getD a 0 < f.getD i 0 then i :: a :: t else a :: ins f i t
theorem perm_ins (f : List Int) (i : Nat) (l : List Nat) : (ins f i l).Perm (i :: l) := by
  induction l with
  | nil => exact List.Perm.refl _
  | cons a t ih =>
    unfold ins
    split
    · exact List.Perm.refl _
    · exact (ih.cons a).trans (List.Perm.swap _ _ _)
theorem fall_ins {f : List Int} {i : Nat} {l : List Nat} (h : Fall f l) (hi : ∀ a ∈ l, a < i) : Fall f (ins f i l) := by
  induction l with
  | nil => simp [Fall, ins]
  | cons a t ih =>
    obtain ⟨h1, h2⟩ := List.pairwise_cons.1 h
    have hai := hi a (by simp)
    unfold ins
    split
    · rename_i hlt
      refine List.pairwise_cons.2 ⟨fun b hb => ?_, h⟩
      rcases List.mem_cons.1 hb with rfl | hb
      · unfold ltG pr; rw [decide_eq_false_iff_not]; simp only; omega
      · have := h1 b hb
        unfold ltG pr at *; rw [decide_eq_false_iff_not] at *; simp only at *; omega
    · rename_i hge
      refine List.pairwise_cons.2 ⟨fun b hb => ?_, ih h2 fun b hb => hi b (List.mem_cons_of_mem _ hb)⟩
      have hb2 := (perm_ins f i t).mem_iff.1 hb
      rcases List.mem_cons.1 hb2 with rfl | hb2
      · unfold ltG pr; rw [decide_eq_false_iff_not]; simp only; omega
      · exact h1 b hb2
/-- Where it is to stand, told from the end. -/
theorem ins_at {f : List Int} {i : Nat} {l : List Nat} (h : Fall f l) (k : Nat) (hk : k ≤ l.length) (h1 : ∀ a ∈ l.drop k, f.getD a 0 < f.getD i 0) (h2 : 0 < k → ¬ f.getD (l.getD (k - 1) 0) 0 < f.getD i 0) : ins f i l = l.take k ++ i :: l.drop k := by
  induction l generalizing k with
  | nil => simp at hk; subst hk; rfl
  | cons a t ih =>
    cases k with
    | zero =>
      have := h1 a (by simp)
      unfold ins
      rw [if_pos this]; simp
    | succ k =>
      obtain ⟨g1, g2⟩ := List.pairwise_cons.1 h
      have hge : ¬ f.getD a 0 < f.getD i 0 := by
        have h3 := h2 (by omega)
        cases k with
        | zero => simpa using h3
        | succ k =>
          have hkl : k < t.length := by simp at hk; omega
          have e : (a :: t).getD (k + 1 + 1 - 1) 0 = t[k] := by simp [List.getD_eq_getElem?_getD, hkl]
          rw [e] at h3
          have := g1 t[k] (List.getElem_mem _)
          unfold ltG pr at this; rw [decide_eq_false_iff_not] at this; simp only at this; omega
      unfold ins
      rw [if_neg hge]
      have := ih g2 k (by simpa using hk) (by simpa using h1) (fun hk0 => by
        have h3 := h2 (by omega)
        cases k with
        | zero => omega
        | succ k => simpa using h3)
      rw [this]; simp

/-- The document's: one by one. -/
def ordN (f : List Int) : Nat → List Nat
  | 0 => []
  | n + 1 => if 0 < f.getD n 0 then ins f n (ordN f n) else ordN f n
def ordL (f : List Int) : List Nat := ordN f f.length
theorem ordN_spec (f : List Int) (n : Nat) : Fall f (ordN f n) ∧ (ordN f n).Perm (posL f n) := by
  induction n with
  | zero => exact ⟨List.Pairwise.nil, List.Perm.refl _⟩
  | succ n ih =>
    obtain ⟨h1, h2⟩ := ih
    unfold ordN
    rw [posL_succ]
    by_cases h : 0 < f.getD n 0
    · rw [if_pos h, if_pos h]
      refine ⟨fall_ins h1 fun a ha => (mem_posL.1 (h2.mem_iff.1 ha)).1, ?_⟩
      exact (perm_ins f n _).trans ((h2.cons n).trans (List.perm_append_comm (l₁ := [n])))
    · rw [if_neg h, if_neg h, List.append_nil]; exact ⟨h1, h2⟩
theorem ordL_fall (f : List Int) : Fall f (ordL f) := (ordN_spec f _).1
theorem ordL_perm (f : List Int) : (ordL f).Perm (posL f f.length) := (ordN_spec f _).2
theorem mem_ordL {f : List Int} {i : Nat} : i ∈ ordL f ↔ i < f.length ∧ 0 < f.getD i 0 := by rw [(ordL_perm f).mem_iff, mem_posL]
theorem nodup_ordL (f : List Int) : (ordL f).Nodup := (ordL_perm f).nodup_iff.2 (nodup_posL f _)
theorem length_ordL (f : List Int) : (ordL f).length ≤ f.length := by rw [(ordL_perm f).length_eq]; exact length_posL f _
theorem length_ordN (f : List Int) (n : Nat) : (ordN f n).length ≤ n := by rw [(ordN_spec f n).2.length_eq]; exact length_posL f _
theorem mem_ordN {f : List Int} {n i : Nat} : i ∈ ordN f n ↔ i < n ∧ 0 < f.getD i 0 := by rw [(ordN_spec f n).2.mem_iff, mem_posL]

/-- The pairs of the places, in order: these and no other row. -/
theorem pairs_sorted (f : List Int) : ((ordL f).map (pr f)).Pairwise fun a b => ltG b a = false := by
  rw [List.pairwise_map]; exact ordL_fall f
theorem pairs_perm (f : List Int) : ((ordL f).map (pr f)).Perm ((posL f f.length).map (pr f)) := (ordL_perm f).map _

/-- The first place has the greatest number. -/
theorem ordL_head {f : List Int} {k : Nat} {t : List Nat} (h : ordL f = k :: t) : k < f.length ∧ 0 < f.getD k 0 ∧ ∀ i, i < f.length → f.getD i 0 ≤ f.getD k 0 ∧ (f.getD i 0 = f.getD k 0 → k ≤ i) := by
  have hk : k ∈ ordL f := by rw [h]; simp
  obtain ⟨h1, h2⟩ := mem_ordL.1 hk
  refine ⟨h1, h2, fun i hi => ?_⟩
  by_cases hp : 0 < f.getD i 0
  · have hm : i ∈ ordL f := mem_ordL.2 ⟨hi, hp⟩
    have hf := ordL_fall f
    rw [h] at hm hf
    rcases List.mem_cons.1 hm with rfl | hm
    · exact ⟨Int.le_refl _, fun _ => Nat.le_refl _⟩
    · have := (List.pairwise_cons.1 hf).1 i hm
      unfold ltG pr at this; rw [decide_eq_false_iff_not] at this; simp only at this
      omega
  · omega
theorem ordL_cons {f : List Int} (h : ∃ i, i < f.length ∧ 0 < f.getD i 0) : ∃ k t, ordL f = k :: t := by
  obtain ⟨i, h1, h2⟩ := h
  have : i ∈ ordL f := mem_ordL.2 ⟨h1, h2⟩
  cases e : ordL f with
  | nil => rw [e] at this; cases this
  | cons k t => exact ⟨k, t, rfl⟩
end Go.Proofs.Ytejecpmfhgplmaa.Ol

-- ---- Dl
/- The cheapest lengths by class: plain facts. No program in sight. -/
namespace Go.Proofs.Ytejecpmfhgplmaa.Dp
set_option linter.unusedSimpArgs false
set_option linter.unusedVariables false
open Ol

/-- Lengths at the places of classes. -/
def scat (out : List Int) : List Nat → List Nat → List Int
  | c :: cs, n :: ns => scat (out.set c (n : Int)) cs ns
  | _, _ => out
theorem scat_nil (out : List Int) (ns : List Nat) : scat out [] ns = out := by cases ns <;> rfl
theorem scat_nil' (out : List Int) (cs : List Nat) : scat out cs [] = out := by cases cs <;> rfl
theorem length_scat : ∀ (cs ns : List Nat) (out : List Int), (scat out cs ns).length = out.length := by
  intro cs
  induction cs with
  | nil => intro ns out; rw [scat_nil]
  | cons c cs ih =>
    intro ns out
    cases ns with
    | nil => rfl
    | cons n ns => simp only [scat]; rw [ih, List.length_set]
theorem scat_snoc : ∀ (cs ns : List Nat) (out : List Int) (c n : Nat), cs.length = ns.length → scat out (cs ++ [c]) (ns ++ [n]) = (scat out cs ns).set c (n : Int) := by
  intro cs
  induction cs with
  | nil => intro ns out c n h; cases ns with
    | nil => simp [scat]
    | cons a t => simp at h
  | cons a cs ih =>
    intro ns out c n h
    cases ns with
    | nil => simp at h
    | cons b ns => simp only [List.cons_append, scat]; exact ih ns _ c n (by simpa using h)
theorem scat_out : ∀ (cs ns : List Nat) (out : List Int) (c : Nat), c ∉ cs → (scat out cs ns).getD c 0 = out.getD c 0 := by
  intro cs
  induction cs with
  | nil => intro ns out c _; rw [scat_nil]
  | cons a cs ih =>
    intro ns out c hc
    cases ns with
    | nil => rfl
    | cons n ns =>
      simp only [scat]
      rw [ih ns _ c (fun h => hc (List.mem_cons_of_mem _ h))]
      have : a ≠ c := fun e => hc (by rw [e]; simp)
      simp only [List.getD_eq_getElem?_getD, List.getElem?_set_ne this]
theorem scat_at : ∀ (cs ns : List Nat) (out : List Int) (i : Nat), cs.Nodup → (∀ c ∈ cs, c < out.length) → i < cs.length → i < ns.length → (scat out cs ns).getD (cs.getD i 0) 0 = ((ns.getD i 0 : Nat) : Int) := by
  intro cs
  induction cs with
  | nil => intro ns out i _ _ h; simp at h
  | cons a cs ih =>
    intro ns out i hnd hm h1 h2
    cases ns with
    | nil => simp at h2
    | cons n ns =>
      obtain ⟨n1, n2⟩ := List.nodup_cons.1 hnd
      cases i with
      | zero =>
        simp only [scat, List.getD_cons_zero]
        rw [scat_out cs ns _ a n1]
        simp [List.getD_eq_getElem?_getD, List.getElem?_set_self (hm a (by simp))]
      | succ i =>
        simp only [scat, List.getD_cons_succ]
        exact ih ns _ i n2 (fun c hc => by rw [List.length_set]; exact hm c (List.mem_cons_of_mem _ hc)) (by simpa using h1) (by simpa using h2)

theorem sum_set (W : Int → Nat) : ∀ (l : List Int) (i : Nat) (v : Int), i < l.length → ((l.set i v).map W).sum + W (l.getD i 0) = (l.map W).sum + W v := by
  intro l
  induction l with
  | nil => intro i v h; simp at h
  | cons a t ih =>
    intro i v h
    cases i with
    | zero => simp; omega
    | succ i =>
      have := ih i v (by simpa using h)
      simp only [List.set_cons_succ, List.map_cons, List.sum_cons, List.getD_cons_succ]
      omega
theorem sum_scat (W : Int → Nat) (h0 : W 0 = 0) : ∀ (cs ns : List Nat) (out : List Int), cs.Nodup → (∀ c ∈ cs, c < out.length ∧ out.getD c 0 = 0) → cs.length = ns.length →
    ((scat out cs ns).map W).sum = (out.map W).sum + (ns.map fun n : Nat => W (n : Int)).sum := by
  intro cs
  induction cs with
  | nil => intro ns out _ _ h; cases ns with
    | nil => simp [scat]
    | cons a t => simp at h
  | cons a cs ih =>
    intro ns out hnd hm h
    cases ns with
    | nil => simp at h
    | cons n ns =>
      obtain ⟨n1, n2⟩ := List.nodup_cons.1 hnd
      obtain ⟨h1, h2⟩ := hm a (by simp)
      have hs := sum_set W out a (n : Int) h1
      rw [h2, h0] at hs
      simp only [scat, List.map_cons, List.sum_cons]
      rw [ih ns _ n2 (fun c hc => ?_) (by simpa using h)]
      · omega
      · obtain ⟨g1, g2⟩ := hm c (List.mem_cons_of_mem _ hc)
        have : a ≠ c := fun e => n1 (by rw [e]; exact hc)
        rw [List.length_set]
        refine ⟨g1, ?_⟩
        simp only [List.getD_eq_getElem?_getD, List.getElem?_set_ne this] at g2 ⊢
        exact g2

/-- The frequencies in order. -/
def ofs (f : List Int) : List Int := (ordL f).map fun i => f.getD i 0
theorem length_ofs (f : List Int) : (ofs f).length = (ordL f).length := by simp [ofs]
theorem ofs_at (f : List Int) (i : Nat) (h : i < (ordL f).length) : (ofs f).getD i 0 = f.getD ((ordL f).getD i 0) 0 := by
  unfold ofs; simp [List.getD_eq_getElem?_getD, h]
theorem ofs_pos (f : List Int) : ∀ x ∈ ofs f, 0 < x := by
  intro x hx
  obtain ⟨i, hi, rfl⟩ := List.mem_map.1 hx
  exact (mem_ordL.1 hi).2
theorem ofs_fall (f : List Int) : (ofs f).Pairwise (· ≥ ·) := by
  unfold ofs
  rw [List.pairwise_map]
  refine (ordL_fall f).imp fun {a b} h => ?_
  unfold ltG pr at h; rw [decide_eq_false_iff_not] at h; simp only at h
  show f.getD b 0 ≤ f.getD a 0
  omega

/-- The lengths in order. -/
def lensOf (f : List Int) (m : Nat) : List Nat := if (ordL f).length = 1 then [1] else lens m 1 (ofs f) 2
/-- The document's lengths. -/
def lenL (f : List Int) (m : Nat) : List Int := scat (List.replicate 65 0) (ordL f) (lensOf f m)
theorem length_lenL (f : List Int) (m : Nat) : (lenL f m).length = 65 := by unfold lenL; rw [length_scat]; simp

/-- What may be asked. -/
structure Fq (f : List Int) (m : Nat) : Prop where
  len : f.length = 65
  each : ∀ x ∈ f, 0 ≤ x ∧ x ≤ 16777216
  lo : 7 ≤ m
  hi : m ≤ 15

theorem Fq.can {f : List Int} {m : Nat} (h : Fq f m) (h2 : 2 ≤ (ordL f).length) : ∃ x, dp m (ofs f) 2 = some x := by
  obtain ⟨r, rfl⟩ : ∃ r, m = r + 1 := ⟨m - 1, by have := h.lo; omega⟩
  have hl := length_ordL f
  refine dp_can r (ofs f) 2 (by decide) (by rw [length_ofs]; exact h2) ?_
  rw [length_ofs]
  have : 2 ^ 6 ≤ 2 ^ r := Nat.pow_le_pow_right (by decide) (by have := h.lo; omega)
  have e := h.len
  omega
theorem Fq.spec {f : List Int} {m : Nat} (h : Fq f m) :
    (lensOf f m).length = (ordL f).length ∧ (∀ n ∈ lensOf f m, 1 ≤ n ∧ n ≤ m) ∧ (lensOf f m).Pairwise (· ≤ ·) ∧ (2 ≤ (ordL f).length → wsum 15 (lensOf f m) = 32768 ∧ dp m (ofs f) 2 = some (cost 1 (ofs f) (lensOf f m))) := by
  by_cases h1 : (ordL f).length = 1
  · have e : lensOf f m = [1] := by unfold lensOf; rw [if_pos h1]
    rw [e]
    refine ⟨by simp [h1], fun n hn => ?_, by simp, fun h => by omega⟩
    simp at hn; subst hn; have := h.lo; omega
  · have e : lensOf f m = lens m 1 (ofs f) 2 := by unfold lensOf; rw [if_neg h1]
    rw [e]
    by_cases h0 : (ordL f).length = 0
    · have : ofs f = [] := List.length_eq_zero_iff.1 (by rw [length_ofs]; exact h0)
      rw [this, lens_nil]
      exact ⟨by simp [h0], fun n hn => by (cases hn), List.Pairwise.nil, fun h => by omega⟩
    · obtain ⟨x, hx⟩ := h.can (by omega)
      obtain ⟨s1, s2, s3, s4, s5⟩ := lens_spec 15 m 1 (ofs f) 2 x (by have := h.hi; omega) hx
      refine ⟨by rw [s1, length_ofs], fun n hn => by have := s2 n hn; omega, s3, fun _ => ⟨by rw [s4], by rw [hx, s5]⟩⟩

theorem getD_rep (n c : Nat) : (List.replicate n (0 : Int)).getD c 0 = 0 := by
  simp only [List.getD_eq_getElem?_getD, List.getElem?_replicate]; split <;> rfl
theorem Fq.at {f : List Int} {m : Nat} (h : Fq f m) (i : Nat) (hi : i < (ordL f).length) : (lenL f m).getD ((ordL f).getD i 0) 0 = (((lensOf f m).getD i 0 : Nat) : Int) := by
  unfold lenL
  refine scat_at _ _ _ i (nodup_ordL f) (fun c hc => ?_) hi (by rw [h.spec.1]; exact hi)
  have := (mem_ordL.1 hc).1
  rw [h.len] at this
  simpa using this
theorem lenL_out {f : List Int} {m : Nat} (c : Nat) (hc : c ∉ ordL f) : (lenL f m).getD c 0 = 0 := by
  unfold lenL
  rw [scat_out _ _ _ c hc, getD_rep]
theorem idx_of {l : List Nat} {c : Nat} (h : c ∈ l) : ∃ i, i < l.length ∧ l.getD i 0 = c := by
  obtain ⟨i, hi, e⟩ := List.getElem_of_mem h
  exact ⟨i, hi, by simp [List.getD_eq_getElem?_getD, hi, e]⟩
theorem Fq.pos {f : List Int} {m : Nat} (h : Fq f m) (c : Nat) : (0 < (lenL f m).getD c 0 ↔ 0 < f.getD c 0) ∧ 0 ≤ (lenL f m).getD c 0 ∧ (lenL f m).getD c 0 ≤ m := by
  by_cases hc : c ∈ ordL f
  · obtain ⟨i, hi, e⟩ := idx_of hc
    have h1 := h.at i hi
    rw [e] at h1
    have h2 := h.spec.2.1 ((lensOf f m).getD i 0) (by
      have : i < (lensOf f m).length := by rw [h.spec.1]; exact hi
      simp [List.getD_eq_getElem?_getD, this])
    have h3 := (mem_ordL.1 hc).2
    rw [h1]
    exact ⟨⟨fun _ => h3, fun _ => by omega⟩, by omega, by omega⟩
  · rw [lenL_out c hc]
    refine ⟨⟨fun h => by omega, fun h3 => ?_⟩, by omega, by omega⟩
    have hcl : c < f.length := by
      rcases Nat.lt_or_ge c f.length with h | h
      · exact h
      · rw [List.getD_eq_getElem?_getD, List.getElem?_eq_none h] at h3; simp at h3
    exact absurd (mem_ordL.2 ⟨hcl, h3⟩) hc
/-- More often, no longer. -/
theorem Fq.mono {f : List Int} {m : Nat} (h : Fq f m) (a b : Nat) (hab : f.getD a 0 > f.getD b 0) (hb : f.getD b 0 > 0) : (lenL f m).getD a 0 ≤ (lenL f m).getD b 0 := by
  have inn : ∀ c, 0 < f.getD c 0 → c ∈ ordL f := fun c h3 => by
    have hcl : c < f.length := by
      rcases Nat.lt_or_ge c f.length with h | h
      · exact h
      · rw [List.getD_eq_getElem?_getD, List.getElem?_eq_none h] at h3; simp at h3
    exact mem_ordL.2 ⟨hcl, h3⟩
  obtain ⟨i, hi, ei⟩ := idx_of (inn a (by omega))
  obtain ⟨j, hj, ej⟩ := idx_of (inn b hb)
  have h1 := h.at i hi
  have h2 := h.at j hj
  rw [ei] at h1; rw [ej] at h2; rw [h1, h2]
  have hij : i < j := by
    rcases Nat.lt_trichotomy i j with hlt | heq | hgt
    · exact hlt
    · subst heq; rw [ei] at ej; rw [ej] at hab; omega
    · have := List.pairwise_iff_getElem.1 (ofs_fall f) j i (by rw [length_ofs]; exact hj) (by rw [length_ofs]; exact hi) hgt
      have e1 : (ofs f)[j]'(by rw [length_ofs]; exact hj) = f.getD b 0 := by
        have := ofs_at f j hj; rw [ej] at this; rw [← this]; simp [List.getD_eq_getElem?_getD, length_ofs, hj]
      have e2 : (ofs f)[i]'(by rw [length_ofs]; exact hi) = f.getD a 0 := by
        have := ofs_at f i hi; rw [ei] at this; rw [← this]; simp [List.getD_eq_getElem?_getD, length_ofs, hi]
      rw [e1, e2] at this
      have : f.getD a 0 ≤ f.getD b 0 := this
      omega
  have hs := h.spec
  have hl1 : i < (lensOf f m).length := by rw [hs.1]; exact hi
  have hl2 : j < (lensOf f m).length := by rw [hs.1]; exact hj
  have := List.pairwise_iff_getElem.1 hs.2.2.1 i j hl1 hl2 hij
  simp only [List.getD_eq_getElem?_getD, List.getElem?_eq_getElem hl1, List.getElem?_eq_getElem hl2, Option.getD_some]
  omega

/-- Whether lengths may be. -/
def ks (l : List Int) : Nat := (l.map fun n => if 0 < n then 2 ^ (15 - n.toNat) else 0).sum
def sm (l : List Int) : Nat := (l.map fun n => if 0 < n then 1 else 0).sum
def mayL (l : List Int) : Bool := decide (l.length = 65 ∧ (∀ n ∈ l, 0 ≤ n ∧ n ≤ 15) ∧ (sm l = 0 ∨ ks l = 32768 ∨ (sm l = 1 ∧ ks l = 16384)))
theorem sum_rep (W : Int → Nat) (h : W 0 = 0) (n : Nat) : ((List.replicate n (0 : Int)).map W).sum = 0 := by simp [h]
theorem Fq.sums {f : List Int} {m : Nat} (h : Fq f m) : ks (lenL f m) = wsum 15 (lensOf f m) ∧ sm (lenL f m) = (ordL f).length := by
  have hc : ∀ c ∈ ordL f, c < (List.replicate 65 (0 : Int)).length ∧ (List.replicate 65 (0 : Int)).getD c 0 = 0 := fun c hc => by
    have := (mem_ordL.1 hc).1
    rw [h.len] at this
    exact ⟨by simpa using this, getD_rep _ _⟩
  have hs := h.spec
  constructor
  · unfold ks lenL
    rw [sum_scat _ (by simp) _ _ _ (nodup_ordL f) hc hs.1.symm, sum_rep _ (by simp), Nat.zero_add]
    unfold wsum
    congr 1
    refine List.map_congr_left fun n hn => ?_
    have := (hs.2.1 n hn).1
    rw [if_pos (by omega)]; simp
  · unfold sm lenL
    rw [sum_scat _ (by simp) _ _ _ (nodup_ordL f) hc hs.1.symm, sum_rep _ (by simp), Nat.zero_add]
    have e : ((lensOf f m).map fun n : Nat => if 0 < (n : Int) then 1 else 0) = (lensOf f m).map fun _ => 1 := by
      refine List.map_congr_left fun n hn => ?_
      have := (hs.2.1 n hn).1
      rw [if_pos (by omega)]
    rw [e, ← hs.1, List.map_const', List.sum_replicate_nat, Nat.mul_one]
theorem Fq.may {f : List Int} {m : Nat} (h : Fq f m) : mayL (lenL f m) = true := by
  unfold mayL
  rw [decide_eq_true_eq]
  refine ⟨length_lenL f m, fun n hn => ?_, ?_⟩
  · obtain ⟨i, hi, e⟩ := List.getElem_of_mem hn
    have := (h.pos i).2
    have e2 : (lenL f m).getD i 0 = n := by simp [List.getD_eq_getElem?_getD, hi, e]
    rw [e2] at this
    have := h.hi
    omega
  · obtain ⟨h1, h2⟩ := h.sums
    by_cases h0 : (ordL f).length = 0
    · left; omega
    · by_cases h3 : (ordL f).length = 1
      · right; right
        refine ⟨by omega, ?_⟩
        rw [h1]
        have e : lensOf f m = [1] := by unfold lensOf; rw [if_pos h3]
        rw [e]; rfl
      · right; left
        rw [h1]; exact (h.spec.2.2.2 (by omega)).1
end Go.Proofs.Ytejecpmfhgplmaa.Dp

-- ---- Mix
/- A rule for a region that draws its order: some operations are taken first (in an order of the prover's choice), then a chain that is forced. Conditions: the Bool 'Region.mixB' over the region's own text. -/
namespace Go.Proofs.Ytejecpmfhgplmaa.Mix
set_option linter.unusedSimpArgs false
set_option linter.unusedVariables false
open Go Go.RowKit

/-- A tree without a store, a freeze, a written object, a system's call. -/
def Grows {α : Type} : Sem α → Prop
  | .pure _ => True
  | .load _ _ k => ∀ v, Grows (k v)
  | .store .. => False
  | .new _ k => ∀ n, Grows (k n)
  | .shape _ k => ∀ s, Grows (k s)
  | .freeze .. => False
  | .frozen _ k => ∀ b, Grows (k b)
  | .getObj _ k => ∀ o, Grows (k o)
  | .setObj .. => False
  | .choose _ k => ∀ n, Grows (k n)
  | .sys .. => False
  | .program k => ∀ p, Grows (k p)
  | .mark _ k => Grows k
  | .halt _ => True

theorem Grows.bind {α β : Type} {s : Sem α} {f : α → Sem β} (h : Grows s) (hf : ∀ a, Grows (f a)) : Grows (s.bind f) := by
  induction s with
  | pure a => exact hf a
  | load m a k ih => exact fun v => ih v (h v)
  | store m a v k ih => exact h.elim
  | new o k ih => exact fun n => ih n (h n)
  | shape r k ih => exact fun v => ih v (h v)
  | freeze a n k ih => exact h.elim
  | frozen a k ih => exact fun v => ih v (h v)
  | getObj r k ih => exact fun v => ih v (h v)
  | setObj r o k ih => exact h.elim
  | choose q k ih => exact fun v => ih v (h v)
  | sys c k ih => exact h.elim
  | program k ih => exact fun v => ih v (h v)
  | mark m k ih => exact ih h
  | halt x => exact trivial

theorem Grows.run {α : Type} (P : Program) {s : Sem α} (h : Grows s) : ∀ w x w', s.run P w = .ok x w' → Below w.heap.size w w' := by
  induction s with
  | pure a => intro w x w' e; simp only [Sem.run, Result.ok.injEq] at e; rw [← e.2]; exact Below.refl _ _
  | load m a k ih =>
    intro w x w' e
    simp only [Sem.run] at e
    split at e
    · exact ih _ (h _) _ _ _ e
    · split at e
      · exact ih _ (h _) _ _ _ e
      · cases e
  | store m a v k ih => exact h.elim
  | new o k ih =>
    intro w x w' e
    simp only [Sem.run] at e
    have := ih _ (h _) _ _ _ e
    exact ((Below.refl w.heap.size w).alloc (Nat.le_refl _) o).trans (this.mono (by simp))
  | shape r k ih => intro w x w' e; exact ih _ (h _) _ _ _ (by simpa only [Sem.run] using e)
  | freeze a n k ih => exact h.elim
  | frozen a k ih => intro w x w' e; exact ih _ (h _) _ _ _ (by simpa only [Sem.run] using e)
  | getObj r k ih =>
    intro w x w' e
    simp only [Sem.run] at e
    split at e
    · cases e
    · exact ih _ (h _) _ _ _ e
    · cases e
  | setObj r o k ih => exact h.elim
  | choose q k ih =>
    intro w x w' e
    simp only [Sem.run] at e
    split at e
    · exact ih _ (h _) _ _ _ e
    · have := ih _ (h _) _ _ _ e
      exact ((Below.refl w.heap.size w).drew).trans this
  | sys c k ih => exact h.elim
  | program k ih => intro w x w' e; exact ih _ (h _) _ _ _ (by simpa only [Sem.run] using e)
  | mark m k ih => intro w x w' e; exact ih h _ _ _ (by simpa only [Sem.run] using e)
  | halt x => intro w x w' e; simp [Sem.run] at e

/-- A tree all of whose ends are values. -/
def Vals : Sem Next → Prop
  | .pure n => ∃ u, n = .value u
  | .load _ _ k => ∀ v, Vals (k v)
  | .store _ _ _ k => Vals k
  | .new _ k => ∀ n, Vals (k n)
  | .shape _ k => ∀ s, Vals (k s)
  | .freeze _ _ k => Vals k
  | .frozen _ k => ∀ b, Vals (k b)
  | .getObj _ k => ∀ o, Vals (k o)
  | .setObj _ _ k => Vals k
  | .choose _ k => ∀ n, Vals (k n)
  | .sys _ k => ∀ r, Vals (k r)
  | .program k => ∀ p, Vals (k p)
  | .mark _ k => Vals k
  | .halt _ => True

theorem Vals.bind {α : Type} {f : α → Sem Next} (hf : ∀ a, Vals (f a)) : ∀ s : Sem α, Vals (s.bind f) := by
  intro s
  induction s with
  | pure a => exact hf a
  | load m a k ih => exact fun v => ih v
  | store m a v k ih => exact ih
  | new o k ih => exact fun v => ih v
  | shape r k ih => exact fun v => ih v
  | freeze a n k ih => exact ih
  | frozen a k ih => exact fun v => ih v
  | getObj r k ih => exact fun v => ih v
  | setObj r o k ih => exact ih
  | choose q k ih => exact fun v => ih v
  | sys c k ih => exact fun v => ih v
  | program k ih => exact fun v => ih v
  | mark m k ih => exact ih
  | halt x => exact trivial

theorem Vals.run {P : Program} : ∀ (s : Sem Next), Vals s → ∀ w n w', s.run P w = .ok n w' → ∃ u, n = .value u := by
  intro s
  induction s with
  | pure a => intro h w n w' e; simp only [Sem.run, Result.ok.injEq] at e; rw [← e.1]; exact h
  | load m a k ih =>
    intro h w n w' e
    simp only [Sem.run] at e
    split at e
    · exact ih _ (h _) _ _ _ e
    · split at e
      · exact ih _ (h _) _ _ _ e
      · cases e
  | store m a v k ih =>
    intro h w n w' e
    cases v <;> simp only [Sem.run] at e <;> first
      | (cases e; done)
      | (split at e
         · split at e
           · cases e
           · exact ih h _ _ _ e
         · split at e
           · exact ih h _ _ _ e
           · cases e)
  | new o k ih => intro h w n w' e; exact ih _ (h _) _ _ _ (by simpa only [Sem.run] using e)
  | shape r k ih => intro h w n w' e; exact ih _ (h _) _ _ _ (by simpa only [Sem.run] using e)
  | freeze a m k ih => intro h w n w' e; exact ih h _ _ _ (by simpa only [Sem.run] using e)
  | frozen a k ih => intro h w n w' e; exact ih _ (h _) _ _ _ (by simpa only [Sem.run] using e)
  | getObj r k ih =>
    intro h w n w' e
    simp only [Sem.run] at e
    split at e
    · cases e
    · exact ih _ (h _) _ _ _ e
    · cases e
  | setObj r o k ih =>
    intro h w n w' e
    simp only [Sem.run] at e
    split at e
    · cases e
    · exact ih h _ _ _ e
    · cases e
  | choose q k ih =>
    intro h w n w' e
    simp only [Sem.run] at e
    split at e
    · exact ih _ (h _) _ _ _ e
    · exact ih _ (h _) _ _ _ e
  | sys c k ih => intro h w n w' e; exact ih _ (h _) _ _ _ (by simpa only [Sem.run] using e)
  | program k ih => intro h w n w' e; exact ih _ (h _) _ _ _ (by simpa only [Sem.run] using e)
  | mark m k ih => intro h w n w' e; exact ih h _ _ _ (by simpa only [Sem.run] using e)
  | halt x => intro _ w n w' e; simp [Sem.run] at e

theorem vals_bind {α : Type} {s : Sem α} {f : α → Sem Next} (hf : ∀ a, Vals (f a)) : Vals (s >>= f) := Vals.bind hf s

/-- Operations that may be taken first. -/
def headOp : Op → Bool
  | .move _ | .assign _ | .pick .. | .load .. | .binOp .. | .unOp .. | .convert .. | .fieldAddr .. | .field .. | .indexAddr .. | .index .. | .slice .. | .extract .. | .makeFunc .. | .nilCheck _ => true
  | .call { callee := .builtin .len, .. } => true
  | _ => false

/-- Operations that lay a new block and do nothing else. -/
def newOp : Op → Bool
  | .buildSlice .. | .box .. | .makeSlice .. | .alloc _ => true
  | _ => false

theorem head_vals (ρ : Operand → Value) (o : Oper) (h : headOp o.op = true) : Vals (execOp ρ o) := by
  obtain ⟨dst, op, type, pos, after, guard⟩ := o
  cases op <;> simp only [headOp] at h <;> first
    | (cases h; done)
    | (simp only [execOp]; refine vals_bind ?_; intro _; exact ⟨_, rfl⟩)
    | (simp only [execOp]; exact ⟨_, rfl⟩)
    | skip
  case nilCheck x =>
    simp only [execOp]
    generalize ρ x = v
    split
    · exact fun p => trivial
    · exact fun p => trivial
    · exact fun p => trivial
    · split
      · exact fun p => trivial
      · refine vals_bind ?_; intro _
        refine vals_bind ?_; intro _
        split
        · refine vals_bind ?_; intro _; exact ⟨_, rfl⟩
        · exact ⟨_, rfl⟩
      · exact ⟨_, rfl⟩
    · exact ⟨_, rfl⟩
  case call c =>
    obtain ⟨callee, args, argTypes⟩ := c
    cases callee <;> first | (simp at h; done) | skip
    case builtin b =>
      cases b <;> first | (simp at h; done) | skip
      exact (vals_bind (s := Builtin.len_ argTypes type (args.map ρ)) (f := fun v => pure (Next.value v)) fun v => ⟨_, rfl⟩)

theorem new_vals (ρ : Operand → Value) (o : Oper) (h : newOp o.op = true) : Vals (execOp ρ o) := by
  obtain ⟨dst, op, type, pos, after, guard⟩ := o
  cases op <;> simp only [newOp] at h <;> first
    | (cases h; done)
    | (simp only [execOp]; refine vals_bind ?_; intro _; exact ⟨_, rfl⟩)

theorem grows_pure {α : Type} (a : α) : Grows (pure a : Sem α) := trivial
theorem grows_stuck {α : Type} (s : String) : Grows (stuck s : Sem α) := trivial
theorem grows_unsupported {α : Type} (s : Unsupported) : Grows (unsupported s : Sem α) := trivial
theorem grows_bind {α β : Type} {s : Sem α} {f : α → Sem β} (h : Grows s) (hf : ∀ a, Grows (f a)) : Grows (s >>= f) := Grows.bind h hf
theorem grows_program : Grows program := fun _ => trivial
theorem grows_typeInfo (t : TypeId) : Grows (typeInfo t) := grows_bind grows_program fun p => by (try dsimp only); split <;> trivial
theorem grows_underlying (t : TypeId) : Grows (underlying t) := grows_bind grows_program fun p => by (try dsimp only); split <;> trivial
theorem grows_sizeOf (t : TypeId) : Grows (sizeOf t) := grows_bind (grows_typeInfo t) fun _ => trivial
theorem grows_zeroValue (t : TypeId) : Grows (zeroValue t) := grows_bind (grows_typeInfo t) fun i => by (try dsimp only); split <;> trivial
theorem grows_newRow (t : TypeId) (c : Array Value) : Grows (newRow t c) := grows_bind (fun _ => trivial) fun _ => trivial
theorem grows_elemOf (t : TypeId) : Grows (elemOf t) := grows_bind (grows_underlying t) fun _ => by (try dsimp only); split <;> trivial
theorem grows_goPanic {α : Type} (v : Value) : Grows (goPanic v : Sem α) := trivial
theorem grows_runtimePanic {α : Type} (e : RuntimeError) : Grows (runtimePanic e : Sem α) := grows_bind grows_program fun _ => by
  (try dsimp only)
  split <;> first
    | exact grows_goPanic _
    | (refine grows_bind (grows_elemOf _) fun _ => ?_; refine grows_bind (grows_newRow _ _) fun _ => ?_; exact grows_goPanic _)
theorem grows_asIntOf (v : Value) : Grows (asIntOf v) := by unfold asIntOf; split <;> trivial
theorem grows_asInt (v : Value) : Grows (asInt v) := by unfold asInt; exact grows_bind (grows_asIntOf v) fun _ => trivial
theorem grows_askRoom (n : Nat) : Grows (askRoom n) := by unfold askRoom; split <;> trivial
theorem grows_choose (q : Question) : Grows (choose q) := fun _ => trivial

theorem grows_box (e : TypeId) (v : Value) : Grows (Instr.box e v) := grows_bind (grows_newRow _ _) fun _ => trivial
theorem grows_alloc (e : TypeId) (v : Value) : Grows (Instr.alloc e true v) := by
  unfold Instr.alloc
  exact grows_bind (grows_zeroValue _) fun z => grows_bind (grows_newRow _ _) fun _ => trivial
theorem grows_buildSlice (t : TypeId) (n : Nat) (ps : Array (Nat × Value)) : Grows (Instr.buildSlice t n ps) := by
  unfold Instr.buildSlice
  repeat' first
    | exact trivial
    | exact grows_underlying _
    | exact grows_sizeOf _
    | exact grows_zeroValue _
    | exact grows_newRow _ _
    | exact grows_stuck _
    | exact grows_unsupported _
    | refine grows_bind ?_ (fun _ => ?_)
    | split
    | dsimp only
theorem grows_makeSlice (t : TypeId) (a b : Value) : Grows (Instr.makeSlice t a b) := by
  unfold Instr.makeSlice
  repeat' first
    | exact trivial
    | exact grows_underlying _
    | exact grows_sizeOf _
    | exact grows_zeroValue _
    | exact grows_newRow _ _
    | exact grows_typeInfo _
    | exact grows_asInt _
    | exact grows_askRoom _
    | exact grows_choose _
    | exact grows_runtimePanic _
    | exact grows_stuck _
    | exact grows_unsupported _
    | refine grows_bind ?_ (fun _ => ?_)
    | split
    | dsimp only

theorem new_grows (ρ : Operand → Value) (o : Oper) (h : newOp o.op = true) : Grows (execOp ρ o) := by
  obtain ⟨dst, op, type, pos, after, guard⟩ := o
  cases op <;> simp only [newOp] at h <;> first
    | (cases h; done)
    | (simp only [execOp]; exact grows_bind (grows_box _ _) fun _ => trivial)
    | (simp only [execOp]; exact grows_bind (grows_alloc _ _) fun _ => trivial)
    | (simp only [execOp]; exact grows_bind (grows_buildSlice _ _ _) fun _ => trivial)
    | (simp only [execOp]; exact grows_bind (grows_makeSlice _ _ _) fun _ => trivial)

section
variable {P : Program} {ops : Array Oper} {Q : Exit → Act → World → Prop} {md : Region.Mode} {C : World → Prop}

/-- Whatever order is picked from here on: what is in 'h1' yields in every world, what is in 'h2' in every world of the class, the rest is carried out. -/
def wpM (P : Program) (md : Region.Mode) (ops : Array Oper) (Q : Exit → Act → World → Prop) (C : World → Prop) (h1 h2 : List Nat) : Nat → Array Bool → Act → World → Prop
  | 0, listed, a, w => Region.ready md ops listed = [] ∧ Q .normal a w
  | fuel + 1, listed, a, w =>
    (Region.ready md ops listed = [] → Q .normal a w) ∧
    ∀ i ∈ Region.ready md ops listed,
      if i ∈ h1 then ∃ o v, ops[i]? = some o ∧ Yields P ops o v a ∧ wpM P md ops Q C h1 h2 fuel (listed.setIfInBounds i true) (a.put o.dst v) w
      else if i ∈ h2 then ∃ o v, ops[i]? = some o ∧ C w ∧ YieldsIf P ops C o v a ∧ wpM P md ops Q C h1 h2 fuel (listed.setIfInBounds i true) (a.put o.dst v) w
      else wpOp P ops Q i (wpM P md ops Q C h1 h2 fuel (listed.setIfInBounds i true)) a w

theorem wpAny_of_M {h1 h2 : List Nat} : ∀ (fuel : Nat) (listed : Array Bool) (a : Act) (w : World), wpM P md ops Q C h1 h2 fuel listed a w → wpAny P md ops Q fuel listed a w
  | 0, _, _, _, h => h
  | fuel + 1, listed, a, w, h => ⟨h.1, fun i hi => by
      have h2 := h.2 i hi
      split at h2
      · obtain ⟨o, v, ho, hy, hm⟩ := h2
        exact hy.wpOp ho (wpAny_of_M fuel _ _ _ hm)
      · split at h2
        · obtain ⟨o, v, ho, hc, hy, hm⟩ := h2
          exact hy.wpOp ho hc (wpAny_of_M fuel _ _ _ hm)
        · exact wpOp_mono (fun a' w' h' => wpAny_of_M fuel _ a' w' h') h2⟩

theorem yields_put {oi oj : Oper} {a : Act} {v : Value} (hsj : ∀ cs b, oj.op ≠ .select cs b) (hap : oi.apart ops oj = true) {u : Value} (h : Yields P ops oj u (a.put oi.dst v)) : Yields P ops oj u a := by
  obtain ⟨h1, _, _⟩ := Oper.apart_spec hap
  exact h.of_same (execOp_put oj hsj a oi.dst v h1).symm (wanted_put oj a oi.dst v h1).symm

theorem yieldsIf_put {oi oj : Oper} {a : Act} {v : Value} (hsj : ∀ cs b, oj.op ≠ .select cs b) (hap : oi.apart ops oj = true) {u : Value} (h : YieldsIf P ops C oj u (a.put oi.dst v)) : YieldsIf P ops C oj u a := by
  obtain ⟨h1, _, _⟩ := Oper.apart_spec hap
  exact h.of_same (execOp_put oj hsj a oi.dst v h1).symm (wanted_put oj a oi.dst v h1).symm

theorem yields_put' {oi oj : Oper} {a : Act} {v : Value} (hsi : ∀ cs b, oi.op ≠ .select cs b) (hap : oi.apart ops oj = true) (u : Value) (h : Yields P ops oi v a) : Yields P ops oi v (a.put oj.dst u) := by
  obtain ⟨_, _, h3⟩ := Oper.apart_spec hap
  exact h.of_same (execOp_put oi hsi a oj.dst u h3) (wanted_put oi a oj.dst u h3)

theorem yieldsIf_put' {oi oj : Oper} {a : Act} {v : Value} (hsi : ∀ cs b, oi.op ≠ .select cs b) (hap : oi.apart ops oj = true) (u : Value) (h : YieldsIf P ops C oi v a) : YieldsIf P ops C oi v (a.put oj.dst u) := by
  obtain ⟨_, _, h3⟩ := Oper.apart_spec hap
  exact h.of_same (execOp_put oi hsi a oj.dst u h3) (wanted_put oi a oj.dst u h3)

theorem not_waits {i : Nat} {oj : Oper} {listed : Array Bool} (hr : i ∈ Region.ready md ops listed) (hall : ∀ e ∈ oj.after, Region.binds md e = true → listed.getD e.on false = true) :
    ∀ e ∈ oj.after, Region.binds md e = true → e.on ≠ i := fun e he hb heq => by
  have h1 := hall e he hb
  have h0 := (mem_ready.1 hr).1
  rw [heq] at h1
  rcases Nat.lt_or_ge i listed.size with h' | h'
  · simp [h'] at h0 h1; rw [h0] at h1; cases h1
  · simp [Array.getElem?_eq_none h'] at h1

/-- What 'free' asks, for all that has not come up. -/
def Free (md : Region.Mode) (ops : Array Oper) (i : Nat) (oi : Oper) (listed : Array Bool) : Prop :=
  ∀ j oj, ops[j]? = some oj → j ≠ i → listed.getD j true = false → (∀ e ∈ oj.after, Region.binds md e = true → e.on ≠ i) → oi.apart ops oj = true

theorem Free.set {i j : Nat} {oi : Oper} {listed : Array Bool} (h : Free md ops i oi listed) (hjun : listed.getD j true = false) : Free md ops i oi (listed.setIfInBounds j true) := fun k ok hk hki hun hno => by
  refine h k ok hk hki ?_ hno
  by_cases hjk : j = k
  · subst hjk; exact hjun
  · rw [getD_set_ne true hjk] at hun; exact hun

theorem wpM_first1 {h1 h2 : List Nat} {i : Nat} {oi : Oper} {v : Value} (hi : ops[i]? = some oi) (hi1 : i ∈ h1) (hsel : ∀ (j : Nat) (o : Oper) cs b, ops[j]? = some o → o.op ≠ .select cs b)
    (hQ : ∀ c a w, Q (.panic c) (a.put oi.dst v) w → Q (.panic c) a w) :
    ∀ (fuel : Nat) (listed : Array Bool) (a : Act) (w : World), Free md ops i oi listed →
      i ∈ Region.ready md ops listed → Yields P ops oi v a →
      wpM P md ops Q C h1 h2 fuel (listed.setIfInBounds i true) (a.put oi.dst v) w → wpM P md ops Q C h1 h2 (fuel + 1) listed a w := by
  intro fuel
  induction fuel with
  | zero =>
    intro listed a w _ hr hy H
    refine ⟨fun h => (by rw [h] at hr; cases hr), fun j hj => ?_⟩
    by_cases hji : j = i
    · subst hji; rw [if_pos hi1]; exact ⟨oi, v, hi, hy, H⟩
    · have := ready_mono hj hji
      rw [H.1] at this
      cases this
  | succ fuel ih =>
    intro listed a w hfree hr hy H
    refine ⟨fun h => (by rw [h] at hr; cases hr), fun j hj => ?_⟩
    by_cases hji : j = i
    · subst hji; rw [if_pos hi1]; exact ⟨oi, v, hi, hy, H⟩
    · have hH := H.2 j (ready_mono hj hji)
      obtain ⟨hjun, oj, hoj, hall⟩ := mem_ready.1 hj
      have hap := hfree j oj hoj hji hjun (not_waits hr hall)
      have hfree' := hfree.set hjun
      have hr' := ready_mono hr (Ne.symm hji)
      obtain ⟨_, hne, _⟩ := Oper.apart_spec hap
      split at hH
      · rename_i hj1
        obtain ⟨o, u, ho, hyj, hm⟩ := hH
        have e : oj = o := Option.some.inj (hoj.symm.trans ho)
        subst e
        rw [if_pos hj1]
        refine ⟨oj, u, hoj, yields_put (fun cs b => hsel j oj cs b hoj) hap hyj, ih _ _ _ hfree' hr' (yields_put' (fun cs b => hsel i oi cs b hi) hap u hy) ?_⟩
        rw [Array.setIfInBounds_comm _ _ hji, ← Act.put_comm a v u hne]
        exact hm
      · rename_i hj1
        split at hH
        · rename_i hj2
          obtain ⟨o, u, ho, hc, hyj, hm⟩ := hH
          have e : oj = o := Option.some.inj (hoj.symm.trans ho)
          subst e
          rw [if_neg hj1, if_pos hj2]
          refine ⟨oj, u, hoj, hc, yieldsIf_put (fun cs b => hsel j oj cs b hoj) hap hyj, ih _ _ _ hfree' hr' (yields_put' (fun cs b => hsel i oi cs b hi) hap u hy) ?_⟩
          rw [Array.setIfInBounds_comm _ _ hji, ← Act.put_comm a v u hne]
          exact hm
        · rename_i hj2
          rw [if_neg hj1, if_neg hj2]
          have h2 := wpOp_put hoj hap (fun cs b => hsel i oi cs b hi) (fun cs b => hsel j oj cs b hoj) hQ hy hH
          refine wpOp_mono (fun a' w' h3 => ih (listed.setIfInBounds j true) a' w' hfree' hr' h3.1 ?_) h2
          rw [Array.setIfInBounds_comm _ _ hji]
          exact h3.2

/-- An operation that lays a block leaves the class. -/
theorem wpOp_new {j : Nat} {oj : Oper} (hoj : ops[j]? = some oj) (hn : newOp oj.op = true) (hC : ∀ w w', C w → Below w.heap.size w w' → C w') {K : Act → World → Prop} {a : Act} {w : World} (hw : C w)
    (h : wpOp P ops Q j K a w) : wpOp P ops Q j (fun a' w' => C w' ∧ K a' w') a w := by
  unfold wpOp at *
  simp only [hoj] at *
  split
  · rename_i hwant
    simp only [hwant, if_true] at h
    rcases h with h | h
    case inr => exact .inr h
    refine .inl ?_
    have hv := Vals.run (P := P) _ (new_vals a.eval oj hn) w
    have hg := Grows.run P (new_grows a.eval oj hn) w
    unfold Oper.wp at *
    generalize (execOp a.eval oj).run P w = r at *
    cases r with
    | ok n w' =>
      obtain ⟨u, rfl⟩ := hv n w' rfl
      exact ⟨hC _ _ hw (hg _ _ rfl), h⟩
    | halt x w' => cases x <;> simp only [Oper.upon] at h ⊢ <;> exact h
  · rename_i hwant
    simp only [hwant] at h
    exact ⟨hw, h⟩

/-- What has come up has come up behind all that it waits for. -/
def Closed (md : Region.Mode) (ops : Array Oper) (listed : Array Bool) : Prop :=
  ∀ j oj, ops[j]? = some oj → listed.getD j false = true → ∀ e ∈ oj.after, Region.binds md e = true → listed.getD e.on false = true

theorem Closed.set {i : Nat} {listed : Array Bool} (inv : Closed md ops listed) (hi : i ∈ Region.ready md ops listed) : Closed md ops (listed.setIfInBounds i true) := by
  obtain ⟨_, oi, hoi, hall⟩ := mem_ready.1 hi
  intro j oj hj hl e he hb
  by_cases hij : i = j
  · subst hij
    have : oj = oi := Option.some.inj (hj.symm.trans hoi)
    subst this
    exact getD_set_true (hall e he hb)
  · rw [getD_set_ne false hij] at hl
    exact getD_set_true (inv j oj hj hl e he hb)

/-- t waits for i, through others or not. -/
def anc (md : Region.Mode) (ops : Array Oper) : Nat → Nat → Nat → Bool
  | 0, _, _ => false
  | n + 1, t, i => match ops[t]? with
    | some ot => ot.after.any fun e => Region.binds md e && (e.on == i || anc md ops n e.on i)
    | none => false

theorem anc_listed {listed : Array Bool} (hc : Closed md ops listed) {i : Nat} : ∀ (n t : Nat) (ot : Oper), ops[t]? = some ot → (∀ e ∈ ot.after, Region.binds md e = true → listed.getD e.on false = true) → anc md ops n t i = true → listed.getD i false = true := by
  intro n
  induction n with
  | zero => intro t ot _ _ h; simp [anc] at h
  | succ n ih =>
    intro t ot hot hall h
    simp only [anc, hot] at h
    obtain ⟨e, he, hb⟩ := Array.any_eq_true'.1 h
    simp only [Bool.and_eq_true, Bool.or_eq_true, beq_iff_eq] at hb
    obtain ⟨hb1, hb2⟩ := hb
    have hl := hall e he hb1
    rcases hb2 with h1 | h1
    · rw [← h1]; exact hl
    · cases n with
      | zero => simp [anc] at h1
      | succ n =>
        cases ho : ops[e.on]? with
        | none => simp [anc, ho] at h1
        | some oe => exact ih e.on oe ho (fun e' he' hb' => hc e.on oe ho hl e' he' hb') h1

theorem wpM_first2 {h1 h2 : List Nat} {i n : Nat} {oi : Oper} {v : Value} (hi : ops[i]? = some oi) (hi1 : i ∉ h1) (hi2 : i ∈ h2) (hsel : ∀ (j : Nat) (o : Oper) cs b, ops[j]? = some o → o.op ≠ .select cs b)
    (hQ : ∀ c a w, Q (.panic c) (a.put oi.dst v) w → Q (.panic c) a w) (hC : ∀ w w', C w → Below w.heap.size w w' → C w')
    (htail : ∀ j oj, ops[j]? = some oj → j ∉ h1 → j ∉ h2 → newOp oj.op = true ∨ anc md ops n j i = true) :
    ∀ (fuel : Nat) (listed : Array Bool) (a : Act) (w : World), Free md ops i oi listed → Closed md ops listed →
      i ∈ Region.ready md ops listed → YieldsIf P ops C oi v a → C w →
      wpM P md ops Q C h1 h2 fuel (listed.setIfInBounds i true) (a.put oi.dst v) w → wpM P md ops Q C h1 h2 (fuel + 1) listed a w := by
  intro fuel
  induction fuel with
  | zero =>
    intro listed a w _ _ hr hy hw H
    refine ⟨fun h => (by rw [h] at hr; cases hr), fun j hj => ?_⟩
    by_cases hji : j = i
    · subst hji; rw [if_neg hi1, if_pos hi2]; exact ⟨oi, v, hi, hw, hy, H⟩
    · have := ready_mono hj hji
      rw [H.1] at this
      cases this
  | succ fuel ih =>
    intro listed a w hfree hcl hr hy hw H
    refine ⟨fun h => (by rw [h] at hr; cases hr), fun j hj => ?_⟩
    by_cases hji : j = i
    · subst hji; rw [if_neg hi1, if_pos hi2]; exact ⟨oi, v, hi, hw, hy, H⟩
    · have hH := H.2 j (ready_mono hj hji)
      obtain ⟨hjun, oj, hoj, hall⟩ := mem_ready.1 hj
      have hap := hfree j oj hoj hji hjun (not_waits hr hall)
      have hfree' := hfree.set hjun
      have hcl' := hcl.set hj
      have hr' := ready_mono hr (Ne.symm hji)
      obtain ⟨_, hne, _⟩ := Oper.apart_spec hap
      split at hH
      · rename_i hj1
        obtain ⟨o, u, ho, hyj, hm⟩ := hH
        have e : oj = o := Option.some.inj (hoj.symm.trans ho)
        subst e
        rw [if_pos hj1]
        refine ⟨oj, u, hoj, yields_put (fun cs b => hsel j oj cs b hoj) hap hyj, ih _ _ _ hfree' hcl' hr' (yieldsIf_put' (fun cs b => hsel i oi cs b hi) hap u hy) hw ?_⟩
        rw [Array.setIfInBounds_comm _ _ hji, ← Act.put_comm a v u hne]
        exact hm
      · rename_i hj1
        split at hH
        · rename_i hj2
          obtain ⟨o, u, ho, hc, hyj, hm⟩ := hH
          have e : oj = o := Option.some.inj (hoj.symm.trans ho)
          subst e
          rw [if_neg hj1, if_pos hj2]
          refine ⟨oj, u, hoj, hc, yieldsIf_put (fun cs b => hsel j oj cs b hoj) hap hyj, ih _ _ _ hfree' hcl' hr' (yieldsIf_put' (fun cs b => hsel i oi cs b hi) hap u hy) hw ?_⟩
          rw [Array.setIfInBounds_comm _ _ hji, ← Act.put_comm a v u hne]
          exact hm
        · rename_i hj2
          rw [if_neg hj1, if_neg hj2]
          have hnew : newOp oj.op = true := (htail j oj hoj hj1 hj2).resolve_right fun hanc => by
            have h1 := anc_listed hcl n j oj hoj hall hanc
            have h0 := getD_both (mem_ready.1 hr).1
            rw [h1] at h0; cases h0
          have h2 := wpOp_new hoj hnew hC hw (wpOp_putIf hoj hap (fun cs b => hsel i oi cs b hi) (fun cs b => hsel j oj cs b hoj) hQ hy hH)
          refine wpOp_mono (fun a' w' h3 => ih (listed.setIfInBounds j true) a' w' hfree' hcl' hr' h3.2.1 h3.1 ?_) h2
          rw [Array.setIfInBounds_comm _ _ hji]
          exact h3.2.2

/-! ### The Bool over a region's text -/
def marked (listed : Array Bool) : List Nat → Array Bool
  | [] => listed
  | i :: l => marked (listed.setIfInBounds i true) l

def hoistB (md : Region.Mode) (ops : Array Oper) : List Nat → Array Bool → Bool
  | [], _ => true
  | i :: l, listed => (Region.ready md ops listed).contains i && Region.free md ops listed i && (match ops[i]? with | some o => headOp o.op | none => false) && hoistB md ops l (listed.setIfInBounds i true)

def seqL (md : Region.Mode) (ops : Array Oper) : List Nat → Array Bool → Bool
  | [], listed => (Region.ready md ops listed).isEmpty
  | i :: l, listed => decide (Region.ready md ops listed = [i]) && seqL md ops l (listed.setIfInBounds i true)

def mixB (md : Region.Mode) (ops : Array Oper) (h1 h2 ts : List Nat) : Bool :=
  Region.noSelect ops && h2.all (fun i => !h1.contains i) && ts.all (fun i => !h1.contains i && !h2.contains i) &&
  (List.range ops.size).all (fun t => h1.contains t || h2.contains t || (match ops[t]? with | some o => newOp o.op | none => false) || h2.all fun i => anc md ops ops.size t i) &&
  hoistB md ops (h1 ++ h2) (Array.replicate ops.size false) && seqL md ops ts (marked (Array.replicate ops.size false) (h1 ++ h2)) && (decide (h1.length + h2.length + ts.length = ops.size))

def pick (l : List Oper) (h : List Nat) : List Oper := h.filterMap fun i => l[i]?

theorem quiet_run {o : Oper} {a : Act} {v : Value} (hh : headOp o.op = true) {w : World} (h : o.quietAt P a C w v) : (execOp a.eval o).run P w = .ok (.value v) w := by
  have hv := Vals.run (P := P) _ (head_vals a.eval o hh) w
  unfold Oper.quietAt at h
  generalize (execOp a.eval o).run P w = r at *
  cases r with
  | ok n w' =>
    obtain ⟨u, rfl⟩ := hv n w' rfl
    obtain ⟨rfl, rfl⟩ := h
    rfl
  | halt x w' => exact h.elim

theorem marked_append (l1 l2 : List Nat) : ∀ listed, marked listed (l1 ++ l2) = marked (marked listed l1) l2 := by
  induction l1 with
  | nil => intro _; rfl
  | cons i l ih => intro listed; exact ih _

theorem hoistB_append (l1 l2 : List Nat) : ∀ listed, hoistB md ops (l1 ++ l2) listed = (hoistB md ops l1 listed && hoistB md ops l2 (marked listed l1)) := by
  induction l1 with
  | nil => intro _; simp [hoistB, marked]
  | cons i l ih => intro listed; simp only [List.cons_append, hoistB, marked, ih, Bool.and_assoc]

theorem closed_marked (l : List Nat) : ∀ listed, hoistB md ops l listed = true → Closed md ops listed → Closed md ops (marked listed l) := by
  induction l with
  | nil => intro _ _ h; exact h
  | cons i l ih =>
    intro listed hB hc
    simp only [hoistB, Bool.and_eq_true] at hB
    exact ih _ hB.2 (hc.set (by simpa using hB.1.1.1))

theorem hoist1 {h1 h2 : List Nat} (hsel : Region.noSelect ops = true) (hQ : ∀ c a w d v, Q (.panic c) (a.put d v) w → Q (.panic c) a w) {Qa : Act → Prop} {w : World} {fuel : Nat} :
    ∀ (l : List Nat) (lo : List Oper) (listed : Array Bool) (a : Act), (∀ i ∈ l, i ∈ h1) → l.map (fun i => ops[i]?) = lo.map some → hoistB md ops l listed = true →
      (∀ a', Qa a' → wpM P md ops Q C h1 h2 fuel (marked listed l) a' w) → wpQuiet P ops (fun _ => True) Qa lo a → wpM P md ops Q C h1 h2 (fuel + l.length) listed a w := by
  intro l
  induction l with
  | nil => intro lo listed a _ hm _ hk h; cases lo with | nil => exact hk a h | cons _ _ => simp at hm
  | cons i l ih =>
    intro lo listed a hmem hm hB hk h
    cases lo with
    | nil => simp at hm
    | cons o lo =>
      simp only [List.map_cons, List.cons.injEq] at hm
      obtain ⟨ho, hm⟩ := hm
      simp only [hoistB, Bool.and_eq_true, ho] at hB
      obtain ⟨⟨⟨hr, hf⟩, hh⟩, hB⟩ := hB
      have ih' := fun a' h' => ih lo (listed.setIfInBounds i true) a' (fun j hj => hmem j (List.mem_cons_of_mem _ hj)) hm hB hk h'
      rw [List.length_cons, show fuel + (l.length + 1) = (fuel + l.length) + 1 by omega]
      unfold wpQuiet at h
      split at h
      · rename_i hw
        obtain ⟨v, hq, hn⟩ := h
        exact wpM_first1 ho (hmem i (by simp)) (Region.noSelect_spec hsel) (fun c a w => hQ c a w _ _) _ _ _ _ (Region.free_spec ho hf) (by simpa using hr) (.inl ⟨hw, fun w => quiet_run hh (hq w trivial)⟩) (ih' _ hn)
      · rename_i hw
        exact wpM_first1 ho (hmem i (by simp)) (Region.noSelect_spec hsel) (fun c a w => hQ c a w _ _) _ _ _ _ (Region.free_spec ho hf) (by simpa using hr) (.inr ⟨by simpa using hw, rfl⟩) (ih' _ h)

theorem hoist2 {h1 h2 : List Nat} (hsel : Region.noSelect ops = true) (hQ : ∀ c a w d v, Q (.panic c) (a.put d v) w → Q (.panic c) a w) (hC : ∀ w w', C w → Below w.heap.size w w' → C w')
    (h12 : ∀ i ∈ h2, i ∉ h1) (htail : ∀ j oj, ops[j]? = some oj → j ∉ h1 → j ∉ h2 → newOp oj.op = true ∨ ∀ i ∈ h2, anc md ops ops.size j i = true) {Qa : Act → Prop} {w : World} (hw : C w) {fuel : Nat} :
    ∀ (l : List Nat) (lo : List Oper) (listed : Array Bool) (a : Act), (∀ i ∈ l, i ∈ h2) → l.map (fun i => ops[i]?) = lo.map some → hoistB md ops l listed = true → Closed md ops listed →
      (∀ a', Qa a' → wpM P md ops Q C h1 h2 fuel (marked listed l) a' w) → wpQuiet P ops C Qa lo a → wpM P md ops Q C h1 h2 (fuel + l.length) listed a w := by
  intro l
  induction l with
  | nil => intro lo listed a _ hm _ _ hk h; cases lo with | nil => exact hk a h | cons _ _ => simp at hm
  | cons i l ih =>
    intro lo listed a hmem hm hB hc hk h
    cases lo with
    | nil => simp at hm
    | cons o lo =>
      simp only [List.map_cons, List.cons.injEq] at hm
      obtain ⟨ho, hm⟩ := hm
      simp only [hoistB, Bool.and_eq_true, ho] at hB
      obtain ⟨⟨⟨hr, hf⟩, hh⟩, hB⟩ := hB
      have hr' : i ∈ Region.ready md ops listed := by simpa using hr
      have ih' := fun a' h' => ih lo (listed.setIfInBounds i true) a' (fun j hj => hmem j (List.mem_cons_of_mem _ hj)) hm hB (hc.set hr') hk h'
      have hi2 := hmem i (by simp)
      have ht : ∀ j oj, ops[j]? = some oj → j ∉ h1 → j ∉ h2 → newOp oj.op = true ∨ anc md ops ops.size j i = true := fun j oj hj a b => (htail j oj hj a b).imp id (fun h => h i hi2)
      rw [List.length_cons, show fuel + (l.length + 1) = (fuel + l.length) + 1 by omega]
      unfold wpQuiet at h
      split at h
      · rename_i hwant
        obtain ⟨v, hq, hn⟩ := h
        exact wpM_first2 ho (h12 i hi2) hi2 (Region.noSelect_spec hsel) (fun c a w => hQ c a w _ _) hC ht _ _ _ _ (Region.free_spec ho hf) hc hr' (.inl ⟨hwant, fun w hw => quiet_run hh (hq w hw)⟩) hw (ih' _ hn)
      · rename_i hwant
        exact wpM_first2 ho (h12 i hi2) hi2 (Region.noSelect_spec hsel) (fun c a w => hQ c a w _ _) hC ht _ _ _ _ (Region.free_spec ho hf) hc hr' (.inr ⟨by simpa using hwant, rfl⟩) hw (ih' _ h)

theorem wpM_seq {h1 h2 : List Nat} : ∀ (l : List Nat) (lo : List Oper) (listed : Array Bool) (a : Act) (w : World), (∀ i ∈ l, i ∉ h1 ∧ i ∉ h2) → l.map (fun i => ops[i]?) = lo.map some → seqL md ops l listed = true →
    wpList P ops Q lo a w → wpM P md ops Q C h1 h2 l.length listed a w := by
  intro l
  induction l with
  | nil => intro lo listed a w _ hm hB h; cases lo with | nil => exact ⟨by simpa [seqL] using hB, h⟩ | cons _ _ => simp at hm
  | cons i l ih =>
    intro lo listed a w hmem hm hB h
    cases lo with
    | nil => simp at hm
    | cons o lo =>
      simp only [List.map_cons, List.cons.injEq] at hm
      obtain ⟨ho, hm⟩ := hm
      simp only [seqL, Bool.and_eq_true, decide_eq_true_eq] at hB
      refine ⟨fun h1 => (by rw [hB.1] at h1; cases h1), fun j hj => ?_⟩
      rw [hB.1] at hj
      have hji : j = i := by simpa using hj
      subst hji
      have hn := hmem j (by simp)
      rw [if_neg hn.1, if_neg hn.2]
      have hw : wpOp P ops Q j (wpList P ops Q lo) a w := by unfold wpOp; simp only [ho]; exact h
      exact wpOp_mono (fun a' w' h' => ih lo _ a' w' (fun k hk => hmem k (List.mem_cons_of_mem _ hk)) hm hB.2 h') hw

theorem pick_map {l : List Oper} : ∀ (h : List Nat), (∀ i ∈ h, i < l.length) → h.map (fun i => l.toArray[i]?) = (pick l h).map some := by
  intro h
  induction h with
  | nil => intro _; rfl
  | cons i h ih =>
    intro hlt
    have hi := hlt i (by simp)
    have e : l[i]? = some l[i] := List.getElem?_eq_getElem hi
    have ih' := ih fun j hj => hlt j (List.mem_cons_of_mem _ hj)
    have e2 : pick l (i :: h) = l[i] :: pick l h := by simp [pick, e]
    rw [e2, List.map_cons, List.map_cons, ih', ← e]
    simp

theorem hoistB_lt : ∀ (l : List Nat) (listed : Array Bool), hoistB md ops l listed = true → ∀ i ∈ l, i < ops.size := by
  intro l
  induction l with
  | nil => intro _ _ i hi; cases hi
  | cons j l ih =>
    intro listed hB i hi
    simp only [hoistB, Bool.and_eq_true] at hB
    rcases List.mem_cons.1 hi with rfl | hi
    · cases ho : ops[i]? with
      | none => simp [ho] at hB
      | some o => exact (Array.getElem?_eq_some_iff.1 ho).1
    · exact ih _ hB.2 i hi

theorem seqL_lt : ∀ (l : List Nat) (listed : Array Bool), seqL md ops l listed = true → ∀ i ∈ l, i < ops.size := by
  intro l
  induction l with
  | nil => intro _ _ i hi; cases hi
  | cons j l ih =>
    intro listed hB i hi
    simp only [seqL, Bool.and_eq_true, decide_eq_true_eq] at hB
    rcases List.mem_cons.1 hi with rfl | hi
    · have : i ∈ Region.ready md ops listed := by rw [hB.1]; simp
      obtain ⟨_, o, ho, _⟩ := mem_ready.1 this
      exact (Array.getElem?_eq_some_iff.1 ho).1
    · exact ih _ hB.2 i hi

/-- Behind a region: what follows, as a variable; no panic. -/
def Only (K : Act → World → Prop) : Exit → Act → World → Prop
  | .normal, a, w => K a w
  | _, _, _ => False

theorem any_mix {a : Act} {w : World} {l : List Oper} (h1 h2 ts : List Nat) (C : World → Prop) (hB : mixB .any l.toArray h1 h2 ts = true)
    (hC : ∀ w w', C w → Below w.heap.size w w' → C w') (hw : C { w with drawn := w.drawn + 1 })
    (h : ∀ K : Act → World → Prop, (∀ a w, Q .normal a w → K a w) → wpQuiet P l.toArray (fun _ => True) (fun a1 => wpQuiet P l.toArray C (fun a2 => wpList P l.toArray (Only K) (pick l ts) a2 { w with drawn := w.drawn + 1 }) (pick l h2) a1) (pick l h1) a) :
    wpAny P .any l.toArray (Only fun a w => Q .normal a w) l.toArray.size (Array.replicate l.toArray.size false) a { w with drawn := w.drawn + 1 } := by
  have H := h (fun a w => Q .normal a w) fun _ _ h => h
  simp only [mixB, Bool.and_eq_true, decide_eq_true_eq] at hB
  obtain ⟨⟨⟨⟨⟨⟨hsel, h12⟩, hts⟩, htail⟩, hh⟩, hseq⟩, hlen⟩ := hB
  have h12' : ∀ i ∈ h2, i ∉ h1 := fun i hi => by simpa using List.all_eq_true.1 h12 i hi
  have hts' : ∀ i ∈ ts, i ∉ h1 ∧ i ∉ h2 := fun i hi => by simpa using List.all_eq_true.1 hts i hi
  have htail' : ∀ j oj, l.toArray[j]? = some oj → j ∉ h1 → j ∉ h2 → newOp oj.op = true ∨ ∀ i ∈ h2, anc .any l.toArray l.toArray.size j i = true := fun j oj hj n1 n2 => by
    have h3 := List.all_eq_true.1 htail j (List.mem_range.2 (Array.getElem?_eq_some_iff.1 hj).1)
    simp only [hj, Bool.or_eq_true, List.contains_iff_mem, n1, n2, false_or] at h3
    rcases h3 with h3 | h3
    · exact .inl h3
    · exact .inr fun i hi => List.all_eq_true.1 h3 i hi
  rw [hoistB_append, Bool.and_eq_true] at hh
  rw [marked_append] at hseq
  have lt1 := hoistB_lt _ _ hh.1
  have lt2 := hoistB_lt _ _ hh.2
  have lt3 := seqL_lt _ _ hseq
  have hQ' : ∀ c a w d v, Only (fun a w => Q .normal a w) (.panic c) (a.put d v) w → Only (fun a w => Q .normal a w) (.panic c) a w := fun _ _ _ _ _ h => h
  have cl0 : Closed .any l.toArray (Array.replicate l.toArray.size false) := fun j oj _ hl => by rw [getD_replicate_false] at hl; cases hl
  have cl1 := closed_marked _ _ hh.1 cl0
  refine wpAny_of_M (C := C) (h1 := h1) (h2 := h2) _ _ _ _ ?_
  have key : wpM P .any l.toArray (Only fun a w => Q .normal a w) C h1 h2 (ts.length + h2.length + h1.length) (Array.replicate l.toArray.size false) a { w with drawn := w.drawn + 1 } := ?_
  · have e : l.toArray.size = ts.length + h2.length + h1.length := by omega
    have e2 : ∀ n, n = ts.length + h2.length + h1.length → wpM P .any l.toArray (Only fun a w => Q .normal a w) C h1 h2 n (Array.replicate l.toArray.size false) a { w with drawn := w.drawn + 1 } := fun n hn => hn ▸ key
    exact e2 _ e
  refine hoist1 hsel hQ' h1 (pick l h1) _ a (fun i hi => hi) (pick_map h1 (by simpa using lt1)) hh.1 (fun a1 H1 => ?_) H
  refine hoist2 hsel hQ' hC h12' htail' hw h2 (pick l h2) _ a1 (fun i hi => hi) (pick_map h2 (by simpa using lt2)) hh.2 cl1 (fun a2 H2 => ?_) H1
  exact wpM_seq ts (pick l ts) _ a2 _ hts' (pick_map ts (by simpa using lt3)) hseq H2

theorem wp_region_mix {id : Nat} {a : Act} {w : World} {l : List Oper} (h1 h2 ts : List Nat) (C : World → Prop) (hm : P.follows .mixedOrders = true) (hB : mixB .any l.toArray h1 h2 ts = true)
    (hC : ∀ w w', C w → Below w.heap.size w w' → C w') (hw : C { w with drawn := w.drawn + 1 })
    (h : ∀ K : Act → World → Prop, (∀ a w, Q .normal a w → K a w) → wpQuiet P l.toArray (fun _ => True) (fun a1 => wpQuiet P l.toArray C (fun a2 => wpList P l.toArray (Only K) (pick l ts) a2 { w with drawn := w.drawn + 1 }) (pick l h2) a1) (pick l h1) a) :
    (Code.region id l.toArray true).wp P Q a w := by
  refine Code.wp_mono (Q := Only fun a w => Q .normal a w) (fun e a w h => by cases e <;> first | exact h | exact h.elim) ?_
  exact wp_region_any hm (any_mix h1 h2 ts C hB hC hw h)

/-- The worlds that are w but for new blocks and draws. -/
def Lat (w : World) : Type := { w' : World // Below w.heap.size w w' }
def Lat.w {w : World} (n : Lat w) : World := n.val
theorem Lat.below {w : World} (n : Lat w) : Below w.heap.size w n.w := n.property
def Lat.here (w : World) : Lat w := ⟨w, Below.refl _ _⟩
instance (w : World) : Nonempty (Lat w) := ⟨Lat.here w⟩
def Lat.drew (w : World) : Lat w := ⟨w.drew, (Below.refl _ _).drew⟩

theorem lat_cell {w : World} {p : Addr} {v : Value} (h : w.cell? p = some v) (n : Lat w) : n.w.cell? p = some v :=
  (n.below.cell (World.block_lt_of_cell? w p h)).trans h
theorem lat_block {w : World} {b : Nat} {o : Obj} (h : w.heap[b]? = some o) (n : Lat w) : n.w.heap[b]? = some o :=
  (n.below.block b (Array.getElem?_eq_some_iff.1 h).1).trans h
theorem lat_frozen {w : World} {p : Addr} {v : Value} (h : w.cell? p = some v) (hf : w.frozen? p = false) (n : Lat w) : n.w.frozen? p = false :=
  (n.below.frozen (World.block_lt_of_cell? w p h)).trans hf

theorem lat_call {w : World} {f : FuncId} {args : Array Value} {n : Lat w} {v : Value} (h : Calls P f args n.w fun e w' => e = .returned v ∧ Below n.w.heap.size n.w w') :
    Calls P f args n.w fun e w' => e = .returned v ∧ ∃ m : Lat w, w' = m.w :=
  h.mono fun _ w' ⟨he, hb⟩ => ⟨he, ⟨w', n.below.trans (hb.mono n.below.size)⟩, rfl⟩
theorem lat_call_same {w : World} {f : FuncId} {args : Array Value} {n : Lat w} {v : Value} (h : Calls P f args n.w fun e w' => e = .returned v ∧ n.w = w') :
    Calls P f args n.w fun e w' => e = .returned v ∧ ∃ m : Lat w, w' = m.w :=
  h.mono fun _ _ ⟨he, hb⟩ => ⟨he, n, hb.symm⟩

/-- Some operations first (those of h1 look at no memory), then a forced chain. -/
theorem wp_region_mixL {id : Nat} {a : Act} {w : World} {l : List Oper} (h1 h2 ts : List Nat) (hm : P.follows .mixedOrders = true) (hB : mixB .any l.toArray h1 h2 ts = true)
    (h : ∀ K : Act → World → Prop, (∀ a w, Q .normal a w → K a w) → wpQuiet P l.toArray (fun _ => True) (fun a1 => wpQuiet P l.toArray (fun w' => ∃ n : Lat w, w' = n.w) (fun a2 => wpList P l.toArray (Only K) (pick l ts) a2 w.drew) (pick l h2) a1) (pick l h1) a) :
    (Code.region id l.toArray true).wp P Q a w :=
  wp_region_mix h1 h2 ts (fun w' => ∃ n : Lat w, w' = n.w) hm hB (fun _ w2 ⟨n, e⟩ hb => by subst e; exact ⟨⟨w2, n.below.trans (hb.mono n.below.size)⟩, rfl⟩) ⟨Lat.drew w, rfl⟩ h

/-- Every operation reads, or calls what lays new memory alone. -/
theorem wp_region_quietL {id : Nat} {a : Act} {w : World} {l : List Oper} (hm : P.follows .mixedOrders = true) (hB : Region.lexB .any l.toArray = true)
    (h : wpQuiet P l.toArray (fun w' => ∃ n : Lat w, w' = n.w) (fun a' => ∀ n : Lat w, Q .normal a' n.w) l a) : (Code.region id l.toArray true).wp P Q a w :=
  wp_region_quiet (C := fun w' => ∃ n : Lat w, w' = n.w) hm hB ⟨Lat.drew w, rfl⟩ (by
    have e : (fun a' => ∀ w', (∃ n : Lat w, w' = n.w) → Q .normal a' w') = fun a' => ∀ n : Lat w, Q .normal a' n.w := by
      funext a'
      exact propext ⟨fun h n => h _ ⟨n, rfl⟩, fun h w' ⟨n, e⟩ => e ▸ h n⟩
    rw [e]
    exact h)
end
end Go.Proofs.Ytejecpmfhgplmaa.Mix

-- ---- Own
/- Small laws on memory that a call makes for itself: what has changed between two worlds, rows that are owned, blocks that are known. No program in sight. -/
namespace Go.Proofs.Ytejecpmfhgplmaa.Own
set_option linter.unusedSimpArgs false
set_option linter.unusedVariables false
open Go Go.RowKit

/-- A fact that the walk does not see, nor unfold. -/
@[irreducible] def Kept (p : Prop) : Prop := p
theorem kept {p : Prop} (h : p) : Kept p := by unfold Kept; exact h
theorem Kept.out {p : Prop} (h : Kept p) : p := by unfold Kept at h; exact h

/-- The greater of two, the lesser of two, as Go's builtins reckon them. -/
def mx (x y : Int) : Int := if x < y then y else x
def mn (x y : Int) : Int := if y < x then y else x
theorem mx_eq (x y : Int) : mx x y = max x y := by unfold mx; omega
theorem mn_eq (x y : Int) : mn x y = min x y := by unfold mn; omega
theorem max_int (ats : Array TypeId) (ty : TypeId) (k k' : IntKind) (x y : Int) : Builtin.max_ ats ty #[.int k x, .int k' y] = pure (.int k (mx x y)) := by
  simp only [Builtin.max_, List.foldlM_cons, List.foldlM_nil, Builtin.max2, gt_iff_lt]
  rfl
theorem min_int (ats : Array TypeId) (ty : TypeId) (k k' : IntKind) (x y : Int) : Builtin.min_ ats ty #[.int k x, .int k' y] = pure (.int k (mn x y)) := by
  simp only [Builtin.min_, List.foldlM_cons, List.foldlM_nil, Builtin.min2]
  rfl

/-- Between w and w' blocks may have come, and of w's blocks only those in S have turned. -/
structure Chg (S : Nat → Prop) (w w' : World) : Prop where
  os : w'.os = w.os
  tape : w'.tape = w.tape
  output : w'.output = w.output
  size : w.heap.size ≤ w'.heap.size
  block : ∀ k, k < w.heap.size → ¬ S k → w'.heap[k]? = w.heap[k]?

theorem Chg.refl (S : Nat → Prop) (w : World) : Chg S w w := ⟨rfl, rfl, rfl, Nat.le_refl _, fun _ _ _ => rfl⟩
theorem Chg.mono {S S' : Nat → Prop} {w w' : World} (h : Chg S w w') (hs : ∀ k, k < w.heap.size → S k → S' k) : Chg S' w w' :=
  ⟨h.os, h.tape, h.output, h.size, fun k hk hn => h.block k hk fun hS => hn (hs k hk hS)⟩
theorem Chg.trans {S S2 : Nat → Prop} {a b c : World} (h : Chg S a b) (k : Chg S2 b c) (hs : ∀ k, k < a.heap.size → S2 k → S k) : Chg S a c :=
  ⟨k.os.trans h.os, k.tape.trans h.tape, k.output.trans h.output, Nat.le_trans h.size k.size, fun i hi hn => (k.block i (Nat.lt_of_lt_of_le hi h.size) fun h2 => hn (hs i hi h2)).trans (h.block i hi hn)⟩
theorem Chg.of_below {S : Nat → Prop} {w w' : World} (h : Below w.heap.size w w') : Chg S w w' := ⟨h.os, h.tape, h.output, h.size, fun k hk _ => h.block k hk⟩
theorem Chg.of_grown {w w' : World} {row : Option Nat} (h : w.grownBy w' row) : Chg (fun k => some k = row) w w' := ⟨h.os, h.tape, h.output, h.size, fun k hk hn => h.block k hk hn⟩
theorem Chg.below {S : Nat → Prop} {w w' : World} (h : Chg S w w') {B : Nat} (hB : B ≤ w.heap.size) (hs : ∀ k, k < B → ¬ S k) : Below B w w' :=
  ⟨h.os, h.tape, h.output, h.size, fun k hk => h.block k (Nat.lt_of_lt_of_le hk hB) (hs k hk)⟩
theorem Chg.keep {S : Nat → Prop} {w w' : World} (h : Chg S w w') {k : Nat} {o : Obj} (ho : w.heap[k]? = some o) (hn : ¬ S k) : w'.heap[k]? = some o :=
  (h.block k (Array.getElem?_eq_some_iff.1 ho).1 hn).trans ho
theorem Chg.setCell (w : World) (p : Addr) (v : Value) : Chg (fun k => k = p.block) w (w.setCell p v) :=
  ⟨rfl, rfl, rfl, by simp [World.setCell], fun k _ hn => Below.heap_setCell _ _ _ _ hn⟩
theorem Chg.alloc (S : Nat → Prop) (w : World) (o : Obj) : Chg S w (w.alloc o) := ⟨rfl, rfl, rfl, by simp, fun k hk _ => Below.heap_alloc _ _ _ hk⟩
theorem Chg.drew (S : Nat → Prop) (w : World) : Chg S w w.drew := ⟨rfl, rfl, rfl, Nat.le_refl _, fun _ _ _ => rfl⟩

theorem lt_of_some {w : World} {k : Nat} {o : Obj} (h : w.heap[k]? = some o) : k < w.heap.size := (Array.getElem?_eq_some_iff.1 h).1

/-- A block that is known whole. -/
abbrev Blk (w : World) (p : Nat) (cs : Array Value) (t : TypeId) : Prop := w.heap[p]? = some (.cells cs t (0, 0))

theorem Blk.cell {w : World} {p : Nat} {cs : Array Value} {t : TypeId} (h : Blk w p cs t) {i : Nat} {v : Value} (hv : cs[i]? = some v) : w.cell? ⟨p, i, none⟩ = some v := by
  simp [World.cell?, h, hv]
theorem Blk.free {w : World} {p : Nat} {cs : Array Value} {t : TypeId} (h : Blk w p cs t) (i : Nat) : w.frozen? ⟨p, i, none⟩ = false := by
  simp [World.frozen?, h]
theorem Blk.lt {w : World} {p : Nat} {cs : Array Value} {t : TypeId} (h : Blk w p cs t) : p < w.heap.size := lt_of_some h
theorem Blk.set {w : World} {p : Nat} {cs : Array Value} {t : TypeId} (h : Blk w p cs t) (i : Nat) (v : Value) : Blk (w.setCell ⟨p, i, none⟩ v) p (cs.setIfInBounds i v) t := by
  show (w.setCell ⟨p, i, none⟩ v).heap[p]? = _
  have h' : w.heap[p]? = some (.cells cs t (0, 0)) := h
  simp [World.setCell, Array.getElem?_modify, h']
theorem Blk.setOther {w : World} {p : Nat} {cs : Array Value} {t : TypeId} (h : Blk w p cs t) {a : Addr} (hn : p ≠ a.block) (v : Value) : Blk (w.setCell a v) p cs t :=
  (Below.heap_setCell w a v p hn).trans h
theorem Blk.setRow {w : World} {p : Nat} {cs : Array Value} {t : TypeId} (h : Blk w p cs t) (ds : Array Value) : Blk (w.setRow p ds) p ds t := setRow_heap w p cs ds t (0, 0) h
theorem Blk.setRowOther {w : World} {p g : Nat} {cs : Array Value} {t : TypeId} (h : Blk w p cs t) (hn : p ≠ g) (ds : Array Value) : Blk (w.setRow g ds) p cs t := (setRow_other w g p ds hn).trans h
theorem Chg.setRow (w : World) (g : Nat) (ds : Array Value) : Chg (fun k => k = g) w (w.setRow g ds) := ⟨rfl, rfl, rfl, by simp, fun k _ hn => setRow_other w g k ds hn⟩
theorem Blk.alloc {w : World} {p : Nat} {cs : Array Value} {t : TypeId} (h : Blk w p cs t) (o : Obj) : Blk (w.alloc o) p cs t :=
  (Below.heap_alloc w o p h.lt).trans h
theorem Blk.fresh (w : World) (cs : Array Value) (t : TypeId) : Blk (w.alloc (.cells cs t)) w.heap.size cs t := heap_alloc_new w _
theorem Blk.fresh_at (w : World) (q : Nat) (hq : q = w.heap.size) (cs : Array Value) (t : TypeId) : Blk (w.alloc (.cells cs t)) q cs t := by subst hq; exact Blk.fresh w cs t
theorem Blk.ne {w : World} {p q : Nat} {cs ds : Array Value} {t u : TypeId} (h : Blk w p cs t) (k : Blk w q ds u) (hne : t ≠ u) : p ≠ q := by
  rintro rfl
  have := h.symm.trans k
  simp at this
  exact hne this.2

/-- v is a slice whose cells are xs, alone in a block of its own, or nil. -/
def Owns (w : World) (e : TypeId) (v : Value) (xs : List Value) : Prop := w.ownsRow 0 e 1 v xs.length xs

theorem Owns.nil (w : World) (e : TypeId) : Owns w e (.slice none 0 0) [] := World.ownsRow_nil w 0 e 1

theorem Owns.form {w : World} {e : TypeId} {v : Value} {xs : List Value} (h : Owns w e v xs) :
    (v = .slice none 0 0 ∧ xs = []) ∨ ∃ g cap cur, v = .slice (some ⟨g, 0, none⟩) xs.length cap ∧ Blk w g cur e ∧ xs.length ≤ cap ∧ cap ≤ maxLen ∧ cur.size = cap ∧ cur.toList.take xs.length = xs := by
  rcases h.2 with ⟨hv, hn⟩ | ⟨g, cap, cur, hv, _, hg, hc, hm, hs, ht⟩
  · exact .inl ⟨hv, List.length_eq_zero_iff.1 hn⟩
  · exact .inr ⟨g, cap, cur, hv, hg, hc, hm, by simpa using hs, by simpa using ht⟩

theorem Owns.mk {w : World} {e : TypeId} {g cap : Nat} {cur : Array Value} {xs : List Value} (hg : Blk w g cur e) (hc : xs.length ≤ cap) (hm : cap ≤ maxLen) (hs : cur.size = cap) (ht : cur.toList.take xs.length = xs) :
    Owns w e (.slice (some ⟨g, 0, none⟩) xs.length cap) xs :=
  ⟨by simp, .inr ⟨g, cap, cur, rfl, Nat.zero_le _, hg, hc, hm, by simpa using hs, by simpa using ht⟩⟩

theorem Owns.keep {w w' : World} {e : TypeId} {v : Value} {xs : List Value} (h : Owns w e v xs) (hk : ∀ g, v.ownBlock = some g → g < w.heap.size → w'.heap[g]? = w.heap[g]?) : Owns w' e v xs := by
  refine ⟨h.1, ?_⟩
  rcases h.2 with hn | ⟨g, cap, cur, rfl, hb, hgg, rest⟩
  · exact .inl hn
  · exact .inr ⟨g, cap, cur, rfl, hb, (hk g rfl (lt_of_some hgg)).trans hgg, rest⟩
theorem Owns.chg {w w' : World} {S : Nat → Prop} {e : TypeId} {v : Value} {xs : List Value} (h : Owns w e v xs) (hc : Chg S w w') (hn : ∀ g, v.ownBlock = some g → ¬ S g) : Owns w' e v xs :=
  h.keep fun g hg hl => hc.block g hl (hn g hg)
theorem Owns.alloc {w : World} {e : TypeId} {v : Value} {xs : List Value} (h : Owns w e v xs) (o : Obj) : Owns (w.alloc o) e v xs :=
  h.keep fun g _ hl => Below.heap_alloc w o g hl
theorem Owns.drew {w : World} {e : TypeId} {v : Value} {xs : List Value} (h : Owns w e v xs) : Owns w.drew e v xs := h
theorem Owns.setOther {w : World} {e : TypeId} {v : Value} {xs : List Value} (h : Owns w e v xs) {a : Addr} (hn : v.ownBlock ≠ some a.block) (u : Value) : Owns (w.setCell a u) e v xs :=
  h.keep fun g hg _ => Below.heap_setCell w a u g fun e => hn (by rw [hg, e])

theorem Owns.setRowOther {w : World} {e : TypeId} {v : Value} {xs : List Value} (h : Owns w e v xs) {p : Nat} (hn : v.ownBlock ≠ some p) (ds : Array Value) : Owns (w.setRow p ds) e v xs :=
  h.keep fun g hg _ => setRow_other w p g ds fun e => hn (by rw [hg, e])

theorem Owns.lt {w : World} {e : TypeId} {v : Value} {xs : List Value} (h : Owns w e v xs) : ∀ g, v.ownBlock = some g → g < w.heap.size := fun g hg => (World.ownsRow.lt h g hg).2
theorem Owns.blk {w : World} {e : TypeId} {v : Value} {xs : List Value} (h : Owns w e v xs) : ∀ g, v.ownBlock = some g → ∃ cur, Blk w g cur e := by
  intro g hg
  rcases h.form with ⟨rfl, _⟩ | ⟨g', cap, cur, rfl, hb, _⟩
  · simp [Value.ownBlock] at hg
  · simp [Value.ownBlock] at hg; subst hg; exact ⟨cur, hb⟩
/-- An owned row lies elsewhere than a block of another type. -/
theorem Owns.ne {w : World} {e t : TypeId} {v : Value} {xs : List Value} {p : Nat} {cs : Array Value} (h : Owns w e v xs) (k : Blk w p cs t) (hne : e ≠ t) : v.ownBlock ≠ some p := by
  intro hg
  obtain ⟨cur, hb⟩ := h.blk p hg
  exact hb.ne k hne rfl

theorem Owns.row {w : World} {e : TypeId} {v : Value} {xs : List Value} (h : Owns w e v xs) (hx : xs ≠ []) : ∃ g cap, v = .slice (some ⟨g, 0, none⟩) xs.length cap ∧ xs.length ≤ cap ∧ g < w.heap.size := by
  rcases h.form with ⟨_, rfl⟩ | ⟨g, cap, cur, rfl, hb, hc, _⟩
  · exact absurd rfl hx
  · exact ⟨g, cap, rfl, hc, hb.lt⟩

theorem Owns.cell {w : World} {e : TypeId} {g n cap : Nat} {xs : List Value} (h : Owns w e (.slice (some ⟨g, 0, none⟩) n cap) xs) {j : Nat} {u : Value} (hu : xs[j]? = some u) : w.cell? ⟨g, j, none⟩ = some u := by
  have hn : n = xs.length := by
    rcases h.form with ⟨hv, _⟩ | ⟨_, _, _, hv, _⟩
    · simp at hv
    · simp at hv; exact hv.2.1
  subst hn
  have hj : j < xs.length := (List.getElem?_eq_some_iff.1 hu).1
  rw [World.ownsRow.cellAt h j (by omega), hu]
theorem Owns.free {w : World} {e : TypeId} {g n cap : Nat} {xs : List Value} (h : Owns w e (.slice (some ⟨g, 0, none⟩) n cap) xs) (j : Nat) : w.frozen? ⟨g, j, none⟩ = false := by
  obtain ⟨cur, hb⟩ := h.blk g rfl
  exact hb.free j
theorem Owns.store {w : World} {e : TypeId} {g n cap : Nat} {xs : List Value} (h : Owns w e (.slice (some ⟨g, 0, none⟩) n cap) xs) (j : Nat) (u : Value) :
    Owns (w.setCell ⟨g, j, none⟩ u) e (.slice (some ⟨g, 0, none⟩) n cap) (xs.set j u) := by
  rcases h.form with ⟨hv, _⟩ | ⟨g', cap', cur, hv, hb, hc, hm, hs, ht⟩
  · simp at hv
  · simp only [Value.slice.injEq, Option.some.injEq, Addr.mk.injEq, and_true] at hv
    obtain ⟨rfl, rfl, rfl⟩ := hv
    have := hb.set j u
    have h2 := Owns.mk (xs := xs.set j u) this (by simpa using hc) hm (by simpa using hs) (by
      rw [List.length_set, Array.toList_setIfInBounds, List.take_set, ht])
    simpa using h2

theorem Owns.length {w : World} {e : TypeId} {a : Option Addr} {n cap : Nat} {xs : List Value} (h : Owns w e (.slice a n cap) xs) : n = xs.length := by
  rcases h.form with ⟨hv, hx⟩ | ⟨g', cap', cur, hv, _⟩
  · simp at hv; simp [hx, hv]
  · simp at hv; exact hv.2.1

section
variable {P : Program} {w : World}

/-- 'append' onto what the call owns: where the result lies. Sizes of one cell. -/
theorem run_append_at (t ty e : TypeId) (i : TypeInfo) (z : Value) (bytes : Nat) (ht : P.underlying t = some (.slice e)) (hi : P.info? e = some i) (hz : i.zero = some z)
    (hsize : i.size = 1) (hby : i.bytes = bytes) (hzs : z.cells.size = 1)
    (v : Value) (xs : List Value) (hown : Owns w e v xs)
    (a : Addr) (m c : Nat) (news : List Value) (hl : news.length = m) (hnews : ∀ j u, news[j]? = some u → w.cell? (a.add j) = some u) (h1 : ∀ u ∈ news, u.oneCell' = true)
    (h63 : xs.length + m ≤ maxLen) (hbytes : (xs.length + m) * bytes ≤ 140737488355328) :
    ∃ v' w', (Builtin.append_ #[t, t] ty #[v, .slice (some a) m c]).run P w = .ok v' w' ∧ Owns w' e v' (xs ++ news) ∧ w.grownBy w' v.ownBlock ∧
      (∀ g, v'.ownBlock = some g → some g = v.ownBlock ∨ w.heap.size ≤ g) := by
  have hl1 : news.length = m * 1 := by omega
  obtain ⟨v', w', hr, ho, hg, _⟩ := run_append_own (P := P) w 0 t ty e i z 1 bytes ht hi hz hsize hby hzs (by decide) v xs.length xs hown a m c news hl1 hnews h1 h63 hbytes (Nat.zero_le _)
  refine ⟨v', w', hr, ?_, hg, ?_⟩
  · unfold Owns
    rw [List.length_append, hl]
    exact ho
  · intro g hgv
    rcases hown.form with ⟨rfl, hx⟩ | ⟨g0, cap, cur, rfl, hb, hc, hm, hs, htk⟩
    · right
      subst hx
      obtain ⟨v2, w2, hr2, ho2, _, _⟩ := run_append_own (P := P) w w.heap.size t ty e i z 1 bytes ht hi hz hsize hby hzs (by decide) (.slice none 0 0) 0 [] (World.ownsRow_nil w _ e 1) a m c news hl1 hnews h1 (by simpa using h63) (by simpa using hbytes) (Nat.le_refl _)
      have e1 := hr.symm.trans hr2
      simp only [Result.ok.injEq] at e1
      rw [e1.1] at hgv
      exact (ho2.lt g hgv).1
    · by_cases hroom : xs.length + m ≤ cap
      · left
        have hr3 := run_append_room (P := P) w t ty e i ht hi g0 xs.length cap cur hb a m c news (by rw [hsize]; exact hl1) hnews h1 hroom (by rw [hsize, hs, hl]; omega)
        have e1 := hr.symm.trans hr3
        simp only [Result.ok.injEq] at e1
        rw [e1.1] at hgv
        exact hgv.symm
      · right
        have holds : ∀ j u, xs[j]? = some u → w.cell? ((⟨g0, 0, none⟩ : Addr).add j) = some u := World.ownsRow.cells hown (g := g0) rfl
        have hr3 := run_append_grow (P := P) w t ty e i z ht hi hz ⟨g0, 0, none⟩ xs.length cap xs (by rw [hsize]; omega) holds a m c news (by rw [hsize]; exact hl1) hnews (by omega) (by simp only [maxLen] at h63; omega) (growslice_fits (by omega) (by rw [hby]; exact hbytes))
        have e1 := hr.symm.trans hr3
        simp only [Result.ok.injEq] at e1
        rw [e1.1] at hgv
        simp [Value.ownBlock] at hgv
        omega

/-- The law at the operation. -/
theorem wpList_app {ops : Array Oper} {rest : List Oper} {o : Oper} {a : Act} {Q : Exit → Act → World → Prop} (hgd : o.guard = none) (s x : Operand) (t : TypeId)
    (ho : o.op = .call { callee := .builtin .append, args := #[s, x], argTypes := #[t, t] })
    (e : TypeId) (i : TypeInfo) (z : Value) (bytes : Nat) (ht : P.underlying t = some (.slice e)) (hi : P.info? e = some i) (hz : i.zero = some z)
    (hsize : i.size = 1) (hby : i.bytes = bytes) (hzs : z.cells.size = 1)
    (v : Value) (xs : List Value) (hs : a.eval s = v) (hown : Owns w e v xs)
    (ad : Addr) (m c : Nat) (news : List Value) (hx : a.eval x = .slice (some ad) m c) (hl : news.length = m) (hnews : ∀ j u, news[j]? = some u → w.cell? (ad.add j) = some u) (h1 : ∀ u ∈ news, u.oneCell' = true)
    (h63 : xs.length + m ≤ maxLen) (hbytes : (xs.length + m) * bytes ≤ 140737488355328)
    (h : ∀ v' w', Owns w' e v' (xs ++ news) → Chg (fun k => some k = v.ownBlock) w w' → (∀ g, v'.ownBlock = some g → some g = v.ownBlock ∨ w.heap.size ≤ g) → wpList P ops Q rest (a.put o.dst v') w') : wpList P ops Q (o :: rest) a w :=
  wpList_plain hgd fun K hK => by
    obtain ⟨v', w', hr, h2, h3, h4⟩ := run_append_at (P := P) t o.type e i z bytes ht hi hz hsize hby hzs v xs hown ad m c news hl hnews h1 h63 hbytes
    unfold Oper.wp execOp
    simp only [ho, resolve, invoke, builtin, Sem.run_bind, Sem.run_pure, Result.andThen_ok, List.map_toArray, List.map_cons, List.map_nil, hs, hx, hr]
    exact hK _ _ (h v' w' h2 (Chg.of_grown h3) h4)

/-- The same, of one element that lies in a new block. -/
theorem wpList_app1 {ops : Array Oper} {rest : List Oper} {o : Oper} {a : Act} {Q : Exit → Act → World → Prop} (hgd : o.guard = none) (s x : Operand) (t : TypeId)
    (ho : o.op = .call { callee := .builtin .append, args := #[s, x], argTypes := #[t, t] })
    (e : TypeId) (i : TypeInfo) (z : Value) (bytes : Nat) (ht : P.underlying t = some (.slice e)) (hi : P.info? e = some i) (hz : i.zero = some z)
    (hsize : i.size = 1) (hby : i.bytes = bytes) (hzs : z.cells.size = 1)
    (v : Value) (xs : List Value) (u : Value) (hs : a.eval s = v) (hown : Owns w e v xs) (h1 : u.oneCell' = true)
    (hx : a.eval x = .slice (some ⟨w.heap.size, 0, none⟩) 1 1)
    (h63 : xs.length + 1 ≤ maxLen) (hbytes : (xs.length + 1) * bytes ≤ 140737488355328)
    (h : ∀ v' w', Owns w' e v' (xs ++ [u]) → Chg (fun k => some k = v.ownBlock) w w' → (∀ g, v'.ownBlock = some g → some g = v.ownBlock ∨ w.heap.size ≤ g) → wpList P ops Q rest (a.put o.dst v') w') :
    wpList P ops Q (o :: rest) a (w.alloc (.cells #[u] e)) :=
  wpList_app (w := w.alloc (.cells #[u] e)) hgd s x t ho e i z bytes ht hi hz hsize hby hzs v xs hs (hown.alloc _) ⟨w.heap.size, 0, none⟩ 1 1 [u] hx rfl
    (fun j y hj => by
      match j, hj with
      | 0, hj => simp at hj; subst hj; simp [Addr.add])
    (fun y hy => by simp at hy; subst hy; exact h1) h63 hbytes
    (fun v' w' k1 k2 k3 => h v' w' k1 ((Chg.alloc _ w _).trans k2 fun _ _ h => h) fun g hg => (k3 g hg).imp id fun h => by simp at h; omega)

/-- 'make([]T, n)', the elements of one cell. -/
theorem wpList_mk1 {ops : Array Oper} {rest : List Oper} {o : Oper} {a : Act} {Q : Exit → Act → World → Prop} (hgd : o.guard = none) (l c : Operand) (t : TypeId) (ho : o.op = Op.makeSlice t l c)
    (e : TypeId) (i : TypeInfo) (z : Value) (bytes : Nat) (ht : P.underlying t = some (.slice e)) (hi : P.info? e = some i) (hz : i.zero = some z) (hsize : i.size = 1) (hby : i.bytes = bytes) (hzs : z.cells = #[z])
    (kl kc : IntKind) (L C : Int) (n : Nat) (hl : a.eval l = .int kl L) (hc : a.eval c = .int kc C) (hL : L = (n : Int)) (hC : C = (n : Int)) (b2 : bytes * n ≤ 281474976710656) (b3 : n ≤ maxLen)
    (h : ∀ w', Owns w' e (.slice (some ⟨w.heap.size, 0, none⟩) n n) (List.replicate n z) → Below w.heap.size w w' → w.heap.size < w'.heap.size → wpList P ops Q rest (a.put o.dst (.slice (some ⟨w.heap.size, 0, none⟩) n n)) w') :
    wpList P ops Q (o :: rest) a w := by
  refine wpList_make_full w hgd l c t ho 0 e i z 1 ht hi hz hsize kl kc L C n hl hc hL hC (by rw [hby]; exact b2) b3 (Nat.zero_le _) fun w' hown hg => ?_
  rw [hzs, Nat.mul_one, toList_madeCells_one] at hown
  have ho2 : Owns w' e (.slice (some ⟨w.heap.size, 0, none⟩) n n) (List.replicate n z) := by
    unfold Owns
    rw [List.length_replicate]
    exact hown
  exact h w' ho2 ⟨hg.os, hg.tape, hg.output, hg.size, fun k hk => hg.block k hk (by simp)⟩ (ho2.lt _ rfl)
end

theorem Owns.slice {w : World} {e : TypeId} {v : Value} {xs : List Value} (h : Owns w e v xs) : ∃ a cap, v = .slice a xs.length cap ∧ (xs ≠ [] → ∃ g, a = some ⟨g, 0, none⟩) := by
  rcases h.form with ⟨rfl, rfl⟩ | ⟨g, cap, cur, rfl, _⟩
  · exact ⟨none, 0, rfl, fun h => absurd rfl h⟩
  · exact ⟨_, cap, rfl, fun _ => ⟨g, rfl⟩⟩
end Go.Proofs.Ytejecpmfhgplmaa.Own

-- ---- Sized
/- What can be read of a slice, whoever owns it; a law's parameter that is a slice of whole numbers. No program in sight. -/
namespace Go.Proofs.Ytejecpmfhgplmaa.Own
set_option linter.unusedSimpArgs false
set_option linter.unusedVariables false
open Go Go.RowKit Go.ChangeShapes Go.WideShapes

/-- The block where a slice's cells lie. -/
def homeOf : Value → Option Nat
  | .slice (some x) (_ + 1) _ => some x.block
  | _ => none

/-- Of v the elements xs can be read. -/
def Rd (w : World) (v : Value) (xs : List Value) : Prop :=
  ∃ a cap, v = .slice a xs.length cap ∧ xs.length ≤ cap ∧ cap ≤ maxLen ∧ ∀ i u, xs[i]? = some u → ∃ x, a = some x ∧ w.cell? (x.add i) = some u

theorem Rd.nil (w : World) : Rd w (.slice none 0 0) [] := ⟨none, 0, rfl, Nat.le_refl _, by simp [maxLen], fun i u h => by simp at h⟩

theorem add_block (x : Addr) (i : Nat) : (x.add i).block = x.block := by unfold Addr.add; split <;> rfl
theorem lt_of_cell {w : World} {p : Addr} {v : Value} (h : w.cell? p = some v) : p.block < w.heap.size := by
  rcases Nat.lt_or_ge p.block w.heap.size with hl | hl
  · exact hl
  · simp [World.cell?, Array.getElem?_eq_none hl] at h

theorem Rd.lt {w : World} {v : Value} {xs : List Value} (h : Rd w v xs) : ∀ g, homeOf v = some g → g < w.heap.size := by
  intro g hg
  obtain ⟨a, cap, rfl, _, _, hc⟩ := h
  cases xs with
  | nil => cases a <;> simp [homeOf] at hg
  | cons u t =>
    obtain ⟨x, rfl, hx⟩ := hc 0 u rfl
    simp [homeOf] at hg
    subst hg
    have := lt_of_cell hx
    rwa [add_block] at this

theorem Rd.keep {w w' : World} {v : Value} {xs : List Value} (h : Rd w v xs) (hk : ∀ g, homeOf v = some g → g < w.heap.size → w'.heap[g]? = w.heap[g]?) : Rd w' v xs := by
  obtain ⟨a, cap, rfl, h1, h2, hc⟩ := h
  refine ⟨a, cap, rfl, h1, h2, fun i u hu => ?_⟩
  obtain ⟨x, rfl, hx⟩ := hc i u hu
  have hpos : 0 < xs.length := by have := (List.getElem?_eq_some_iff.1 hu).1; omega
  have hhome : homeOf (Value.slice (some x) xs.length cap) = some x.block := by
    cases xs with
    | nil => simp at hpos
    | cons => rfl
  have hlt := lt_of_cell hx
  rw [add_block] at hlt
  exact ⟨x, rfl, (World.cell?_of_block (w := w) (a := x.add i) (by rw [add_block]; exact hk x.block hhome hlt)).trans hx⟩
theorem Rd.chg {w w' : World} {S : Nat → Prop} {v : Value} {xs : List Value} (h : Rd w v xs) (hc : Chg S w w') (hn : ∀ g, homeOf v = some g → ¬ S g) : Rd w' v xs :=
  h.keep fun g hg hl => hc.block g hl (hn g hg)
theorem Rd.below {B : Nat} {w w' : World} {v : Value} {xs : List Value} (h : Rd w v xs) (hb : Below B w w') (hB : ∀ g, homeOf v = some g → g < B) : Rd w' v xs :=
  h.keep fun g hg _ => hb.block g (hB g hg)
theorem Rd.later {w w' : World} {v : Value} {xs : List Value} (h : Rd w v xs) (hb : Below w.heap.size w w') : Rd w' v xs :=
  h.below hb h.lt

theorem home_own {g : Nat} {n cap g' : Nat} (h : homeOf (.slice (some ⟨g, 0, none⟩) n cap) = some g') : g' = g := by
  cases n with
  | zero => simp [homeOf] at h
  | succ n => simp [homeOf] at h; exact h.symm

theorem Owns.rd {w : World} {e : TypeId} {v : Value} {xs : List Value} (h : Owns w e v xs) : Rd w v xs := by
  rcases h.form with ⟨rfl, rfl⟩ | ⟨g, cap, cur, rfl, hb, hc, hm, hs, ht⟩
  · exact Rd.nil w
  · refine ⟨_, cap, rfl, hc, hm, fun i u hu => ⟨_, rfl, ?_⟩⟩
    have := h.cell hu
    rw [show (⟨g, 0, none⟩ : Addr).add i = ⟨g, i, none⟩ from by unfold Addr.add; split <;> simp_all]
    exact this
theorem Owns.home {w : World} {e : TypeId} {v : Value} {xs : List Value} (h : Owns w e v xs) : ∀ g, homeOf v = some g → v.ownBlock = some g := by
  intro g hg
  rcases h.form with ⟨rfl, rfl⟩ | ⟨g', cap, cur, rfl, _⟩
  · simp [homeOf] at hg
  · rw [home_own hg]; rfl

theorem Rd.length {w : World} {a : Option Addr} {n cap : Nat} {xs : List Value} (h : Rd w (.slice a n cap) xs) : n = xs.length := by
  obtain ⟨_, _, hv, _⟩ := h
  simp at hv
  exact hv.2.1
theorem Rd.at {w : World} {a : Option Addr} {n cap : Nat} {xs : List Value} (h : Rd w (.slice a n cap) xs) {i : Nat} {u : Value} (hu : xs[i]? = some u) : ∃ x, a = some x ∧ w.cell? (x.add i) = some u := by
  obtain ⟨_, _, hv, _, _, hc⟩ := h
  simp only [Value.slice.injEq] at hv
  obtain ⟨rfl, _, rfl⟩ := hv
  exact hc i u hu

theorem add_add (x : Addr) (i j : Nat) : (x.add i).add j = x.add (i + j) := by
  unfold Addr.add
  by_cases hi : i = 0
  · subst hi; simp
  · by_cases hj : j = 0
    · subst hj; simp [hi]
    · simp [hi, hj, Nat.add_assoc]

/-- What can be read of a part of a slice. -/
theorem Rd.sub {w : World} {a : Option Addr} {N cap : Nat} {xs : List Value} (h : Rd w (.slice a N cap) xs) (k n : Nat) (hk : k + n ≤ N) :
    Rd w (.slice (if cap = k then a else a.map (fun x => x.add k)) (k + n - k) (cap - k)) ((xs.drop k).take n) := by
  obtain ⟨_, _, hv, h1, h2, hc⟩ := h
  simp only [Value.slice.injEq] at hv
  obtain ⟨rfl, rfl, rfl⟩ := hv
  have hl : ((xs.drop k).take n).length = n := by rw [List.length_take, List.length_drop]; omega
  refine ⟨_, _, by rw [hl, Nat.add_sub_cancel_left], by rw [hl]; omega, by omega, fun i u hu => ?_⟩
  have hi : i < n := by have := (List.getElem?_eq_some_iff.1 hu).1; omega
  rw [List.getElem?_take, if_pos hi, List.getElem?_drop] at hu
  obtain ⟨x, rfl, hx⟩ := hc _ u hu
  rw [if_neg (by omega)]
  exact ⟨x.add k, rfl, by rw [add_add]; exact hx⟩

theorem Rd.take {w : World} {a : Option Addr} {N cap : Nat} {xs : List Value} (h : Rd w (.slice a N cap) xs) (n : Nat) (hn : n ≤ N) : Rd w (.slice a n cap) (xs.take n) := by
  obtain ⟨_, _, hv, h1, h2, hc⟩ := h
  simp only [Value.slice.injEq] at hv
  obtain ⟨rfl, rfl, rfl⟩ := hv
  have hl : (xs.take n).length = n := by rw [List.length_take]; omega
  refine ⟨_, _, by rw [hl], by rw [hl]; omega, h2, fun i u hu => ?_⟩
  have hi : i < n := by have := (List.getElem?_eq_some_iff.1 hu).1; omega
  rw [List.getElem?_take, if_pos hi] at hu
  exact hc i u hu

/-- Whole numbers from nought on, as values; whole numbers, as values. -/
def nums (k : IntKind) (l : List Nat) : List Value := l.map fun n : Nat => .int k (n : Int)
def ints (k : IntKind) (l : List Int) : List Value := l.map fun n => .int k n
@[simp] theorem length_nums (k : IntKind) (l : List Nat) : (nums k l).length = l.length := by simp [nums]
@[simp] theorem length_ints (k : IntKind) (l : List Int) : (ints k l).length = l.length := by simp [ints]
theorem nums_at (k : IntKind) (l : List Nat) (i : Nat) (h : i < l.length) : (nums k l)[i]? = some (.int k ((l.getD i 0 : Nat) : Int)) := by
  simp [nums, List.getD_eq_getElem?_getD, h]
theorem ints_at (k : IntKind) (l : List Int) (i : Nat) (h : i < l.length) : (ints k l)[i]? = some (.int k (l.getD i 0)) := by
  simp [ints, List.getD_eq_getElem?_getD, h]

/-- A law's parameter that is a slice of whole numbers. -/
def Arg (k : IntKind) (w : World) (a : Option Addr) (len cap : Nat) (zs : List Int) : Prop :=
  (a = none ∧ len = 0 ∧ cap = 0 ∧ zs = []) ∨
  ∃ x, a = some x ∧ len ≤ cap ∧ cap ≤ maxLen ∧ zs.length = cap ∧ (∀ i, i < zs.length → w.cell? (x.add i) = some (.int k (zs.getD i 0))) ∧ ∀ n ∈ zs, (Lit.int k n).wf = true

theorem Arg.rd {k : IntKind} {w : World} {a : Option Addr} {len cap : Nat} {zs : List Int} (h : Arg k w a len cap zs) :
    ∃ xs : List Int, xs.length = len ∧ Rd w (.slice a len cap) (ints k xs) ∧ ∀ n ∈ xs, (Lit.int k n).wf = true := by
  rcases h with ⟨rfl, rfl, rfl, rfl⟩ | ⟨x, rfl, hl, hm, hz, hc, hw⟩
  · exact ⟨[], rfl, Rd.nil w, by simp⟩
  · have hlen : (zs.take len).length = len := by rw [List.length_take]; omega
    refine ⟨zs.take len, hlen, ⟨some x, cap, by rw [length_ints, hlen], by rw [length_ints, hlen]; exact hl, hm, fun i u hu => ⟨x, rfl, ?_⟩⟩, fun n hn => hw n (List.mem_of_mem_take hn)⟩
    have hi : i < len := by have := (List.getElem?_eq_some_iff.1 hu).1; rw [length_ints, hlen] at this; exact this
    rw [ints_at k _ i (by omega)] at hu
    have := hc i (by omega)
    rw [this, ← hu]
    simp [List.getD_eq_getElem?_getD, List.getElem?_take, hi]

theorem Arg.rdN {k : IntKind} (hk : k.min = 0) {w : World} {a : Option Addr} {len cap : Nat} {zs : List Int} (h : Arg k w a len cap zs) :
    ∃ xs : List Nat, xs.length = len ∧ Rd w (.slice a len cap) (nums k xs) ∧ ∀ n ∈ xs, (n : Int) ≤ k.max := by
  obtain ⟨xs, hl, hr, hw⟩ := h.rd
  have hw2 : ∀ n ∈ xs, 0 ≤ n ∧ n ≤ k.max := fun n hn => by
    have := hw n hn
    simp only [Lit.wf, Bool.and_eq_true, decide_eq_true_eq, hk] at this
    exact this
  refine ⟨xs.map Int.toNat, by simpa using hl, ?_, ?_⟩
  · have e : nums k (xs.map Int.toNat) = ints k xs := by
      unfold nums ints
      rw [List.map_map]
      apply List.map_congr_left
      intro n hn
      have := (hw2 n hn).1
      simp [Int.toNat_of_nonneg this]
    rw [e]
    exact hr
  · intro n hn
    obtain ⟨z, hz, rfl⟩ := List.mem_map.1 hn
    have := hw2 z hz
    omega

/-- A row's slice of whole numbers is no longer than its weight allows. -/
theorem sized_ints {H : Type} {enc : TypeId × Value → H} {P : Program} {W : World} {base : Nat} {spare : Nat → Bool} {held : Bool} {t e : TypeId} {k : IntKind} {a : Option Addr} {len cap : Nat} {d : DataW H} {ps : List MemPlace} {ts : List TypeId} {ds : List (DataW H)} {j : Nat}
    (hsz : (DataW.weightsEach P ts ds).all (· ≤ reachBytes) = true) (ht : ts[j]? = some t) (hd : ds[j]? = some d) (hu : P.underlying t = some (.slice e)) (he : P.underlying e = some (.int k)) (hc : P.cellsOf e = 1) {B : Nat} (hB : P.bytesOf e = B)
    (h : DataW.Trod enc P W base spare held t (.slice a len cap) d ps) : len * B ≤ 140737488351232 := by
  obtain ⟨fuel, hf⟩ := h
  rcases open_ints hu he hc hf with ⟨hcs, _⟩ | ⟨x, l, c, zs, hcs, _, hl, _, hz, hx, _, _⟩
  · simp [Value.cells] at hcs
    obtain ⟨rfl, rfl, rfl⟩ := hcs
    simp
  · simp [Value.cells] at hcs
    obtain ⟨rfl, rfl, rfl⟩ := hcs
    obtain ⟨hx, _⟩ := Prod.mk.inj hx
    subst hx
    have z := sized_slice hsz ht hd hu
    rw [hB] at z
    have hl2 : len ≤ zs.length := by
      rw [hz]
      split
      · exact hl
      · exact Nat.le_refl _
    have h1 : (lits (H := H) k (zs.take len)).length + (lits (H := H) k (zs.drop len)).length = zs.length := by
      simp [lits]
      omega
    rw [h1] at z
    exact Nat.le_trans (Nat.mul_le_mul_right _ hl2) z
end Go.Proofs.Ytejecpmfhgplmaa.Own

-- ---- My
/- Several rows of one-cell elements that a call owns side by side: each in a block of its own. No program in sight. -/
namespace Go.Proofs.Ytejecpmfhgplmaa.Own
set_option linter.unusedSimpArgs false
set_option linter.unusedVariables false
open Go Go.RowKit

/-- In no block both. -/
def Dj (u v : Value) : Prop := ∀ b, u.ownBlock = some b → v.ownBlock ≠ some b
theorem Dj.symm {u v : Value} (h : Dj u v) : Dj v u := fun b h1 h2 => h b h2 h1
/-- These rows, each alone in its block, all from block B on. -/
structure Many (B : Nat) (w : World) (e : TypeId) (R : List (Value × List Value)) : Prop where
  own : ∀ (i : Nat) v xs, R[i]? = some (v, xs) → Owns w e v xs
  new : ∀ (i : Nat) v xs, R[i]? = some (v, xs) → ∀ b, v.ownBlock = some b → B ≤ b
  sep : ∀ (i j : Nat) a xs b ys, i ≠ j → R[i]? = some (a, xs) → R[j]? = some (b, ys) → Dj a b

theorem Many.nil (B : Nat) (w : World) (e : TypeId) : Many B w e [] := ⟨fun i v xs h => by simp at h, fun i v xs h => by simp at h, fun i j a xs b ys _ h => by simp at h⟩
theorem Many.chg {B : Nat} {w w' : World} {S : Nat → Prop} {e : TypeId} {R : List (Value × List Value)} (h : Many B w e R) (hc : Chg S w w') (hn : ∀ (i : Nat) v xs, R[i]? = some (v, xs) → ∀ g, v.ownBlock = some g → ¬ S g) : Many B w' e R :=
  ⟨fun i v xs hi => (h.own i v xs hi).chg hc (hn i v xs hi), h.new, h.sep⟩
theorem Many.later {B : Nat} {w w' : World} {e : TypeId} {R : List (Value × List Value)} (h : Many B w e R) (hb : Below w.heap.size w w') : Many B w' e R :=
  ⟨fun i v xs hi => (h.own i v xs hi).keep fun g hg hl => hb.block g hl, h.new, h.sep⟩
/-- One row has turned. -/
theorem Many.set {B : Nat} {w w' : World} {e : TypeId} {R : List (Value × List Value)} (h : Many B w e R) (i : Nat) {v v' : Value} {xs xs' : List Value} (hi : R[i]? = some (v, xs)) (hc : Chg (fun k => some k = v.ownBlock) w w')
    (ho : Owns w' e v' xs') (hn : ∀ g, v'.ownBlock = some g → some g = v.ownBlock ∨ w.heap.size ≤ g) (hB : B ≤ w.heap.size) : Many B w' e (R.set i (v', xs')) := by
  have hil : i < R.length := (List.getElem?_eq_some_iff.1 hi).1
  refine ⟨fun j u ys hj => ?_, fun j u ys hj b hb => ?_, fun j k a ys b zs hjk hj hk => ?_⟩
  · by_cases e1 : j = i
    · subst e1
      rw [List.getElem?_set_self hil, Option.some.injEq, Prod.mk.injEq] at hj
      obtain ⟨rfl, rfl⟩ := hj; exact ho
    · rw [List.getElem?_set_ne (fun e => e1 e.symm)] at hj
      exact (h.own j u ys hj).chg hc fun g hg hs => h.sep j i u ys v xs e1 hj hi g hg hs.symm
  · by_cases e1 : j = i
    · subst e1
      rw [List.getElem?_set_self hil, Option.some.injEq, Prod.mk.injEq] at hj
      obtain ⟨rfl, rfl⟩ := hj
      rcases hn b hb with h1 | h1
      · exact h.new j v xs hi b h1.symm
      · omega
    · rw [List.getElem?_set_ne (fun e => e1 e.symm)] at hj; exact h.new j u ys hj b hb
  · have other : ∀ (m : Nat) (u : Value) (us : List Value), m ≠ i → R[m]? = some (u, us) → Dj u v' := fun m u us hm hmu g hg hv => by
      rcases hn g hv with h1 | h1
      · exact h.sep m i u us v xs hm hmu hi g hg h1.symm
      · have := (h.own m u us hmu).lt g hg; omega
    by_cases e1 : j = i
    · subst e1
      have e2 : k ≠ j := fun e => hjk e.symm
      rw [List.getElem?_set_self hil, Option.some.injEq, Prod.mk.injEq] at hj
      rw [List.getElem?_set_ne (fun e => e2 e.symm)] at hk
      obtain ⟨rfl, rfl⟩ := hj
      exact (other k b zs e2 hk).symm
    · rw [List.getElem?_set_ne (fun e => e1 e.symm)] at hj
      by_cases e2 : k = i
      · subst e2
        rw [List.getElem?_set_self hil, Option.some.injEq, Prod.mk.injEq] at hk
        obtain ⟨rfl, rfl⟩ := hk
        exact other j a ys e1 hj
      · rw [List.getElem?_set_ne (fun e => e2 e.symm)] at hk
        exact h.sep j k a ys b zs hjk hj hk
/-- A new row. -/
theorem Many.add {B : Nat} {w w' : World} {e : TypeId} {R : List (Value × List Value)} (h : Many B w e R) (hb : Below w.heap.size w w') {v : Value} {xs : List Value} (ho : Owns w' e v xs) (hn : ∀ g, v.ownBlock = some g → w.heap.size ≤ g) (hB : B ≤ w.heap.size) : Many B w' e (R ++ [(v, xs)]) := by
  have h' := h.later hb
  have last : ∀ (j : Nat) u ys, (R ++ [(v, xs)])[j]? = some (u, ys) → R[j]? = some (u, ys) ∨ (j = R.length ∧ u = v ∧ ys = xs) := fun j u ys hj => by
    rcases Nat.lt_trichotomy j R.length with h1 | h1 | h1
    · rw [List.getElem?_append_left h1] at hj; exact .inl hj
    · subst h1
      rw [List.getElem?_append_right (Nat.le_refl _)] at hj
      simp at hj; exact .inr ⟨rfl, hj.1.symm, hj.2.symm⟩
    · rw [List.getElem?_eq_none (by simp; omega)] at hj; cases hj
  have oth : ∀ (j : Nat) u ys, R[j]? = some (u, ys) → Dj u v := fun j u ys hj g hg hv => by
    have := (h.own j u ys hj).lt g hg; have := hn g hv; omega
  refine ⟨fun j u ys hj => ?_, fun j u ys hj b hb => ?_, fun j k a ys b zs hjk hj hk => ?_⟩
  · rcases last j u ys hj with h1 | ⟨_, rfl, rfl⟩
    · exact h'.own j u ys h1
    · exact ho
  · rcases last j u ys hj with h1 | ⟨_, rfl, rfl⟩
    · exact h'.new j u ys h1 b hb
    · have := hn b hb; omega
  · rcases last j a ys hj with h1 | ⟨rfl, rfl, rfl⟩
    · rcases last k b zs hk with h2 | ⟨rfl, rfl, rfl⟩
      · exact h'.sep j k a ys b zs hjk h1 h2
      · exact oth j a ys h1
    · rcases last k b zs hk with h2 | ⟨rfl, rfl, rfl⟩
      · exact (oth k b zs h2).symm
      · exact absurd rfl hjk
/-- A block of another type stays. -/
theorem Many.other {B : Nat} {w w' : World} {e t : TypeId} {R : List (Value × List Value)} (h : Many B w e R) (i : Nat) {v : Value} {xs : List Value} (hi : R[i]? = some (v, xs)) (hc : Chg (fun k => some k = v.ownBlock) w w') {p : Nat} {cs : Array Value} (hp : Blk w p cs t) (hne : e ≠ t) : Blk w' p cs t :=
  hc.keep hp fun hs => (h.own i v xs hi).ne hp hne hs.symm
/-- A block of another type is written. -/
theorem Many.setBlk {B : Nat} {w : World} {e t : TypeId} {R : List (Value × List Value)} (h : Many B w e R) {p : Nat} {cs : Array Value} (hp : Blk w p cs t) (hne : e ≠ t) (j : Nat) (u : Value) : Many B (w.setCell ⟨p, j, none⟩ u) e R :=
  h.chg (Chg.setCell w _ _) fun i v xs hi g hg hs => (h.own i v xs hi).ne hp hne (by rw [hg]; exact congrArg some hs)
theorem Many.below {B : Nat} {w w' : World} {e : TypeId} {R : List (Value × List Value)} (h : Many B w e R) (i : Nat) {v : Value} {xs : List Value} (hi : R[i]? = some (v, xs)) (hc : Chg (fun k => some k = v.ownBlock) w w') (hB : B ≤ w.heap.size) : Below B w w' :=
  hc.below hB fun k hk hs => by have := h.new i v xs hi k hs.symm; omega
/-- One cell of a row is written. -/
theorem Many.store {B : Nat} {w : World} {e : TypeId} {R : List (Value × List Value)} (h : Many B w e R) (i : Nat) {g n cap : Nat} {xs : List Value} (hi : R[i]? = some (.slice (some ⟨g, 0, none⟩) n cap, xs)) (j : Nat) (u : Value) (hB : B ≤ w.heap.size) :
    Many B (w.setCell ⟨g, j, none⟩ u) e (R.set i (.slice (some ⟨g, 0, none⟩) n cap, xs.set j u)) :=
  h.set i hi (by have := Chg.setCell w ⟨g, j, none⟩ u; exact this.mono fun k _ hk => by rw [hk]; rfl) ((h.own i _ _ hi).store j u) (fun b hb => .inl hb.symm) hB
end Go.Proofs.Ytejecpmfhgplmaa.Own
namespace Go.Proofs.Ytejecpmfhgplmaa
open Go.RowKit _root_.Go.Proofs.Ytejecpmfhgplmaa.Own
theorem sliceI {w : World} {e : TypeId} {k : IntKind} {v : Value} {xs : List Int} (h : Owns w e v (ints k xs)) : ∃ a c, v = .slice a xs.length c := by
  obtain ⟨a, c, h, _⟩ := h.slice
  exact ⟨a, c, by rw [h, length_ints]⟩
theorem rowI {w : World} {e : TypeId} {k : IntKind} {v : Value} {xs : List Int} (h : Owns w e v (ints k xs)) (hx : xs ≠ []) : ∃ g c, v = .slice (some ⟨g, 0, none⟩) xs.length c ∧ xs.length ≤ c ∧ g < w.heap.size := by
  obtain ⟨g, c, h1, h2, h3⟩ := h.row (by intro e; exact hx (by have := congrArg List.length e; rw [length_ints] at this; exact List.length_eq_zero_iff.1 this))
  rw [length_ints] at h1 h2
  exact ⟨g, c, h1, h2, h3⟩
theorem ints_set (k : IntKind) (l : List Int) (i : Nat) (v : Int) : ints k (l.set i v) = (ints k l).set i (.int k v) := by simp [ints, List.map_set]
end Go.Proofs.Ytejecpmfhgplmaa

-- ---- Rc
/- wringerref7's best.cost: the least cost of a state, with what is known already. Conditions: the memory that 'Tab' tells. -/
namespace Go.Proofs.Ytejecpmfhgplmaa
set_option linter.unusedSimpArgs false
set_option linter.unusedVariables false
open Go.RowKit Mix _root_.Go.Proofs.Ytejecpmfhgplmaa.Own

namespace Dp
/-- A cost as the document's function tells it. -/
def enc : Option Int → Int
  | none => -1
  | some x => x
def sums (g : List Int) : List Int := (List.range (g.length + 1)).map fun i => (g.drop i).sum
theorem length_sums (g : List Int) : (sums g).length = g.length + 1 := by simp [sums]
theorem sums_at (g : List Int) (i : Nat) (h : i ≤ g.length) : (sums g).getD i 0 = (g.drop i).sum := by
  unfold sums; simp [List.getD_eq_getElem?_getD, show i < g.length + 1 by omega]
/-- Frequencies in order, few and not great. -/
structure Gs (g : List Int) : Prop where
  len : g.length ≤ 65
  each : ∀ x ∈ g, 0 ≤ x ∧ x ≤ 16777216
theorem sum_le : ∀ (g : List Int), (∀ x ∈ g, 0 ≤ x ∧ x ≤ 16777216) → 0 ≤ g.sum ∧ g.sum ≤ 16777216 * (g.length : Int) := by
  intro g
  induction g with
  | nil => intro _; simp
  | cons a t ih =>
    intro h
    have h1 := h a (by simp)
    have h2 := ih fun x hx => h x (List.mem_cons_of_mem _ hx)
    rw [List.sum_cons, List.length_cons]
    omega
theorem Gs.sum {g : List Int} (h : Gs g) (i : Nat) : 0 ≤ (g.drop i).sum ∧ (g.drop i).sum ≤ 1090519040 := by
  have h1 := sum_le (g.drop i) fun x hx => h.each x (List.mem_of_mem_drop hx)
  have h2 := h.len
  rw [List.length_drop] at h1
  omega
theorem dp_le : ∀ (r : Nat) (g : List Int) (o : Nat) (x : Int), Gs g → dp r g o = some x → 0 ≤ x ∧ x ≤ 1090519040 * (r : Int) := by
  intro r
  induction r with
  | zero =>
    intro g o x hg h
    by_cases e : g = []
    · subst e; rw [dp_nil] at h; split at h <;> simp at h; omega
    · rw [dp_out e (by omega)] at h; cases h
  | succ r ih =>
    intro g o x hg h
    by_cases e : g = []
    · subst e; rw [dp_nil] at h; split at h <;> simp at h; omega
    · obtain ⟨_, _, y, hy, hx⟩ := dp_some h e
      have h1 := ih _ _ _ ⟨by have := hg.len; rw [List.length_drop]; omega, fun f hf => hg.each f (List.mem_of_mem_drop hf)⟩ hy
      have h2 := hg.sum (take r g o)
      omega
theorem Gs.drop {g : List Int} (h : Gs g) (j : Nat) : Gs (g.drop j) := ⟨by have := h.len; rw [List.length_drop]; omega, fun f hf => h.each f (List.mem_of_mem_drop hf)⟩

/-- The least of the candidates below n, from 0 on. -/
def minUp (c : Nat → Option Int) : Nat → Option Int
  | 0 => none
  | n + 1 => match c n with
    | none => minUp c n
    | some x => match minUp c n with
      | none => some x
      | some y => if x < y then some x else some y
theorem minUp_spec (c : Nat → Option Int) : ∀ n, match minUp c n with
    | none => ∀ j, j < n → c j = none
    | some x => (∃ k, k < n ∧ c k = some x) ∧ ∀ j y, j < n → c j = some y → x ≤ y := by
  intro n
  induction n with
  | zero => simp only [minUp]; intro j h; omega
  | succ n ih =>
    simp only [minUp]
    cases hc : c n with
    | none =>
      simp only
      cases hm : minUp c n with
      | none =>
        rw [hm] at ih; simp only at ih ⊢
        intro j hj
        by_cases e : j = n
        · rw [e]; exact hc
        · exact ih j (by omega)
      | some x =>
        rw [hm] at ih; simp only at ih ⊢
        obtain ⟨⟨k, hk, hck⟩, h2⟩ := ih
        refine ⟨⟨k, by omega, hck⟩, fun j y hj hjy => ?_⟩
        by_cases e : j = n
        · rw [e, hc] at hjy; cases hjy
        · exact h2 j y (by omega) hjy
    | some x =>
      simp only
      cases hm : minUp c n with
      | none =>
        rw [hm] at ih; simp only at ih ⊢
        refine ⟨⟨n, by omega, hc⟩, fun j y hj hjy => ?_⟩
        by_cases e : j = n
        · rw [e, hc] at hjy; cases hjy; omega
        · rw [ih j (by omega)] at hjy; cases hjy
      | some z =>
        rw [hm] at ih; simp only at ih ⊢
        obtain ⟨⟨k, hk, hck⟩, h2⟩ := ih
        by_cases hxz : x < z
        · rw [if_pos hxz]; simp only
          refine ⟨⟨n, by omega, hc⟩, fun j y hj hjy => ?_⟩
          by_cases e : j = n
          · rw [e, hc] at hjy; cases hjy; omega
          · have := h2 j y (by omega) hjy; omega
        · rw [if_neg hxz]; simp only
          refine ⟨⟨k, by omega, hck⟩, fun j y hj hjy => ?_⟩
          by_cases e : j = n
          · rw [e, hc] at hjy; cases hjy; omega
          · exact h2 j y (by omega) hjy
theorem minUp_best (c : Nat → Option Int) (o : Nat) : minUp c (o + 1) = (best c o).map Prod.fst := by
  have h1 := minUp_spec c (o + 1)
  have h2 := best_spec c o
  cases hb : best c o with
  | none =>
    rw [hb] at h2
    cases hm : minUp c (o + 1) with
    | none => rfl
    | some x => rw [hm] at h1; simp only at h1; obtain ⟨⟨k, hk, hck⟩, _⟩ := h1; rw [h2 k (by omega) (by omega)] at hck; cases hck
  | some p =>
    obtain ⟨y, m⟩ := p
    rw [hb] at h2
    obtain ⟨_, b2, b3, b4⟩ := h2
    cases hm : minUp c (o + 1) with
    | none => rw [hm] at h1; simp only at h1; rw [h1 m (by omega)] at b3; cases b3
    | some x =>
      rw [hm] at h1; simp only at h1
      obtain ⟨⟨k, hk, hck⟩, h3⟩ := h1
      have e1 := h3 m y (by omega) b3
      have e2 := (b4 k x (by omega) (by omega) hck).1
      simp; omega

/-- The table of what is known. -/
def key (d j o : Nat) : Nat := (d * 70 + j) * 140 + o
theorem key_inj {d j o d' j' o' : Nat} (h1 : j < 70) (h2 : o < 140) (h3 : j' < 70) (h4 : o' < 140) (h : key d j o = key d' j' o') : d = d' ∧ j = j' ∧ o = o' := by
  unfold key at h
  refine ⟨?_, ?_, ?_⟩ <;> omega
structure KGood (lim : Nat) (g K : List Int) : Prop where
  len : K.length = 166600
  at_ : ∀ d j o, 1 ≤ d → d ≤ lim → j < 70 → o < 140 → K.getD (key d j o) 0 = 0 ∨ K.getD (key d j o) 0 = enc (dp (lim + 1 - d) (g.drop j) o) + 2
theorem KGood.set {lim : Nat} {g K : List Int} (h : KGood lim g K) {d j o : Nat} (hd : 1 ≤ d) (hdl : d ≤ lim) (hj : j < 70) (ho : o < 140) (hl : lim ≤ 15) : KGood lim g (K.set (key d j o) (enc (dp (lim + 1 - d) (g.drop j) o) + 2)) := by
  refine ⟨by rw [List.length_set]; exact h.len, fun d' j' o' h1 h2 h3 h4 => ?_⟩
  have hk : key d j o < K.length := by rw [h.len]; unfold key; omega
  by_cases e : key d j o = key d' j' o'
  · obtain ⟨rfl, rfl, rfl⟩ := key_inj hj ho h3 h4 e
    right
    simp [List.getD_eq_getElem?_getD, List.getElem?_set_self hk]
  · have := h.at_ d' j' o' h1 h2 h3 h4
    simp only [List.getD_eq_getElem?_getD, List.getElem?_set_ne e] at this ⊢
    exact this
end Dp
open Dp

/-- A maker of the document's at block p. -/
structure Tab (w : World) (p : Nat) (vf vk vs : Value) (lim : Nat) (g K : List Int) : Prop where
  blk : Blk w p #[vf, .int .i64 (lim : Int), vk, vs] 61
  rf : Owns w 3 vf (ints .i64 g)
  rk : Owns w 3 vk (ints .i64 K)
  rs : Owns w 3 vs (ints .i64 (sums g))
  nf : ∀ b, vk.ownBlock = some b → vf.ownBlock ≠ some b
  ns : ∀ b, vk.ownBlock = some b → vs.ownBlock ≠ some b
  good : KGood lim g K

set_option maxHeartbeats 1000000 in
theorem key_calls (x : Option Addr) (d j o : Nat) (w : World) (hd : d ≤ 100) (hj : j ≤ 1000) (ho : o ≤ 1000) :
    Calls Try.prog 32 #[.pointer x, .int .i64 (d : Int), .int .i64 (j : Int), .int .i64 (o : Int)] w fun e w' => e = .returned (.int .i64 (key d j o : Int)) ∧ w = w' := by
  go_enter Try.func32, Try.ntmps32
  go_wp2_with fail
  go_ret
  exact ⟨by unfold key; rfl, rfl⟩

/-- The answer of cost, and what it leaves. -/
def CostE (g : List Int) (lim p : Nat) (vf vk vs : Value) (r j o : Nat) (w : World) (e : Ending) (w' : World) : Prop :=
  e = .returned (.int .i64 (enc (dp r (g.drop j) o))) ∧ ∃ K', Tab w' p vf vk vs lim g K' ∧ Chg (fun b => some b = vk.ownBlock) w w'

set_option maxHeartbeats 2000000 in
theorem cost_end (g : List Int) (lim p : Nat) (vf vk vs : Value) (K : List Int) (r d j o : Nat) (w : World) (hT : Tab w p vf vk vs lim g K) (hg : Gs g) (hj : j = g.length) (ho : o ≤ 1000) (hd : d ≤ 100) :
    Calls Try.prog 24 #[.pointer (some ⟨p, 0, none⟩), .int .i64 (d : Int), .int .i64 (j : Int), .int .i64 (o : Int)] w (CostE g lim p vf vk vs r j o w) := by
  obtain ⟨af, cf, rfl⟩ := sliceI hT.rf
  have c0 := hT.blk.cell (i := 0) rfl
  have e0 : (g.length : Int) - (j : Int) = 0 := by omega
  have HR := kept (show dp r (g.drop j) o = if o = 0 then some 0 else none by rw [List.drop_eq_nil_of_le (by omega), dp_nil])
  have HT := kept hT
  have HG := kept hg
  clear hT hg hj
  by_cases h0 : o = 0
  · subst h0
    go_enter Try.func24, Try.ntmps24
    go_wp2_with fail
    go_ret
    exact ⟨by rw [HR.out]; rfl, K, HT.out, Chg.refl _ _⟩
  · have t0 : ((o : Int) == 0) = false := by rw [beq_eq_false_iff_ne]; omega
    have H0 := kept h0
    clear h0
    go_enter Try.func24, Try.ntmps24
    go_wp2_with fail
    go_ret
    exact ⟨by rw [HR.out, if_neg H0.out]; rfl, K, HT.out, Chg.refl _ _⟩

set_option maxHeartbeats 2000000 in
theorem cost_out (g : List Int) (lim p : Nat) (vf vk vs : Value) (K : List Int) (r d j o : Nat) (w : World) (hT : Tab w p vf vk vs lim g K) (hg : Gs g) (hj : j < g.length) (ho : o ≤ 1000) (hd : d ≤ 100) (hr : d + r = lim + 1)
    (hout : o = 0 ∨ g.length < j + o ∨ r = 0) :
    Calls Try.prog 24 #[.pointer (some ⟨p, 0, none⟩), .int .i64 (d : Int), .int .i64 (j : Int), .int .i64 (o : Int)] w (CostE g lim p vf vk vs r j o w) := by
  obtain ⟨af, cf, rfl⟩ := sliceI hT.rf
  have c0 := hT.blk.cell (i := 0) rfl
  have c1 := hT.blk.cell (i := 1) rfl
  have hne : g.drop j ≠ [] := by intro e; have := congrArg List.length e; rw [List.length_drop] at this; simp at this; omega
  have HR := kept (show dp r (g.drop j) o = none from dp_out hne (by rw [List.length_drop]; omega))
  have e0 : (((g.length : Int) - (j : Int)) == 0) = false := by rw [beq_eq_false_iff_ne]; omega
  have HT := kept hT
  have hl := hg.len
  clear hT hg hne
  by_cases h0 : o = 0
  · subst h0
    clear hout
    go_enter Try.func24, Try.ntmps24
    go_wp2_with fail
    go_ret
    exact ⟨by rw [HR.out]; rfl, K, HT.out, Chg.refl _ _⟩
  · have t0 : ((o : Int) == 0) = false := by rw [beq_eq_false_iff_ne]; omega
    by_cases h1 : g.length < j + o
    · have t1 : decide (((g.length : Int) - (j : Int)) < (o : Int)) = true := by rw [decide_eq_true_eq]; omega
      clear hout h0
      go_enter Try.func24, Try.ntmps24
      go_wp2_with fail
      go_ret
      exact ⟨by rw [HR.out]; rfl, K, HT.out, Chg.refl _ _⟩
    · have t1 : decide (((g.length : Int) - (j : Int)) < (o : Int)) = false := by rw [decide_eq_false_iff_not]; omega
      have t2 : decide ((lim : Int) < (d : Int)) = true := by rw [decide_eq_true_eq]; omega
      have t3 : lim < d := by omega
      clear hout h0 h1
      go_enter Try.func24, Try.ntmps24
      go_wp2_with fail
      go_ret
      exact ⟨by rw [HR.out]; rfl, K, HT.out, Chg.refl _ _⟩

set_option maxHeartbeats 2000000 in
theorem cost_known (g : List Int) (lim p : Nat) (vf vk vs : Value) (K : List Int) (r d j o : Nat) (w : World) (hT : Tab w p vf vk vs lim g K) (hg : Gs g) (hj : j < g.length) (ho : j + o ≤ g.length) (ho1 : 1 ≤ o) (hd : 1 ≤ d) (hlim : lim ≤ 15) (hr : d + (r + 1) = lim + 1)
    (hk : K.getD (key d j o) 0 = enc (dp (r + 1) (g.drop j) o) + 2) :
    Calls Try.prog 24 #[.pointer (some ⟨p, 0, none⟩), .int .i64 (d : Int), .int .i64 (j : Int), .int .i64 (o : Int)] w (CostE g lim p vf vk vs (r + 1) j o w) := by
  obtain ⟨af, cf, rfl⟩ := sliceI hT.rf
  have hl := hg.len
  have hKl := hT.good.len
  obtain ⟨gk, ck, rfl, _, _⟩ := rowI hT.rk (by intro e; rw [e] at hKl; simp at hKl)
  have c0 := hT.blk.cell (i := 0) rfl
  have c1 := hT.blk.cell (i := 1) rfl
  have c2 := hT.blk.cell (i := 2) rfl
  rw [hKl] at c2
  obtain ⟨m, hm⟩ : ∃ m, m = key d j o := ⟨_, rfl⟩
  have hm2 : m < 166600 := by rw [hm]; unfold key; omega
  have ck2 := hT.rk.cell (j := m) (Own.ints_at .i64 K m (by rw [hKl]; exact hm2))
  obtain ⟨z, hz⟩ : ∃ z, z = enc (dp (r + 1) (g.drop j) o) := ⟨_, rfl⟩
  have hz1 : -1 ≤ z ∧ z ≤ 20000000000 := by
    rw [hz]
    cases e : dp (r + 1) (g.drop j) o with
    | none => simp [enc]
    | some x => have := dp_le _ _ _ _ (hg.drop j) e; simp only [enc]; omega
  rw [← hm] at hk
  rw [hk, ← hz] at ck2
  have e0 : (((g.length : Int) - (j : Int)) == 0) = false := by rw [beq_eq_false_iff_ne]; omega
  have t0 : ((o : Int) == 0) = false := by rw [beq_eq_false_iff_ne]; omega
  have t1 : decide (((g.length : Int) - (j : Int)) < (o : Int)) = false := by rw [decide_eq_false_iff_not]; omega
  have t2 : decide ((lim : Int) < (d : Int)) = false := by rw [decide_eq_false_iff_not]; omega
  have HK := kept (fun (x : Option Addr) => key_calls x d j o w (by omega) (by omega) (by omega))
  rw [← hm] at HK
  obtain ⟨hz1a, hz1b⟩ := hz1
  have hz3 : 0 < z + 2 := by omega
  have t3 : decide (0 < z + 2) = true := decide_eq_true hz3
  have HZ := kept hz
  have HT := kept hT
  clear hT hg hk hm hz
  go_enter Try.func24, Try.ntmps24
  go_wp2_with (first | (go_at_call 32; refine (HK.out _).mono ?_; rintro e w1 ⟨rfl, rfl⟩))
  go_ret
  exact ⟨by rw [← HZ.out]; rfl, K, HT.out, Chg.refl _ _⟩

end Go.Proofs.Ytejecpmfhgplmaa

-- ---- Owk
/- Rows of elements of several cells that a call makes for itself. No program in sight. -/
namespace Go.Proofs.Ytejecpmfhgplmaa.Own
set_option linter.unusedSimpArgs false
set_option linter.unusedVariables false
open Go Go.RowKit

/-- v is a slice of n elements of sz cells each, alone in a block of its own, or nil. -/
def OwnK (w : World) (e : TypeId) (sz : Nat) (v : Value) (n : Nat) (cs : List Value) : Prop := w.ownsRow 0 e sz v n cs
theorem OwnK.keep {w w' : World} {e : TypeId} {sz n : Nat} {v : Value} {cs : List Value} (h : OwnK w e sz v n cs) (hk : ∀ g, v.ownBlock = some g → g < w.heap.size → w'.heap[g]? = w.heap[g]?) : OwnK w' e sz v n cs := by
  refine ⟨h.1, ?_⟩
  rcases h.2 with hn | ⟨g, cap, cur, rfl, hb, hgg, rest⟩
  · exact .inl hn
  · exact .inr ⟨g, cap, cur, rfl, hb, (hk g rfl (lt_of_some hgg)).trans hgg, rest⟩
theorem OwnK.chg {w w' : World} {S : Nat → Prop} {e : TypeId} {sz n : Nat} {v : Value} {cs : List Value} (h : OwnK w e sz v n cs) (hc : Chg S w w') (hn : ∀ g, v.ownBlock = some g → ¬ S g) : OwnK w' e sz v n cs :=
  h.keep fun g hg hl => hc.block g hl (hn g hg)
theorem OwnK.later {w w' : World} {e : TypeId} {sz n : Nat} {v : Value} {cs : List Value} (h : OwnK w e sz v n cs) (hb : Below w.heap.size w w') : OwnK w' e sz v n cs := h.keep fun g _ hl => hb.block g hl
theorem OwnK.setOther {w : World} {e : TypeId} {sz n : Nat} {v : Value} {cs : List Value} (h : OwnK w e sz v n cs) {a : Addr} (hn : v.ownBlock ≠ some a.block) (u : Value) : OwnK (w.setCell a u) e sz v n cs :=
  h.keep fun g hg _ => Below.heap_setCell w a u g fun e => hn (by rw [hg, e])
theorem OwnK.lt {w : World} {e : TypeId} {sz n : Nat} {v : Value} {cs : List Value} (h : OwnK w e sz v n cs) : ∀ g, v.ownBlock = some g → g < w.heap.size := fun g hg => (World.ownsRow.lt h g hg).2
theorem OwnK.blk {w : World} {e : TypeId} {sz n : Nat} {v : Value} {cs : List Value} (h : OwnK w e sz v n cs) : ∀ g, v.ownBlock = some g → ∃ cur, Blk w g cur e := by
  intro g hg
  rcases h.2 with ⟨rfl, _⟩ | ⟨g', cap, cur, rfl, _, hb, _⟩
  · simp [Value.ownBlock] at hg
  · simp [Value.ownBlock] at hg; subst hg; exact ⟨cur, hb⟩
theorem OwnK.ne {w : World} {e t : TypeId} {sz n : Nat} {v : Value} {cs : List Value} {p : Nat} {ds : Array Value} (h : OwnK w e sz v n cs) (k : Blk w p ds t) (hne : e ≠ t) : v.ownBlock ≠ some p := by
  intro hg
  obtain ⟨cur, hb⟩ := h.blk p hg
  exact hb.ne k hne rfl
theorem OwnK.neO {w : World} {e t : TypeId} {sz n : Nat} {v u : Value} {cs xs : List Value} (h : OwnK w e sz v n cs) (k : Owns w t u xs) (hne : e ≠ t) {g : Nat} (hg : u.ownBlock = some g) : v.ownBlock ≠ some g := by
  obtain ⟨cur, hb⟩ := k.blk g hg
  exact h.ne hb hne
theorem OwnK.slice {w : World} {e : TypeId} {sz n : Nat} {v : Value} {cs : List Value} (h : OwnK w e sz v n cs) : ∃ a cap, v = .slice a n cap ∧ n ≤ cap ∧ cap ≤ maxLen ∧ (0 < n → ∃ g, a = some ⟨g, 0, none⟩) := by
  rcases h.2 with ⟨rfl, rfl⟩ | ⟨g, cap, cur, rfl, _, _, hc, hm, _⟩
  · exact ⟨none, 0, rfl, Nat.le_refl _, by simp [maxLen], fun h => absurd h (by omega)⟩
  · exact ⟨_, cap, rfl, hc, hm, fun _ => ⟨g, rfl⟩⟩
theorem OwnK.cell {w : World} {e : TypeId} {sz g n cap : Nat} {cs : List Value} (h : OwnK w e sz (.slice (some ⟨g, 0, none⟩) n cap) n cs) {j : Nat} {u : Value} (hu : cs[j]? = some u) : w.cell? ⟨g, j, none⟩ = some u := by
  have hj : j < cs.length := (List.getElem?_eq_some_iff.1 hu).1
  rw [World.ownsRow.cellAt h j (by have := h.1; omega), hu]
theorem OwnK.nil (w : World) (e : TypeId) (sz : Nat) : OwnK w e sz (.slice none 0 0) 0 [] := World.ownsRow_nil w 0 e sz
theorem OwnK.free {w : World} {e : TypeId} {sz g n cap : Nat} {cs : List Value} (h : OwnK w e sz (.slice (some ⟨g, 0, none⟩) n cap) n cs) (j : Nat) : w.frozen? ⟨g, j, none⟩ = false := by
  obtain ⟨cur, hb⟩ := h.blk g rfl
  exact hb.free j
theorem OwnK.store {w : World} {e : TypeId} {sz g n cap : Nat} {cs : List Value} (h : OwnK w e sz (.slice (some ⟨g, 0, none⟩) n cap) n cs) (j : Nat) (u : Value) :
    OwnK (w.setCell ⟨g, j, none⟩ u) e sz (.slice (some ⟨g, 0, none⟩) n cap) n (cs.set j u) := by
  rcases h.2 with ⟨hv, _⟩ | ⟨g', cap', cur, hv, hb, hgg, hc, hm, hs, ht⟩
  · simp at hv
  · simp only [Value.slice.injEq, Option.some.injEq, Addr.mk.injEq, and_true, true_and] at hv
    obtain ⟨rfl, rfl⟩ := hv
    have h2 : Blk (w.setCell ⟨g, j, none⟩ u) g (cur.setIfInBounds j u) e := Blk.set hgg j u
    refine ⟨by rw [List.length_set]; exact h.1, .inr ⟨g, cap, _, rfl, hb, h2, hc, hm, by simpa using hs, ?_⟩⟩
    rw [Array.toList_setIfInBounds, List.take_set, ht]

section
variable {P : Program} {w : World}
/-- 'append' of one element that lies in a new block. -/
theorem wpList_appK1 {ops : Array Oper} {rest : List Oper} {o : Oper} {a : Act} {Q : Exit → Act → World → Prop} (hgd : o.guard = none) (s x : Operand) (t : TypeId)
    (ho : o.op = .call { callee := .builtin .append, args := #[s, x], argTypes := #[t, t] })
    (e : TypeId) (i : TypeInfo) (z : Value) (size bytes : Nat) (ht : P.underlying t = some (.slice e)) (hi : P.info? e = some i) (hz : i.zero = some z)
    (hsize : i.size = size) (hby : i.bytes = bytes) (hzs : z.cells.size = size) (hsz : 0 < size)
    (v : Value) (n : Nat) (cs us : List Value) (hs : a.eval s = v) (hown : OwnK w e size v n cs) (hu : us.length = size) (h1 : ∀ u ∈ us, u.oneCell' = true)
    (hx : a.eval x = .slice (some ⟨w.heap.size, 0, none⟩) 1 1)
    (h63 : n + 1 ≤ maxLen) (hbytes : (n + 1) * bytes ≤ 140737488355328)
    (h : ∀ v' w', OwnK w' e size v' (n + 1) (cs ++ us) → Chg (fun k => some k = v.ownBlock) w w' → (∀ g, v'.ownBlock = some g → some g = v.ownBlock ∨ w.heap.size ≤ g) → wpList P ops Q rest (a.put o.dst v') w') :
    wpList P ops Q (o :: rest) a (w.alloc (.cells us.toArray e)) := by
  refine wpList_append_own_at (w := w.alloc (.cells us.toArray e)) hgd s x t ho 0 e i z size bytes ht hi hz hsize hby hzs hsz v n cs hs (hown.later ((Below.refl _ _).alloc (Nat.le_refl _) _)) ⟨w.heap.size, 0, none⟩ 1 1 us hx (by rw [hu]; simp) ?_ h1 h63 hbytes (Nat.zero_le _) ?_
  · intro j u hj
    have hb : Blk (w.alloc (.cells us.toArray e)) w.heap.size us.toArray e := Blk.fresh _ _ _
    have := hb.cell (i := j) (v := u) (by simpa using hj)
    rw [show (⟨w.heap.size, 0, none⟩ : Addr).add j = ⟨w.heap.size, j, none⟩ from by unfold Addr.add; split <;> simp_all]
    exact this
  · intro v' w' k1 k2 _ k4
    refine h v' w' k1 ((Chg.alloc _ w _).trans (Chg.of_grown k2) fun _ _ h => h) fun g hg => ?_
    rcases k4 with k4 | k4
    · left; rw [← k4]; exact hg.symm
    · right; rw [k4] at hg; simp at hg; omega

/-- 'make([]T, 0, n)'. -/
theorem wpList_mkK0 {ops : Array Oper} {rest : List Oper} {o : Oper} {a : Act} {Q : Exit → Act → World → Prop} (hgd : o.guard = none) (l c : Operand) (t : TypeId) (ho : o.op = Op.makeSlice t l c)
    (e : TypeId) (i : TypeInfo) (z : Value) (size bytes : Nat) (ht : P.underlying t = some (.slice e)) (hi : P.info? e = some i) (hz : i.zero = some z) (hsize : i.size = size) (hby : i.bytes = bytes)
    (kl kc : IntKind) (C : Int) (n : Nat) (hl : a.eval l = .int kl 0) (hc : a.eval c = .int kc C) (hC : C = (n : Int)) (b2 : bytes * n ≤ 281474976710656) (b3 : n ≤ maxLen)
    (h : ∀ w', OwnK w' e size (.slice (some ⟨w.heap.size, 0, none⟩) 0 n) 0 [] → Below w.heap.size w w' → wpList P ops Q rest (a.put o.dst (.slice (some ⟨w.heap.size, 0, none⟩) 0 n)) w') :
    wpList P ops Q (o :: rest) a w :=
  wpList_plain hgd fun K hK => by
    obtain ⟨w', hr, ho2, hg⟩ := run_make_own (P := P) w 0 t e i z size ht hi hz hsize kl kc n (by rw [hby]; exact b2) b3 (Nat.zero_le _)
    unfold Oper.wp execOp
    rw [hC] at hc
    simp only [ho, hl, hc, Sem.run_bind, Sem.run_pure, hr, Result.andThen_ok]
    exact hK _ _ (h w' ho2 ⟨hg.os, hg.tape, hg.output, hg.size, fun k hk => hg.block k hk (by simp)⟩)
end
end Go.Proofs.Ytejecpmfhgplmaa.Own

-- ---- Mo
/- A region that draws its order, of which the order is forced but for a fork. No program in sight. -/
namespace Go.Proofs.Ytejecpmfhgplmaa.Mix
set_option linter.unusedSimpArgs false
set_option linter.unusedVariables false
set_option linter.unusedSectionVars false
open Go Go.RowKit

section
variable {P : Program} {md : Region.Mode} {ops : Array Oper} {Q : Exit → Act → World → Prop} {C : World → Prop}

/-- The orders in which the rest may come: a chain, or one of two first. -/
inductive Tr where
  | seq (ts : List Nat)
  | one (i : Nat) (t : Tr)
  | two (i : Nat) (t : Tr) (j : Nat) (u : Tr)
  | three (i : Nat) (t : Tr) (j : Nat) (u : Tr) (k : Nat) (v : Tr)
def Tr.len : Tr → Nat
  | .seq ts => ts.length
  | .one _ t => t.len + 1
  | .two _ t _ _ => t.len + 1
  | .three _ t _ _ _ _ => t.len + 1
def Tr.all (p : Nat → Bool) : Tr → Bool
  | .seq ts => ts.all p
  | .one i t => p i && t.all p
  | .two i t j u => p i && p j && t.all p && u.all p
  | .three i t j u k v => p i && p j && p k && t.all p && u.all p && v.all p
def treeB (md : Region.Mode) (ops : Array Oper) : Tr → Array Bool → Bool
  | .seq ts, listed => seqL md ops ts listed
  | .one i t, listed => decide (Region.ready md ops listed = [i]) && treeB md ops t (listed.setIfInBounds i true)
  | .two i t j u, listed => decide (Region.ready md ops listed = [i, j]) && decide (u.len = t.len) && treeB md ops t (listed.setIfInBounds i true) && treeB md ops u (listed.setIfInBounds j true)
  | .three i t j u k v, listed => decide (Region.ready md ops listed = [i, j, k]) && decide (u.len = t.len) && decide (v.len = t.len) && treeB md ops t (listed.setIfInBounds i true) && treeB md ops u (listed.setIfInBounds j true) && treeB md ops v (listed.setIfInBounds k true)
def wpTr (P : Program) (l : List Oper) (K : Act → World → Prop) : Tr → Act → World → Prop
  | .seq ts, a, w => wpList P l.toArray (Only K) (pick l ts) a w
  | .one i t, a, w => wpList P l.toArray (Only (wpTr P l K t)) (pick l [i]) a w
  | .two i t j u, a, w => wpList P l.toArray (Only (wpTr P l K t)) (pick l [i]) a w ∧ wpList P l.toArray (Only (wpTr P l K u)) (pick l [j]) a w
  | .three i t j u k v, a, w => wpList P l.toArray (Only (wpTr P l K t)) (pick l [i]) a w ∧ wpList P l.toArray (Only (wpTr P l K u)) (pick l [j]) a w ∧ wpList P l.toArray (Only (wpTr P l K v)) (pick l [k]) a w

theorem wp_only {o : Oper} {a : Act} {w : World} {K K' A B : Act → World → Prop} (h : ∀ a w, K a w → K' a w) (hh : o.wp P a w K (Only A)) : o.wp P a w K' (Only B) := by
  unfold Oper.wp at *
  generalize (execOp a.eval o).run P w = r at *
  cases r with
  | ok n w' =>
    cases n <;> simp only [Oper.upon] at hh ⊢ <;>
      first
        | exact h _ _ hh
        | exact Calls.mono hh (fun e w'' he => by
            cases e with
            | returned v => exact h _ _ he
            | panicked c => exact he.elim
            | outgrown => obtain ⟨a1, w1, h1⟩ := he; exact h1.elim)
        | exact Rows.mono hh (fun _ _ he => h _ _ he)
  | halt x w' => cases x <;> simp only [Oper.upon] at hh ⊢ <;> exact hh
theorem wpOp_only {i : Nat} {o : Oper} (ho : ops[i]? = some o) {a : Act} {w : World} {K A B : Act → World → Prop} (h : ∀ a w, A a w → K a w) (hh : wpList P ops (Only A) [o] a w) : wpOp P ops (Only B) i K a w := by
  unfold wpOp
  simp only [ho]
  unfold wpList at hh
  split
  · rename_i hw
    rw [if_pos hw] at hh
    rcases hh with hh | ⟨_, a1, w1, h1⟩
    · exact .inl (wp_only (fun a w h1 => h a w h1) hh)
    · exact h1.elim
  · rename_i hw
    rw [if_neg hw] at hh
    exact h _ _ hh

theorem wpM_tree {l : List Oper} {h1 h2 : List Nat} {K : Act → World → Prop} : ∀ (t : Tr) (listed : Array Bool) (a : Act) (w : World), t.all (fun i => !h1.contains i && !h2.contains i) = true → treeB md l.toArray t listed = true →
    wpTr P l K t a w → wpM P md l.toArray (Only K) C h1 h2 t.len listed a w := by
  intro t
  induction t with
  | seq ts =>
    intro listed a w hm hB h
    have hts : ∀ i ∈ ts, i ∉ h1 ∧ i ∉ h2 := fun i hi => by simpa using List.all_eq_true.1 hm i hi
    exact wpM_seq ts (pick l ts) listed a w hts (pick_map ts (by have := seqL_lt ts listed hB; simpa using this)) hB h
  | one i t iht =>
    intro listed a w hm hB h
    simp only [Tr.all, Bool.and_eq_true, Bool.not_eq_true', List.contains_eq_mem, decide_eq_false_iff_not] at hm
    simp only [treeB, Bool.and_eq_true, decide_eq_true_eq] at hB
    obtain ⟨hi, hmt⟩ := hm
    obtain ⟨hr, hbt⟩ := hB
    have h1 : i ∈ Region.ready md l.toArray listed := by rw [hr]; simp
    obtain ⟨_, o, ho, _⟩ := mem_ready.1 h1
    have h2 : l[i]? = some o := by simpa using ho
    have hp : pick l [i] = [o] := by simp [pick, h2]
    refine ⟨fun h1 => (by rw [hr] at h1; cases h1), fun k hk => ?_⟩
    rw [hr] at hk
    have hki : k = i := by simpa using hk
    subst hki
    rw [if_neg hi.1, if_neg hi.2]
    have h3 : wpList P l.toArray (Only (wpTr P l K t)) (pick l [k]) a w := h
    rw [hp] at h3
    exact wpOp_only ho (fun a' w' h' => iht _ a' w' (by simpa using hmt) hbt h') h3
  | two i t j u iht ihu =>
    intro listed a w hm hB h
    simp only [Tr.all, Bool.and_eq_true, Bool.not_eq_true', List.contains_eq_mem, decide_eq_false_iff_not] at hm
    simp only [treeB, Bool.and_eq_true, decide_eq_true_eq] at hB
    obtain ⟨⟨⟨hi, hj⟩, hmt⟩, hmu⟩ := hm
    obtain ⟨⟨⟨hr, hlen⟩, hbt⟩, hbu⟩ := hB
    have at_ : ∀ k, k ∈ [i, j] → ∃ o, l.toArray[k]? = some o ∧ pick l [k] = [o] := fun k hk => by
      have h1 : k ∈ Region.ready md l.toArray listed := by rw [hr]; exact hk
      obtain ⟨_, o, ho, _⟩ := mem_ready.1 h1
      refine ⟨o, ho, ?_⟩
      have h2 : l[k]? = some o := by simpa using ho
      simp [pick, h2]
    refine ⟨fun h1 => (by rw [hr] at h1; cases h1), fun k hk => ?_⟩
    rw [hr] at hk
    obtain ⟨o, ho, hp⟩ := at_ k hk
    rcases List.mem_cons.1 hk with rfl | hk
    · rw [if_neg hi.1, if_neg hi.2]
      have h2 := h.1
      rw [hp] at h2
      exact wpOp_only ho (fun a' w' h' => iht _ a' w' (by simpa using hmt) hbt h') h2
    · have hkj : k = j := by simpa using hk
      subst hkj
      rw [if_neg hj.1, if_neg hj.2]
      have h3 := h.2
      rw [hp] at h3
      have hu : ∀ a' w', wpTr P l K u a' w' → wpM P md l.toArray (Only K) C h1 h2 t.len (listed.setIfInBounds k true) a' w' := fun a' w' h' => by
        have := ihu (listed.setIfInBounds k true) a' w' (by simpa using hmu) hbu h'
        rwa [hlen] at this
      exact wpOp_only ho hu h3
  | three i t j u m v iht ihu ihv =>
    intro listed a w hm hB h
    simp only [Tr.all, Bool.and_eq_true, Bool.not_eq_true', List.contains_eq_mem, decide_eq_false_iff_not] at hm
    simp only [treeB, Bool.and_eq_true, decide_eq_true_eq] at hB
    obtain ⟨⟨⟨⟨⟨hi, hj⟩, hmm⟩, hmt⟩, hmu⟩, hmv⟩ := hm
    obtain ⟨⟨⟨⟨⟨hr, hlen⟩, hlenv⟩, hbt⟩, hbu⟩, hbv⟩ := hB
    have at_ : ∀ k, k ∈ [i, j, m] → ∃ o, l.toArray[k]? = some o ∧ pick l [k] = [o] := fun k hk => by
      have h1 : k ∈ Region.ready md l.toArray listed := by rw [hr]; exact hk
      obtain ⟨_, o, ho, _⟩ := mem_ready.1 h1
      refine ⟨o, ho, ?_⟩
      have h2 : l[k]? = some o := by simpa using ho
      simp [pick, h2]
    refine ⟨fun h1 => (by rw [hr] at h1; cases h1), fun k hk => ?_⟩
    rw [hr] at hk
    obtain ⟨o, ho, hp⟩ := at_ k hk
    rcases List.mem_cons.1 hk with rfl | hk
    · rw [if_neg hi.1, if_neg hi.2]
      have h2 := h.1
      rw [hp] at h2
      exact wpOp_only ho (fun a' w' h' => iht _ a' w' (by simpa using hmt) hbt h') h2
    · rcases List.mem_cons.1 hk with rfl | hk
      · rw [if_neg hj.1, if_neg hj.2]
        have h3 := h.2.1
        rw [hp] at h3
        have hu : ∀ a' w', wpTr P l K u a' w' → wpM P md l.toArray (Only K) C h1 h2 t.len (listed.setIfInBounds k true) a' w' := fun a' w' h' => by
          have := ihu (listed.setIfInBounds k true) a' w' (by simpa using hmu) hbu h'
          rwa [hlen] at this
        exact wpOp_only ho hu h3
      · have hkm : k = m := by simpa using hk
        subst hkm
        rw [if_neg hmm.1, if_neg hmm.2]
        have h3 := h.2.2
        rw [hp] at h3
        have hu : ∀ a' w', wpTr P l K v a' w' → wpM P md l.toArray (Only K) C h1 h2 t.len (listed.setIfInBounds k true) a' w' := fun a' w' h' => by
          have := ihv (listed.setIfInBounds k true) a' w' (by simpa using hmv) hbv h'
          rwa [hlenv] at this
        exact wpOp_only ho hu h3

def mixTB (md : Region.Mode) (ops : Array Oper) (h1 h2 : List Nat) (t : Tr) : Bool :=
  Region.noSelect ops && h2.all (fun i => !h1.contains i) && t.all (fun i => !h1.contains i && !h2.contains i) &&
  (List.range ops.size).all (fun t => h1.contains t || h2.contains t || (match ops[t]? with | some o => newOp o.op | none => false) || h2.all fun i => anc md ops ops.size t i) &&
  hoistB md ops (h1 ++ h2) (Array.replicate ops.size false) && treeB md ops t (marked (Array.replicate ops.size false) (h1 ++ h2)) && (decide (h1.length + h2.length + t.len = ops.size))

/-- Some operations first (those of h1 look at no memory), then a tree of orders. -/
theorem wp_region_treeL {id : Nat} {a : Act} {w : World} {l : List Oper} (h1 h2 : List Nat) (t : Tr) (hm : P.follows .mixedOrders = true) (hB : mixTB .any l.toArray h1 h2 t = true)
    (h : ∀ K : Act → World → Prop, (∀ a w, Q .normal a w → K a w) → wpQuiet P l.toArray (fun _ => True) (fun a1 => wpQuiet P l.toArray (fun w' => ∃ n : Lat w, w' = n.w) (fun a2 => wpTr P l K t a2 w.drew) (pick l h2) a1) (pick l h1) a) :
    (Code.region id l.toArray true).wp P Q a w := by
  have H := h (fun a w => Q .normal a w) fun _ _ h => h
  simp only [mixTB, Bool.and_eq_true, decide_eq_true_eq] at hB
  obtain ⟨⟨⟨⟨⟨⟨hsel, h12⟩, hts⟩, htail⟩, hh⟩, hseq⟩, hlen⟩ := hB
  have hC : ∀ w1 w2 : World, (∃ n : Lat w, w1 = n.w) → Below w1.heap.size w1 w2 → ∃ n : Lat w, w2 = n.w := fun _ w2 ⟨n, e⟩ hb => by subst e; exact ⟨⟨w2, n.below.trans (hb.mono n.below.size)⟩, rfl⟩
  have hw : ∃ n : Lat w, ({ w with drawn := w.drawn + 1 } : World) = n.w := ⟨Lat.drew w, rfl⟩
  have h12' : ∀ i ∈ h2, i ∉ h1 := fun i hi => by simpa using List.all_eq_true.1 h12 i hi
  have htail' : ∀ j oj, l.toArray[j]? = some oj → j ∉ h1 → j ∉ h2 → newOp oj.op = true ∨ ∀ i ∈ h2, anc .any l.toArray l.toArray.size j i = true := fun j oj hj n1 n2 => by
    have h3 := List.all_eq_true.1 htail j (List.mem_range.2 (Array.getElem?_eq_some_iff.1 hj).1)
    simp only [hj, Bool.or_eq_true, List.contains_iff_mem, n1, n2, false_or] at h3
    rcases h3 with h3 | h3
    · exact .inl h3
    · exact .inr fun i hi => List.all_eq_true.1 h3 i hi
  rw [hoistB_append, Bool.and_eq_true] at hh
  rw [marked_append] at hseq
  have lt1 := hoistB_lt _ _ hh.1
  have lt2 := hoistB_lt _ _ hh.2
  have hQ' : ∀ c a w d v, Only (fun a w => Q .normal a w) (.panic c) (a.put d v) w → Only (fun a w => Q .normal a w) (.panic c) a w := fun _ _ _ _ _ h => h
  have cl0 : Closed .any l.toArray (Array.replicate l.toArray.size false) := fun j oj _ hl => by rw [getD_replicate_false] at hl; cases hl
  have cl1 := closed_marked _ _ hh.1 cl0
  refine Code.wp_mono (Q := Only fun a w => Q .normal a w) (fun e a w h => by cases e <;> first | exact h | exact h.elim) ?_
  refine wp_region_any hm (wpAny_of_M (C := fun w' => ∃ n : Lat w, w' = n.w) (h1 := h1) (h2 := h2) _ _ _ _ ?_)
  have key : wpM P .any l.toArray (Only fun a w => Q .normal a w) (fun w' => ∃ n : Lat w, w' = n.w) h1 h2 (t.len + h2.length + h1.length) (Array.replicate l.toArray.size false) a { w with drawn := w.drawn + 1 } := ?_
  · have e2 : ∀ n, n = t.len + h2.length + h1.length → wpM P .any l.toArray (Only fun a w => Q .normal a w) (fun w' => ∃ n : Lat w, w' = n.w) h1 h2 n (Array.replicate l.toArray.size false) a { w with drawn := w.drawn + 1 } := fun n hn => hn ▸ key
    exact e2 _ (by omega)
  refine hoist1 hsel hQ' h1 (pick l h1) _ a (fun i hi => hi) (pick_map h1 (by simpa using lt1)) hh.1 (fun a1 H1 => ?_) H
  refine hoist2 hsel hQ' hC h12' htail' hw h2 (pick l h2) _ a1 (fun i hi => hi) (pick_map h2 (by simpa using lt2)) hh.2 cl1 (fun a2 H2 => ?_) H1
  exact wpM_tree t _ a2 _ hts hseq H2
end
end Go.Proofs.Ytejecpmfhgplmaa.Mix

-- ---- Mb
/- merge's maker: its memory, the place of a node. Conditions: those that each theorem names. -/
namespace Go.Proofs.Ytejecpmfhgplmaa
set_option linter.unusedSimpArgs false
set_option linter.unusedVariables false
open Go.RowKit Mix _root_.Go.Proofs.Ytejecpmfhgplmaa.Own

namespace Dp
/-- What is known of a node: the cost, how many are told there, whether it can be, whether it is known. -/
abbrev Bst := Int × Int × Bool × Bool
/-- A node's best, as merge tells it. -/
def mres : Nat → List Int → Nat → Bst
  | r, g, o =>
    if g = [] ∧ o = 0 then (0, 0, true, false)
    else if o = 0 ∨ g.length < o then (0, 0, false, false)
    else match r with
      | 0 => (0, 0, false, false)
      | r + 1 => match best (cand r g o) o with
        | some (x, k) => (x + g.sum, (k : Int), true, true)
        | none => (0, 0, false, true)
def keyM (n d j o : Nat) : Nat := (d * n + j) * n + o
end Dp
open Dp

def bstV (b : Bst) : List Value := [.int .i64 b.1, .int .i64 b.2.1, .bool b.2.2.1, .bool b.2.2.2]
def flB (H : List Bst) : List Value := H.flatMap bstV
theorem length_flB (H : List Bst) : (flB H).length = H.length * 4 := by
  unfold flB
  induction H with
  | nil => rfl
  | cons a t ih => rw [List.flatMap_cons, List.length_append, ih, List.length_cons]; simp [bstV]; omega
theorem flB_at (H : List Bst) (z : Bst) : ∀ (i : Nat), i < H.length → (flB H)[i * 4]? = some (.int .i64 (H.getD i z).1) ∧ (flB H)[i * 4 + 1]? = some (.int .i64 (H.getD i z).2.1) ∧ (flB H)[i * 4 + 2]? = some (.bool (H.getD i z).2.2.1) ∧ (flB H)[i * 4 + 3]? = some (.bool (H.getD i z).2.2.2) := by
  induction H with
  | nil => intro i h; simp at h
  | cons a t ih =>
    intro i h
    cases i with
    | zero => simp [flB, bstV]
    | succ i =>
      have h2 := ih i (by simpa using h)
      have e : flB (a :: t) = bstV a ++ flB t := by simp [flB]
      have el : (bstV a).length = 4 := rfl
      rw [e]
      refine ⟨?_, ?_, ?_, ?_⟩
      · rw [List.getElem?_append_right (by rw [el]; omega), el, show (i + 1) * 4 - 4 = i * 4 by omega]; simpa using h2.1
      · rw [List.getElem?_append_right (by rw [el]; omega), el, show (i + 1) * 4 + 1 - 4 = i * 4 + 1 by omega]; simpa using h2.2.1
      · rw [List.getElem?_append_right (by rw [el]; omega), el, show (i + 1) * 4 + 2 - 4 = i * 4 + 2 by omega]; simpa using h2.2.2.1
      · rw [List.getElem?_append_right (by rw [el]; omega), el, show (i + 1) * 4 + 3 - 4 = i * 4 + 3 by omega]; simpa using h2.2.2.2
theorem flB_set (H : List Bst) : ∀ (i : Nat) (b : Bst), i < H.length → flB (H.set i b) = ((((flB H).set (i * 4) (.int .i64 b.1)).set (i * 4 + 1) (.int .i64 b.2.1)).set (i * 4 + 2) (.bool b.2.2.1)).set (i * 4 + 3) (.bool b.2.2.2) := by
  induction H with
  | nil => intro i b h; simp at h
  | cons a t ih =>
    intro i b h
    have e : ∀ c (u : List Bst), flB (c :: u) = bstV c ++ flB u := fun c u => by simp [flB]
    cases i with
    | zero => rw [List.set_cons_zero, e, e]; simp [bstV]
    | succ i =>
      have el : (bstV a).length = 4 := rfl
      rw [List.set_cons_succ, e, e, ih i b (by simpa using h)]
      simp only [List.set_append_right _ _ (show (bstV a).length ≤ (i + 1) * 4 by rw [el]; omega), List.set_append_right _ _ (show (bstV a).length ≤ (i + 1) * 4 + 1 by rw [el]; omega), List.set_append_right _ _ (show (bstV a).length ≤ (i + 1) * 4 + 2 by rw [el]; omega), List.set_append_right _ _ (show (bstV a).length ≤ (i + 1) * 4 + 3 by rw [el]; omega), el]
      rw [show (i + 1) * 4 - 4 = i * 4 by omega, show (i + 1) * 4 + 1 - 4 = i * 4 + 1 by omega, show (i + 1) * 4 + 2 - 4 = i * 4 + 2 by omega, show (i + 1) * 4 + 3 - 4 = i * 4 + 3 by omega]

/-- A maker of merge's at block p. -/
structure TabM (w : World) (p : Nat) (vs vh : Value) (lim : Nat) (g : List Int) (H : List Bst) : Prop where
  blk : Blk w p #[vs, .int .i64 (lim : Int), vh] 50
  rs : Owns w 3 vs (ints .i64 (sums g))
  rh : OwnK w 57 4 vh H.length (flB H)
theorem TabM.later {w w' : World} {p : Nat} {vs vh : Value} {lim : Nat} {g : List Int} {H : List Bst} (h : TabM w p vs vh lim g H) (hb : Below w.heap.size w w') : TabM w' p vs vh lim g H :=
  ⟨(hb.block p h.blk.lt).trans h.blk, h.rs.keep fun k _ hk => hb.block k hk, h.rh.later hb⟩

set_option maxHeartbeats 1000000 in
theorem at_calls (p : Nat) (vs vh : Value) (lim : Nat) (g : List Int) (H : List Bst) (d j o n : Nat) (w : World) (hT : TabM w p vs vh lim g H) (hn : n = g.length + 1) (hn2 : n ≤ 100) (hd : d ≤ 100) (hj : j ≤ 1000) (ho : o ≤ 1000) :
    Calls Try.prog 31 #[.pointer (some ⟨p, 0, none⟩), .agg #[.int .i64 (d : Int), .int .i64 (j : Int), .int .i64 (o : Int)]] w fun e w' => e = .returned (.int .i64 (keyM n d j o : Int)) ∧ Below w.heap.size w w' := by
  obtain ⟨aq, cs, hv⟩ := sliceI hT.rs
  rw [length_sums, ← hn] at hv
  subst hv
  have c0 := hT.blk.cell (i := 0) rfl
  have h1 : d * n ≤ 100 * 100 := Nat.mul_le_mul hd hn2
  have h2 : (d * n + j) * n ≤ 11000 * 100 := Nat.mul_le_mul (by omega) hn2
  obtain ⟨A, hA⟩ : ∃ A, A = d * n := ⟨_, rfl⟩
  obtain ⟨M, hM⟩ : ∃ M, M = (d * n + j) * n := ⟨_, rfl⟩
  have hdn : (d : Int) * (n : Int) = (A : Int) := by rw [hA]; simp
  have hkn : ((A : Int) + (j : Int)) * (n : Int) = (M : Int) := by rw [hM, hA]; simp
  have hK : keyM n d j o = M + o := by unfold keyM; rw [hM]
  rw [← hM] at h2
  rw [← hA] at h1
  have hG : g.length + 1 = n := hn.symm
  have HK := kept hK
  have HT := kept hT
  have hb : Below w.heap.size w (w.alloc (.cells #[.int .i64 (d : Int), .int .i64 (j : Int), .int .i64 (o : Int)] 55)) := (Below.refl _ _).alloc (Nat.le_refl _) _
  have c0w := (hb.cell (World.block_lt_of_cell? w _ c0)).trans c0
  have HB := kept hb
  clear hT hA hM hK hn hG hb c0
  go_enter Try.func31, Try.ntmps31
  go_wp2_with fail
  go_ret
  exact ⟨by rw [HK.out]; rfl, HB.out⟩
end Go.Proofs.Ytejecpmfhgplmaa

-- ---- Mc
/- merge's maker: what a node's best is, and the memory on the way. Conditions: those that each theorem names. -/
namespace Go.Proofs.Ytejecpmfhgplmaa
set_option linter.unusedSimpArgs false
set_option linter.unusedVariables false
open Go.RowKit Mix _root_.Go.Proofs.Ytejecpmfhgplmaa.Own Dp

namespace Dp
/-- The best so far, as merge tells it. -/
def accV (S : Int) : Option (Int × Nat) → Bst
  | none => (0, 0, false, true)
  | some (x, k) => (x + S, (k : Int), true, true)
theorem drop_ne {g : List Int} {j : Nat} (h : j < g.length) : g.drop j ≠ [] := by
  intro e; have := congrArg List.length e; rw [List.length_drop] at this; simp at this; omega
theorem mres_s (r : Nat) (g : List Int) (o : Nat) : mres (r + 1) g o = if g = [] ∧ o = 0 then (0, 0, true, false) else if o = 0 ∨ g.length < o then (0, 0, false, false) else match best (cand r g o) o with
        | some (x, k) => (x + g.sum, (k : Int), true, true)
        | none => (0, 0, false, true) := rfl
theorem mres_0 (g : List Int) (o : Nat) : mres 0 g o = if g = [] ∧ o = 0 then (0, 0, true, false) else if o = 0 ∨ g.length < o then (0, 0, false, false) else (0, 0, false, false) := rfl
theorem mres_nil (r : Nat) (g : List Int) (o : Nat) (h : g = [] ∧ o = 0) : mres r g o = (0, 0, true, false) := by
  cases r with
  | zero => rw [mres_0, if_pos h]
  | succ r => rw [mres_s, if_pos h]
theorem mres_out (r : Nat) (g : List Int) (o : Nat) (hn : ¬ (g = [] ∧ o = 0)) (h : o = 0 ∨ g.length < o ∨ r = 0) : mres r g o = (0, 0, false, false) := by
  cases r with
  | zero => rw [mres_0, if_neg hn]; split <;> rfl
  | succ r => rw [mres_s, if_neg hn, if_pos (by omega)]
theorem mres_in {r : Nat} {g : List Int} {o : Nat} (h1 : 1 ≤ o) (h2 : o ≤ g.length) : mres (r + 1) g o = accV g.sum (best (cand r g o) o) := by
  rw [mres_s, if_neg (fun h => by omega), if_neg (by omega)]
  cases best (cand r g o) o with
  | none => rfl
  | some q => rfl
theorem mres_dp (r : Nat) (g : List Int) (o : Nat) : (mres r g o = (0, 0, true, false) ∧ dp r g o = some 0 ∧ g = []) ∨ (mres r g o = (0, 0, false, false) ∧ dp r g o = none) ∨ (∃ s, r = s + 1 ∧ g ≠ [] ∧ 1 ≤ o ∧ o ≤ g.length ∧ mres r g o = accV g.sum (best (cand s g o) o) ∧ dp r g o = (best (cand s g o) o).map Prod.fst) := by
  by_cases hg : g = []
  · subst hg
    by_cases ho : o = 0
    · exact .inl ⟨mres_nil _ _ _ ⟨rfl, ho⟩, by rw [dp_nil, if_pos ho], rfl⟩
    · exact .inr (.inl ⟨mres_out _ _ _ (fun h => ho h.2) (by simp; omega), by rw [dp_nil, if_neg ho]⟩)
  · by_cases h2 : o = 0 ∨ g.length < o ∨ r = 0
    · exact .inr (.inl ⟨mres_out _ _ _ (fun h => hg h.1) h2, dp_out hg h2⟩)
    · obtain ⟨s, rfl⟩ : ∃ s, r = s + 1 := ⟨r - 1, by omega⟩
      exact .inr (.inr ⟨s, rfl, hg, by omega, by omega, mres_in (by omega) (by omega), dp_in hg (by omega) (by omega)⟩)
theorem mres_none {r : Nat} {g : List Int} {o : Nat} (h : dp r g o = none) : (mres r g o).2.2.1 = false ∧ (mres r g o).1 = 0 := by
  rcases mres_dp r g o with ⟨e1, e2, _⟩ | ⟨e1, e2⟩ | ⟨s, rfl, _, _, _, e1, e2⟩
  · rw [h] at e2; cases e2
  · rw [e1]; exact ⟨rfl, rfl⟩
  · rw [e1]
    cases hb : best (cand s g o) o with
    | none => exact ⟨rfl, rfl⟩
    | some q => rw [h, hb] at e2; cases e2
theorem mres_some {r : Nat} {g : List Int} {o : Nat} {x : Int} (h : dp r g o = some x) : (mres r g o).2.2.1 = true ∧ (mres r g o).1 = x + g.sum := by
  rcases mres_dp r g o with ⟨e1, e2, e3⟩ | ⟨e1, e2⟩ | ⟨s, rfl, _, _, _, e1, e2⟩
  · rw [h] at e2; simp at e2; subst e2 e3; rw [e1]; exact ⟨rfl, rfl⟩
  · rw [h] at e2; cases e2
  · rw [e1]
    cases hb : best (cand s g o) o with
    | none => rw [h, hb] at e2; cases e2
    | some q => obtain ⟨y, k⟩ := q; rw [h, hb] at e2; simp at e2; subst e2; exact ⟨rfl, rfl⟩
/-- How many are told at a node. -/
theorem mres_take {r : Nat} {g : List Int} {o : Nat} {x : Int} (h : dp (r + 1) g o = some x) (hg : g ≠ []) : (mres (r + 1) g o).2.1 = (take r g o : Int) := by
  obtain ⟨h1, h2, _⟩ := dp_some h hg
  rw [mres_in h1 h2]
  unfold take
  cases hb : best (cand r g o) o with
  | none => rfl
  | some q => rfl
theorem mres_le {g : List Int} (hg : Gs g) (r o : Nat) (ho : o ≤ 1000) (hr : r ≤ 15) : 0 ≤ (mres r g o).1 ∧ (mres r g o).1 ≤ 30000000000 ∧ 0 ≤ (mres r g o).2.1 ∧ (mres r g o).2.1 ≤ 1000 := by
  have hk : 0 ≤ (mres r g o).2.1 ∧ (mres r g o).2.1 ≤ 1000 := by
    rcases mres_dp r g o with ⟨e1, _, _⟩ | ⟨e1, _⟩ | ⟨s, rfl, _, _, _, e1, _⟩
    · rw [e1]; exact ⟨by decide, by decide⟩
    · rw [e1]; exact ⟨by decide, by decide⟩
    · rw [e1]
      have hs := best_spec (cand s g o) o
      cases hb : best (cand s g o) o with
      | none => exact ⟨Int.le_refl 0, by show (0 : Int) ≤ 1000; decide⟩
      | some q =>
        obtain ⟨x, k⟩ := q
        rw [hb] at hs
        have := hs.2.1
        show 0 ≤ (k : Int) ∧ (k : Int) ≤ 1000
        omega
  refine ⟨?_, ?_, hk.1, hk.2⟩ <;> cases hd : dp r g o with
    | none => rw [(mres_none hd).2]; decide
    | some x =>
      rw [(mres_some hd).2]
      have h1 := dp_le r g o x hg hd
      have h2 := hg.sum 0
      rw [List.drop_zero] at h2
      omega
/-- A candidate's cost out of the node behind it. -/
theorem cand_none {r : Nat} {g : List Int} {o k : Nat} (h : dp r (g.drop k) (2 * (o - k)) = none) : cand r g o k = none := by unfold cand; rw [h]; rfl
theorem cand_some {r : Nat} {g : List Int} {o k : Nat} {x : Int} (h : dp r (g.drop k) (2 * (o - k)) = some x) : cand r g o k = some (x + (g.drop k).sum) := by unfold cand; rw [h]; rfl

/-- The memory of the nodes. -/
theorem keyM_inj {n d j o d' j' o' : Nat} (h1 : j < n) (h2 : o < n) (h3 : j' < n) (h4 : o' < n) (h : keyM n d j o = keyM n d' j' o') : d = d' ∧ j = j' ∧ o = o' := by
  unfold keyM at h
  have e1 : o = o' := by
    have a1 := congrArg (· % n) h
    simp only [Nat.mul_add_mod_self_right, Nat.mod_eq_of_lt h2, Nat.mod_eq_of_lt h4] at a1
    exact a1
  subst e1
  have h5 : (d * n + j) * n = (d' * n + j') * n := by omega
  have h6 := Nat.eq_of_mul_eq_mul_right (by omega) h5
  have e2 : j = j' := by
    have a1 := congrArg (· % n) h6
    simp only [Nat.mul_add_mod_self_right, Nat.mod_eq_of_lt h1, Nat.mod_eq_of_lt h3] at a1
    exact a1
  subst e2
  exact ⟨Nat.eq_of_mul_eq_mul_right (by omega) (by omega : d * n = d' * n), rfl, rfl⟩
theorem keyM_lt {n d j o L : Nat} (hd : d < L) (hj : j < n) (ho : o < n) : keyM n d j o < L * n * n := by
  unfold keyM
  have h1 : d * n + j + 1 ≤ L * n := by
    have : (d + 1) * n ≤ L * n := Nat.mul_le_mul_right _ (by omega)
    rw [Nat.add_mul] at this; omega
  have h2 : (d * n + j + 1) * n ≤ L * n * n := Nat.mul_le_mul_right _ h1
  rw [Nat.add_mul] at h2; omega
structure HGood (lim : Nat) (g : List Int) (H : List Bst) : Prop where
  len : H.length = (lim + 2) * (g.length + 1) * (g.length + 1)
  at_ : ∀ d j o, 1 ≤ d → d ≤ lim → j < g.length + 1 → o < g.length + 1 → (H.getD (keyM (g.length + 1) d j o) (0, 0, false, false)).2.2.2 = false ∨ H.getD (keyM (g.length + 1) d j o) (0, 0, false, false) = mres (lim + 1 - d) (g.drop j) o
theorem HGood.set {lim : Nat} {g : List Int} {H : List Bst} (h : HGood lim g H) {d j o : Nat} (hdl : d ≤ lim) (hj : j < g.length + 1) (ho : o < g.length + 1) : HGood lim g (H.set (keyM (g.length + 1) d j o) (mres (lim + 1 - d) (g.drop j) o)) := by
  refine ⟨by rw [List.length_set]; exact h.len, fun d' j' o' h1 h2 h3 h4 => ?_⟩
  have hk : keyM (g.length + 1) d j o < H.length := by rw [h.len]; exact keyM_lt (by omega) hj ho
  by_cases e : keyM (g.length + 1) d j o = keyM (g.length + 1) d' j' o'
  · obtain ⟨rfl, rfl, rfl⟩ := keyM_inj hj ho h3 h4 e
    right
    simp [List.getD_eq_getElem?_getD, List.getElem?_set_self hk]
  · have := h.at_ d' j' o' h1 h2 h3 h4
    simp only [List.getD_eq_getElem?_getD, List.getElem?_set_ne e] at this ⊢
    exact this
theorem hgood_zero (lim : Nat) (g : List Int) : HGood lim g (List.replicate ((lim + 2) * (g.length + 1) * (g.length + 1)) (0, 0, false, false)) := by
  refine ⟨List.length_replicate, fun d j o h1 h2 h3 h4 => .inl ?_⟩
  simp only [List.getD_eq_getElem?_getD, List.getElem?_replicate]
  split <;> rfl
end Dp
open Dp

theorem TabM.setOther {w : World} {p : Nat} {vs vh : Value} {lim : Nat} {g : List Int} {H : List Bst} (h : TabM w p vs vh lim g H) {a : Addr} (h1 : p ≠ a.block) (h2 : vs.ownBlock ≠ some a.block) (h3 : vh.ownBlock ≠ some a.block) (v : Value) : TabM (w.setCell a v) p vs vh lim g H :=
  ⟨h.blk.setOther h1 v, h.rs.setOther h2 v, h.rh.setOther h3 v⟩
/-- Where it lies. -/
theorem TabM.slc {w : World} {p : Nat} {vs vh : Value} {lim : Nat} {g : List Int} {H : List Bst} (h : TabM w p vs vh lim g H) : ∃ gs cs, vs = .slice (some ⟨gs, 0, none⟩) (g.length + 1) cs ∧ gs < w.heap.size ∧ ∀ i, i ≤ g.length → w.cell? ⟨gs, i, none⟩ = some (.int .i64 (g.drop i).sum) := by
  obtain ⟨gs, cs, e, _, hl⟩ := rowI h.rs (by intro e; have := congrArg List.length e; rw [length_sums] at this; simp at this)
  subst e
  rw [length_sums]
  refine ⟨gs, cs, rfl, hl, fun i hi => ?_⟩
  have := h.rs.cell (j := i) (Own.ints_at .i64 (sums g) i (by rw [length_sums]; omega))
  rw [sums_at g i hi] at this
  exact this
theorem TabM.hadS {w : World} {p : Nat} {vs vh : Value} {lim : Nat} {g : List Int} {H : List Bst} (h : TabM w p vs vh lim g H) (hH : 0 < H.length) : ∃ gh ch, vh = .slice (some ⟨gh, 0, none⟩) H.length ch ∧ gh < w.heap.size := by
  obtain ⟨a, c, e, _, _, hp⟩ := h.rh.slice
  obtain ⟨gh, rfl⟩ := hp hH
  exact ⟨gh, c, e, h.rh.lt gh (by rw [e]; rfl)⟩
/-- A node's best is laid. -/
theorem TabM.store {w : World} {p gh n ch : Nat} {vs : Value} {lim : Nat} {g : List Int} {H : List Bst} (h : TabM w p vs (.slice (some ⟨gh, 0, none⟩) n ch) lim g H) (hn : n = H.length) (m : Nat) (hm : m < H.length) (b : Bst) :
    TabM ((((w.setCell ⟨gh, m * 4, none⟩ (.int .i64 b.1)).setCell ⟨gh, m * 4 + 1, none⟩ (.int .i64 b.2.1)).setCell ⟨gh, m * 4 + 2, none⟩ (.bool b.2.2.1)).setCell ⟨gh, m * 4 + 3, none⟩ (.bool b.2.2.2)) p vs (.slice (some ⟨gh, 0, none⟩) n ch) lim g (H.set m b) := by
  subst hn
  have hp : p ≠ gh := fun e => h.rh.ne h.blk (by decide) (by rw [e]; rfl)
  have hs : vs.ownBlock ≠ some gh := fun e => h.rh.neO h.rs (by decide) (g := gh) e rfl
  refine ⟨((((h.blk.setOther hp _).setOther hp _).setOther hp _).setOther hp _), ((((h.rs.setOther hs _).setOther hs _).setOther hs _).setOther hs _), ?_⟩
  rw [flB_set H m b hm, List.length_set]
  exact (((h.rh.store (m * 4) _).store (m * 4 + 1) _).store (m * 4 + 2) _).store (m * 4 + 3) _

/-- The walk of a node on the way: its box at B, the result behind it, the best so far at q. -/
structure StF (w wr : World) (d j o q : Nat) (acc : Bst) (p : Nat) (vs vh : Value) (lim : Nat) (g : List Int) (H : List Bst) : Prop where
  node : Blk wr w.heap.size #[.int .i64 (d : Int), .int .i64 (j : Int), .int .i64 (o : Int)] 55
  res : Blk wr (w.heap.size + 1) #[.int .i64 0, .int .i64 0, .bool false, .bool false] 57
  out : Blk wr q (bstV acc).toArray 57
  tab : TabM wr p vs vh lim g H
  good : HGood lim g H
  chg : Chg (fun b => some b = vh.ownBlock) w wr
  hp : p < w.heap.size
  hs : ∀ b, vs.ownBlock = some b → b < w.heap.size
  hh : ∀ b, vh.ownBlock = some b → b < w.heap.size
  hq : w.heap.size + 1 < q
section
variable {w wr : World} {d j o q : Nat} {acc : Bst} {p : Nat} {vs vh : Value} {lim : Nat} {g : List Int} {H : List Bst}
theorem StF.later {w' : World} (h : StF w wr d j o q acc p vs vh lim g H) (hb : Below wr.heap.size wr w') : StF w w' d j o q acc p vs vh lim g H :=
  ⟨(hb.block _ h.node.lt).trans h.node, (hb.block _ h.res.lt).trans h.res, (hb.block _ h.out.lt).trans h.out, h.tab.later hb, h.good, h.chg.trans (Chg.of_below (S := fun _ => False) hb) (fun _ _ h => h.elim), h.hp, h.hs, h.hh, h.hq⟩
/-- A node behind it has been told. -/
theorem StF.told {w' : World} {H' : List Bst} (h : StF w wr d j o q acc p vs vh lim g H) (hT : TabM w' p vs vh lim g H') (hG : HGood lim g H') (hc : Chg (fun b => some b = vh.ownBlock) wr w') : StF w w' d j o q acc p vs vh lim g H' := by
  have hne : ∀ b, w.heap.size ≤ b → ¬ some b = vh.ownBlock := fun b hb e => by have := h.hh b e.symm; omega
  exact ⟨hc.keep h.node (hne _ (Nat.le_refl _)), hc.keep h.res (hne _ (by omega)), hc.keep h.out (hne _ (by have := h.hq; omega)), hT, hG, h.chg.trans hc (fun _ _ h => h), h.hp, h.hs, h.hh, h.hq⟩
/-- The best so far is another one. -/
theorem StF.setOut (h : StF w wr d j o q acc p vs vh lim g H) (b : Bst) :
    StF w ((((wr.setCell ⟨q, 0, none⟩ (.int .i64 b.1)).setCell ⟨q, 1, none⟩ (.int .i64 b.2.1)).setCell ⟨q, 2, none⟩ (.bool b.2.2.1)).setCell ⟨q, 3, none⟩ (.bool b.2.2.2)) d j o q b p vs vh lim g H := by
  have hq := h.hq
  have n0 : w.heap.size ≠ q := by omega
  have n1 : w.heap.size + 1 ≠ q := by omega
  have np : p ≠ q := by have := h.hp; omega
  have ns : vs.ownBlock ≠ some q := fun e => by have := h.hs q e; omega
  have nh : vh.ownBlock ≠ some q := fun e => by have := h.hh q e; omega
  have hc : ∀ (x : World) (i : Nat) (v : Value), Chg (fun b => some b = vh.ownBlock) w x → Chg (fun b => some b = vh.ownBlock) w (x.setCell ⟨q, i, none⟩ v) := fun x i v hx => hx.trans (Chg.setCell x _ v) (fun k hk e => by have : k = q := e; omega)
  refine ⟨(((h.node.setOther n0 _).setOther n0 _).setOther n0 _).setOther n0 _, (((h.res.setOther n1 _).setOther n1 _).setOther n1 _).setOther n1 _, ?_,
    (((h.tab.setOther np ns nh _).setOther np ns nh _).setOther np ns nh _).setOther np ns nh _, h.good, hc _ _ _ (hc _ _ _ (hc _ _ _ (hc _ _ _ h.chg))), h.hp, h.hs, h.hh, h.hq⟩
  have := (((h.out.set 0 (.int .i64 b.1)).set 1 (.int .i64 b.2.1)).set 2 (.bool b.2.2.1)).set 3 (.bool b.2.2.2)
  exact this
end
/-- The answer of a node, and what it leaves. -/
def FromE (g : List Int) (lim p : Nat) (vs vh : Value) (r j o : Nat) (w : World) (e : Ending) (w' : World) : Prop :=
  e = .returned (.agg (bstV (mres r (g.drop j) o)).toArray) ∧ ∃ H', TabM w' p vs vh lim g H' ∧ HGood lim g H' ∧ Chg (fun b => some b = vh.ownBlock) w w'
end Go.Proofs.Ytejecpmfhgplmaa

-- ---- Mf
/- merge's maker: the best from a node on, where nothing is reckoned anew. Conditions: the memory that 'TabM' tells. -/
namespace Go.Proofs.Ytejecpmfhgplmaa
set_option linter.unusedSimpArgs false
set_option linter.unusedVariables false
open Go.RowKit Mix _root_.Go.Proofs.Ytejecpmfhgplmaa.Own Dp

/-- Behind the node's box and the result's. -/
structure St0 (w w2 : World) (d j o : Nat) (p : Nat) (vs vh : Value) (lim : Nat) (g : List Int) (H : List Bst) : Prop where
  node : Blk w2 w.heap.size #[.int .i64 (d : Int), .int .i64 (j : Int), .int .i64 (o : Int)] 55
  res : Blk w2 (w.heap.size + 1) #[.int .i64 0, .int .i64 0, .bool false, .bool false] 57
  tab : TabM w2 p vs vh lim g H
  low : Below w.heap.size w w2
theorem st0 {w : World} {d j o p : Nat} {vs vh : Value} {lim : Nat} {g : List Int} {H : List Bst} (hT : TabM w p vs vh lim g H) :
    St0 w ((w.alloc (.cells #[.int .i64 (d : Int), .int .i64 (j : Int), .int .i64 (o : Int)] 55)).alloc (.cells #[.int .i64 0, .int .i64 0, .bool false, .bool false] 57)) d j o p vs vh lim g H := by
  have hb : Below w.heap.size w ((w.alloc (.cells #[.int .i64 (d : Int), .int .i64 (j : Int), .int .i64 (o : Int)] 55)).alloc (.cells #[.int .i64 0, .int .i64 0, .bool false, .bool false] 57)) :=
    ((Below.refl _ _).alloc (Nat.le_refl _) _).alloc (by simp) _
  exact ⟨(Blk.fresh _ _ _).alloc _, Blk.fresh_at _ _ (by simp) _ _, hT.later hb, hb⟩
theorem St0.later {w w2 w3 : World} {d j o p : Nat} {vs vh : Value} {lim : Nat} {g : List Int} {H : List Bst} (h : St0 w w2 d j o p vs vh lim g H) (hb : Below w2.heap.size w2 w3) : St0 w w3 d j o p vs vh lim g H :=
  ⟨(hb.block _ h.node.lt).trans h.node, (hb.block _ h.res.lt).trans h.res, h.tab.later hb, h.low.trans (hb.mono (by have := h.node.lt; omega))⟩
/-- The result is laid. -/
theorem St0.ret {w w2 : World} {d j o p : Nat} {vs vh : Value} {lim : Nat} {g : List Int} {H : List Bst} (h : St0 w w2 d j o p vs vh lim g H) (hp : p < w.heap.size) (hs : ∀ b, vs.ownBlock = some b → b < w.heap.size) (hh : ∀ b, vh.ownBlock = some b → b < w.heap.size) (b : Bst) :
    Blk ((((w2.setCell ⟨w.heap.size + 1, 0, none⟩ (.int .i64 b.1)).setCell ⟨w.heap.size + 1, 1, none⟩ (.int .i64 b.2.1)).setCell ⟨w.heap.size + 1, 2, none⟩ (.bool b.2.2.1)).setCell ⟨w.heap.size + 1, 3, none⟩ (.bool b.2.2.2)) (w.heap.size + 1) (bstV b).toArray 57 ∧
    TabM ((((w2.setCell ⟨w.heap.size + 1, 0, none⟩ (.int .i64 b.1)).setCell ⟨w.heap.size + 1, 1, none⟩ (.int .i64 b.2.1)).setCell ⟨w.heap.size + 1, 2, none⟩ (.bool b.2.2.1)).setCell ⟨w.heap.size + 1, 3, none⟩ (.bool b.2.2.2)) p vs vh lim g H ∧
    Chg (fun b => some b = vh.ownBlock) w ((((w2.setCell ⟨w.heap.size + 1, 0, none⟩ (.int .i64 b.1)).setCell ⟨w.heap.size + 1, 1, none⟩ (.int .i64 b.2.1)).setCell ⟨w.heap.size + 1, 2, none⟩ (.bool b.2.2.1)).setCell ⟨w.heap.size + 1, 3, none⟩ (.bool b.2.2.2)) := by
  have np : p ≠ w.heap.size + 1 := by omega
  have ns : vs.ownBlock ≠ some (w.heap.size + 1) := fun e => by have := hs _ e; omega
  have nh : vh.ownBlock ≠ some (w.heap.size + 1) := fun e => by have := hh _ e; omega
  have hc : ∀ (x : World) (i : Nat) (v : Value), Chg (fun b => some b = vh.ownBlock) w x → Chg (fun b => some b = vh.ownBlock) w (x.setCell ⟨w.heap.size + 1, i, none⟩ v) := fun x i v hx => hx.trans (Chg.setCell x _ v) (fun k hk e => by have : k = w.heap.size + 1 := e; omega)
  exact ⟨(((h.res.set 0 (.int .i64 b.1)).set 1 (.int .i64 b.2.1)).set 2 (.bool b.2.2.1)).set 3 (.bool b.2.2.2), (((h.tab.setOther np ns nh _).setOther np ns nh _).setOther np ns nh _).setOther np ns nh _, hc _ _ _ (hc _ _ _ (hc _ _ _ (hc _ _ _ (Chg.of_below h.low))))⟩

set_option maxHeartbeats 2000000 in
theorem from_end (g : List Int) (lim p : Nat) (vs vh : Value) (H : List Bst) (r d j o : Nat) (w : World) (hT : TabM w p vs vh lim g H) (hG : HGood lim g H) (hg : Gs g) (hj : j = g.length) (ho : o = 0) (hd : d ≤ 100) :
    Calls Try.prog 22 #[.pointer (some ⟨p, 0, none⟩), .agg #[.int .i64 (d : Int), .int .i64 (j : Int), .int .i64 (o : Int)]] w (FromE g lim p vs vh r j o w) := by
  obtain ⟨gs, cs, rfl, hgs, _⟩ := hT.slc
  obtain ⟨n, hn⟩ : ∃ n, n = g.length + 1 := ⟨_, rfl⟩
  rw [← hn] at hT ⊢
  have hl := hg.len
  have hpl := hT.blk.lt
  have hhl := hT.rh.lt
  have e0 : (n : Int) - 1 - (j : Int) = 0 := by omega
  have hn66 : n ≤ 66 := by omega
  have HR := kept (show mres r (g.drop j) o = (0, 0, true, false) from mres_nil _ _ _ ⟨List.drop_eq_nil_of_le (by omega), ho⟩)
  have HS := kept (st0 (d := d) (j := j) (o := o) hT)
  have HF := kept (show p < w.heap.size ∧ gs < w.heap.size ∧ (∀ b, vh.ownBlock = some b → b < w.heap.size) from ⟨hpl, hgs, hhl⟩)
  have HG := kept hG
  subst ho
  clear hT hg hj hn hl hpl hhl hgs hG
  go_enter Try.func22, Try.ntmps22
  go_wp2_with fail
  generalize hw2 : World.alloc (World.alloc w _) _ = w2
  rw [show ((0 : Nat) : Int) = 0 from rfl] at HS
  have HS2 := kept (show St0 w w2 d j 0 p _ vh lim g H by rw [← hw2]; exact HS.out)
  clear hw2 HS
  have c0 := HS2.out.tab.blk.cell (i := 0) rfl
  have c1 := HS2.out.node.cell (i := 1) rfl
  have c2 := HS2.out.node.cell (i := 2) rfl
  have l0 := lat_cell c0
  have l1 := lat_cell c1
  refine wp_region_quietL (by kernel_rfl) (by kernel_rfl) ?_
  repeat (go_big_quiet_step (fail))
  refine wpQuiet_nil ?_
  intro nq
  have HS3 := kept (HS2.out.later nq.below)
  generalize nq.w = w3 at HS3 ⊢
  clear c0 c1 c2 l0 l1 HS2
  have c2 := HS3.out.node.cell (i := 2) rfl
  have r0 := HS3.out.res.cell (i := 0) rfl
  have r1 := HS3.out.res.cell (i := 1) rfl
  have r2 := HS3.out.res.cell (i := 2) rfl
  have r3 := HS3.out.res.cell (i := 3) rfl
  have f0 := HS3.out.res.free 0
  have f1 := HS3.out.res.free 1
  have f2 := HS3.out.res.free 2
  have f3 := HS3.out.res.free 3
  have HE := HS3.out.ret HF.out.1 (fun b hb => by have h2 : gs = b := by simpa [Value.ownBlock] using hb
                                                  rw [← h2]; exact HF.out.2.1) HF.out.2.2 (0, 0, true, false)
  have HE2 := kept HE
  clear HE
  go_wp2_with fail
  exact bodyPost_ret (results_cell_row rfl _ _ (w.heap.size + 1) 57 #[.int .i64 0, .int .i64 0, .bool true, .bool false] (0, 0) _ rfl HE2.out.1 Try.underlying57 rfl (by kernel_rfl)) rfl ⟨by rw [HR.out]; rfl, H, HE2.out.2.1, HG.out, HE2.out.2.2⟩

set_option maxHeartbeats 2000000 in
/-- The call refuses a node: no places, too many, or too deep. -/
theorem from_out (g : List Int) (lim p : Nat) (vs vh : Value) (H : List Bst) (r d j o : Nat) (w : World) (hT : TabM w p vs vh lim g H) (hG : HGood lim g H) (hg : Gs g) (hj : j ≤ g.length) (ho : o ≤ 1000) (hd : d ≤ 100) (hr : d + r = lim + 1)
    (hn0 : ¬ (j = g.length ∧ o = 0)) (hout : o = 0 ∨ g.length < j + o ∨ r = 0) :
    Calls Try.prog 22 #[.pointer (some ⟨p, 0, none⟩), .agg #[.int .i64 (d : Int), .int .i64 (j : Int), .int .i64 (o : Int)]] w (FromE g lim p vs vh r j o w) := by
  obtain ⟨gs, cs, rfl, hgs, _⟩ := hT.slc
  obtain ⟨n, hn⟩ : ∃ n, n = g.length + 1 := ⟨_, rfl⟩
  rw [← hn] at hT ⊢
  have hl := hg.len
  have hpl := hT.blk.lt
  have hhl := hT.rh.lt
  have hn66 : n ≤ 66 := by omega
  have HR := kept (show mres r (g.drop j) o = (0, 0, false, false) from mres_out _ _ _ (fun h => by
    have h1 := congrArg List.length h.1
    rw [List.length_drop] at h1
    have h2 := h.2
    simp at h1; omega) (by rw [List.length_drop]; omega))
  have HS := kept (st0 (d := d) (j := j) (o := o) hT)
  have HF := kept (show p < w.heap.size ∧ gs < w.heap.size ∧ (∀ b, vh.ownBlock = some b → b < w.heap.size) from ⟨hpl, hgs, hhl⟩)
  have HG := kept hG
  have hjn : (j : Int) ≤ (n : Int) - 1 := by omega
  by_cases h0 : o = 0
  · subst h0
    have t1 : (((n : Int) - 1 - (j : Int)) == 0) = false := by rw [beq_eq_false_iff_ne]; omega
    clear hT hg hj hn hl hpl hhl hgs hG hout hn0 hr
    rw [show ((0 : Nat) : Int) = 0 from rfl] at HS ⊢
    go_enter Try.func22, Try.ntmps22
    go_wp2_with fail
    generalize hw2 : World.alloc (World.alloc w _) _ = w2
    have HS2 := kept (show St0 w w2 d j 0 p _ vh lim g H by rw [← hw2]; exact HS.out)
    clear hw2 HS
    have c0 := HS2.out.tab.blk.cell (i := 0) rfl
    have c1 := HS2.out.node.cell (i := 1) rfl
    have c2 := HS2.out.node.cell (i := 2) rfl
    have l0 := lat_cell c0
    have l1 := lat_cell c1
    refine wp_region_quietL (by kernel_rfl) (by kernel_rfl) ?_
    repeat (go_big_quiet_step (fail))
    refine wpQuiet_nil ?_
    intro nq
    have HS3 := kept (HS2.out.later nq.below)
    generalize nq.w = w3 at HS3 ⊢
    clear c0 c1 c2 l0 l1 HS2
    have c2 := HS3.out.node.cell (i := 2) rfl
    go_wp2_with fail
    have c0 := HS3.out.node.cell (i := 0) rfl
    have c3 := HS3.out.tab.blk.cell (i := 1) rfl
    have l0 := lat_cell c0
    have l2 := lat_cell c2
    have l3 := lat_cell c3
    refine wp_region_quietL (by kernel_rfl) (by kernel_rfl) ?_
    repeat (go_big_quiet_step (fail))
    refine wpQuiet_nil ?_
    intro nq
    have HS4 := kept (HS3.out.later nq.below)
    generalize nq.w = w4 at HS4 ⊢
    clear c0 c2 c3 l0 l2 l3 HS3
    have r0 := HS4.out.res.cell (i := 0) rfl
    have r1 := HS4.out.res.cell (i := 1) rfl
    have r2 := HS4.out.res.cell (i := 2) rfl
    have r3 := HS4.out.res.cell (i := 3) rfl
    have f0 := HS4.out.res.free 0
    have f1 := HS4.out.res.free 1
    have f2 := HS4.out.res.free 2
    have f3 := HS4.out.res.free 3
    have HE := HS4.out.ret HF.out.1 (fun b hb => by have h2 : gs = b := by simpa [Value.ownBlock] using hb
                                                    rw [← h2]; exact HF.out.2.1) HF.out.2.2 (0, 0, false, false)
    have HE2 := kept HE
    clear HE
    go_wp2_with fail
    exact bodyPost_ret (results_cell_row rfl _ _ (w.heap.size + 1) 57 #[.int .i64 0, .int .i64 0, .bool false, .bool false] (0, 0) _ rfl HE2.out.1 Try.underlying57 rfl (by kernel_rfl)) rfl ⟨by rw [HR.out]; rfl, H, HE2.out.2.1, HG.out, HE2.out.2.2⟩
  · have t0 : ((o : Int) == 0) = false := by rw [beq_eq_false_iff_ne]; omega
    by_cases hj2 : j = g.length
    · have e0 : (n : Int) - 1 - (j : Int) = 0 := by omega
      have t1 : decide (0 < o) = true := by rw [decide_eq_true_eq]; omega
      have t1' : 0 < o := by omega
      clear hT hg hj hn hl hpl hhl hgs hG hout hn0 hr h0 hj2
      go_enter Try.func22, Try.ntmps22
      go_wp2_with fail
      generalize hw2 : World.alloc (World.alloc w _) _ = w2
      have HS2 := kept (show St0 w w2 d j o p _ vh lim g H by rw [← hw2]; exact HS.out)
      clear hw2 HS
      have c0 := HS2.out.tab.blk.cell (i := 0) rfl
      have c1 := HS2.out.node.cell (i := 1) rfl
      have c2 := HS2.out.node.cell (i := 2) rfl
      have l0 := lat_cell c0
      have l1 := lat_cell c1
      refine wp_region_quietL (by kernel_rfl) (by kernel_rfl) ?_
      repeat (go_big_quiet_step (fail))
      refine wpQuiet_nil ?_
      intro nq
      have HS3 := kept (HS2.out.later nq.below)
      generalize nq.w = w3 at HS3 ⊢
      clear c0 c1 c2 l0 l1 HS2
      have c2 := HS3.out.node.cell (i := 2) rfl
      go_wp2_with fail
      have c0 := HS3.out.node.cell (i := 0) rfl
      have c3 := HS3.out.tab.blk.cell (i := 1) rfl
      have l0 := lat_cell c0
      have l2 := lat_cell c2
      have l3 := lat_cell c3
      refine wp_region_quietL (by kernel_rfl) (by kernel_rfl) ?_
      repeat (go_big_quiet_step (fail))
      refine wpQuiet_nil ?_
      intro nq
      have HS4 := kept (HS3.out.later nq.below)
      generalize nq.w = w4 at HS4 ⊢
      clear c0 c2 c3 l0 l2 l3 HS3
      have r0 := HS4.out.res.cell (i := 0) rfl
      have r1 := HS4.out.res.cell (i := 1) rfl
      have r2 := HS4.out.res.cell (i := 2) rfl
      have r3 := HS4.out.res.cell (i := 3) rfl
      have f0 := HS4.out.res.free 0
      have f1 := HS4.out.res.free 1
      have f2 := HS4.out.res.free 2
      have f3 := HS4.out.res.free 3
      have HE := HS4.out.ret HF.out.1 (fun b hb => by have h2 : gs = b := by simpa [Value.ownBlock] using hb
                                                      rw [← h2]; exact HF.out.2.1) HF.out.2.2 (0, 0, false, false)
      have HE2 := kept HE
      clear HE
      go_wp2_with fail
      exact bodyPost_ret (results_cell_row rfl _ _ (w.heap.size + 1) 57 #[.int .i64 0, .int .i64 0, .bool false, .bool false] (0, 0) _ rfl HE2.out.1 Try.underlying57 rfl (by kernel_rfl)) rfl ⟨by rw [HR.out]; rfl, H, HE2.out.2.1, HG.out, HE2.out.2.2⟩
    · have t1 : (((n : Int) - 1 - (j : Int)) == 0) = false := by rw [beq_eq_false_iff_ne]; omega
      by_cases h1 : g.length < j + o
      · have t2 : decide ((n : Int) - 1 - (j : Int) < (o : Int)) = true := by rw [decide_eq_true_eq]; omega
        clear hT hg hj hn hl hpl hhl hgs hG hout hn0 hr h0 hj2 h1
        go_enter Try.func22, Try.ntmps22
        go_wp2_with fail
        generalize hw2 : World.alloc (World.alloc w _) _ = w2
        have HS2 := kept (show St0 w w2 d j o p _ vh lim g H by rw [← hw2]; exact HS.out)
        clear hw2 HS
        have c0 := HS2.out.tab.blk.cell (i := 0) rfl
        have c1 := HS2.out.node.cell (i := 1) rfl
        have c2 := HS2.out.node.cell (i := 2) rfl
        have l0 := lat_cell c0
        have l1 := lat_cell c1
        refine wp_region_quietL (by kernel_rfl) (by kernel_rfl) ?_
        repeat (go_big_quiet_step (fail))
        refine wpQuiet_nil ?_
        intro nq
        have HS3 := kept (HS2.out.later nq.below)
        generalize nq.w = w3 at HS3 ⊢
        clear c0 c1 c2 l0 l1 HS2
        have c2 := HS3.out.node.cell (i := 2) rfl
        go_wp2_with fail
        have c0 := HS3.out.node.cell (i := 0) rfl
        have c3 := HS3.out.tab.blk.cell (i := 1) rfl
        have l0 := lat_cell c0
        have l2 := lat_cell c2
        have l3 := lat_cell c3
        refine wp_region_quietL (by kernel_rfl) (by kernel_rfl) ?_
        repeat (go_big_quiet_step (fail))
        refine wpQuiet_nil ?_
        intro nq
        have HS4 := kept (HS3.out.later nq.below)
        generalize nq.w = w4 at HS4 ⊢
        clear c0 c2 c3 l0 l2 l3 HS3
        have r0 := HS4.out.res.cell (i := 0) rfl
        have r1 := HS4.out.res.cell (i := 1) rfl
        have r2 := HS4.out.res.cell (i := 2) rfl
        have r3 := HS4.out.res.cell (i := 3) rfl
        have f0 := HS4.out.res.free 0
        have f1 := HS4.out.res.free 1
        have f2 := HS4.out.res.free 2
        have f3 := HS4.out.res.free 3
        have HE := HS4.out.ret HF.out.1 (fun b hb => by have h2 : gs = b := by simpa [Value.ownBlock] using hb
                                                        rw [← h2]; exact HF.out.2.1) HF.out.2.2 (0, 0, false, false)
        have HE2 := kept HE
        clear HE
        go_wp2_with fail
        exact bodyPost_ret (results_cell_row rfl _ _ (w.heap.size + 1) 57 #[.int .i64 0, .int .i64 0, .bool false, .bool false] (0, 0) _ rfl HE2.out.1 Try.underlying57 rfl (by kernel_rfl)) rfl ⟨by rw [HR.out]; rfl, H, HE2.out.2.1, HG.out, HE2.out.2.2⟩
      · have t2 : decide ((n : Int) - 1 - (j : Int) < (o : Int)) = false := by rw [decide_eq_false_iff_not]; omega
        have t3 : decide (lim < d) = true := by rw [decide_eq_true_eq]; omega
        have t3' : lim < d := by omega
        clear hT hg hj hn hl hpl hhl hgs hG hout hn0 hr h0 hj2 h1
        go_enter Try.func22, Try.ntmps22
        go_wp2_with fail
        generalize hw2 : World.alloc (World.alloc w _) _ = w2
        have HS2 := kept (show St0 w w2 d j o p _ vh lim g H by rw [← hw2]; exact HS.out)
        clear hw2 HS
        have c0 := HS2.out.tab.blk.cell (i := 0) rfl
        have c1 := HS2.out.node.cell (i := 1) rfl
        have c2 := HS2.out.node.cell (i := 2) rfl
        have l0 := lat_cell c0
        have l1 := lat_cell c1
        refine wp_region_quietL (by kernel_rfl) (by kernel_rfl) ?_
        repeat (go_big_quiet_step (fail))
        refine wpQuiet_nil ?_
        intro nq
        have HS3 := kept (HS2.out.later nq.below)
        generalize nq.w = w3 at HS3 ⊢
        clear c0 c1 c2 l0 l1 HS2
        have c2 := HS3.out.node.cell (i := 2) rfl
        go_wp2_with fail
        have c0 := HS3.out.node.cell (i := 0) rfl
        have c3 := HS3.out.tab.blk.cell (i := 1) rfl
        have l0 := lat_cell c0
        have l2 := lat_cell c2
        have l3 := lat_cell c3
        refine wp_region_quietL (by kernel_rfl) (by kernel_rfl) ?_
        repeat (go_big_quiet_step (fail))
        refine wpQuiet_nil ?_
        intro nq
        have HS4 := kept (HS3.out.later nq.below)
        generalize nq.w = w4 at HS4 ⊢
        clear c0 c2 c3 l0 l2 l3 HS3
        have r0 := HS4.out.res.cell (i := 0) rfl
        have r1 := HS4.out.res.cell (i := 1) rfl
        have r2 := HS4.out.res.cell (i := 2) rfl
        have r3 := HS4.out.res.cell (i := 3) rfl
        have f0 := HS4.out.res.free 0
        have f1 := HS4.out.res.free 1
        have f2 := HS4.out.res.free 2
        have f3 := HS4.out.res.free 3
        have HE := HS4.out.ret HF.out.1 (fun b hb => by have h2 : gs = b := by simpa [Value.ownBlock] using hb
                                                        rw [← h2]; exact HF.out.2.1) HF.out.2.2 (0, 0, false, false)
        have HE2 := kept HE
        clear HE
        go_wp2_with fail
        exact bodyPost_ret (results_cell_row rfl _ _ (w.heap.size + 1) 57 #[.int .i64 0, .int .i64 0, .bool false, .bool false] (0, 0) _ rfl HE2.out.1 Try.underlying57 rfl (by kernel_rfl)) rfl ⟨by rw [HR.out]; rfl, H, HE2.out.2.1, HG.out, HE2.out.2.2⟩
end Go.Proofs.Ytejecpmfhgplmaa

-- ---- Mg
/- merge's maker: a node whose best is known. Conditions: the memory that 'TabM' tells. -/
namespace Go.Proofs.Ytejecpmfhgplmaa
set_option linter.unusedSimpArgs false
set_option linter.unusedVariables false
open Go.RowKit Mix _root_.Go.Proofs.Ytejecpmfhgplmaa.Own Dp

theorem bcell {W w1 : World} (hb : Below W.heap.size W w1) : (∀ b o, b < W.heap.size → w1.cell? ⟨b, o, none⟩ = W.cell? ⟨b, o, none⟩) ∧ (∀ b o, b < W.heap.size → w1.frozen? ⟨b, o, none⟩ = W.frozen? ⟨b, o, none⟩) :=
  ⟨fun b o h => hb.cell (p := ⟨b, o, none⟩) h, fun b o h => hb.frozen (p := ⟨b, o, none⟩) h⟩
theorem andOf {A C : World → Prop} (H : ∀ x, A x → C x) {x : World} (h : A x) : A x ∧ C x := ⟨h, H x h⟩
/-- What the memory's loads read, in any world behind w3. -/
theorem held {w w3 : World} {d j o p gh n ch : Nat} {vs : Value} {lim : Nat} {g : List Int} {H : List Bst} (h : St0 w w3 d j o p vs (.slice (some ⟨gh, 0, none⟩) n ch) lim g H) {m : Nat} (hm : m < H.length) (w' : World) (hb : Below w3.heap.size w3 w') :
    w'.cell? ⟨p, 2, none⟩ = some (.slice (some ⟨gh, 0, none⟩) n ch) ∧ w'.cell? ⟨w.heap.size, 0, none⟩ = some (.int .i64 (d : Int)) ∧ w'.cell? ⟨w.heap.size, 1, none⟩ = some (.int .i64 (j : Int)) ∧ w'.cell? ⟨w.heap.size, 2, none⟩ = some (.int .i64 (o : Int)) ∧
    w'.cell? ⟨gh, m * 4, none⟩ = some (.int .i64 (H.getD m (0, 0, false, false)).1) ∧ w'.cell? ⟨gh, m * 4 + 1, none⟩ = some (.int .i64 (H.getD m (0, 0, false, false)).2.1) ∧ w'.cell? ⟨gh, m * 4 + 2, none⟩ = some (.bool (H.getD m (0, 0, false, false)).2.2.1) ∧ w'.cell? ⟨gh, m * 4 + 3, none⟩ = some (.bool (H.getD m (0, 0, false, false)).2.2.2) := by
  have h2 := h.later hb
  obtain ⟨a0, a1, a2, a3⟩ := flB_at H (0, 0, false, false) m hm
  have hn : n = H.length := by
    obtain ⟨a, c, e, _⟩ := h2.tab.rh.slice
    simp at e; exact e.2.1
  subst hn
  have hr := h2.tab.rh
  exact ⟨h2.tab.blk.cell (i := 2) rfl, h2.node.cell (i := 0) rfl, h2.node.cell (i := 1) rfl, h2.node.cell (i := 2) rfl, hr.cell a0, hr.cell a1, hr.cell a2, hr.cell a3⟩

set_option maxHeartbeats 4000000 in
theorem from_known (g : List Int) (lim p : Nat) (vs vh : Value) (H : List Bst) (r d j o : Nat) (w : World) (hT : TabM w p vs vh lim g H) (hG : HGood lim g H) (hg : Gs g) (hj : j < g.length) (ho1 : 1 ≤ o) (ho : j + o ≤ g.length) (hd : 1 ≤ d) (hlim : lim ≤ 15) (hr : d + (r + 1) = lim + 1)
    (hk : H.getD (keyM (g.length + 1) d j o) (0, 0, false, false) = mres (r + 1) (g.drop j) o) :
    Calls Try.prog 22 #[.pointer (some ⟨p, 0, none⟩), .agg #[.int .i64 (d : Int), .int .i64 (j : Int), .int .i64 (o : Int)]] w (FromE g lim p vs vh (r + 1) j o w) := by
  have hHl := hG.len
  obtain ⟨m, hm⟩ : ∃ m, m = keyM (g.length + 1) d j o := ⟨_, rfl⟩
  have hmH : m < H.length := by rw [hm, hHl]; exact keyM_lt (by omega) (by omega) (by omega)
  obtain ⟨gh, ch, rfl, hgh⟩ := hT.hadS (by omega)
  obtain ⟨N, hN⟩ : ∃ N, N = H.length := ⟨_, rfl⟩
  rw [← hN] at hT hmH ⊢
  obtain ⟨gs, cs, rfl, hgs, _⟩ := hT.slc
  obtain ⟨n, hn⟩ : ∃ n, n = g.length + 1 := ⟨_, rfl⟩
  rw [← hn] at hT hm hk ⊢
  rw [← hm] at hk
  have hl := hg.len
  have hpl := hT.blk.lt
  have hn66 : n ≤ 66 := by omega
  have hkn : mres (r + 1) (g.drop j) o = accV (g.drop j).sum (best (cand r (g.drop j) o) o) := mres_in ho1 (by rw [List.length_drop]; omega)
  obtain ⟨X, hX⟩ : ∃ X, X = mres (r + 1) (g.drop j) o := ⟨_, rfl⟩
  obtain ⟨x1, x2, x3, x4⟩ := X
  have hb := hX.symm
  clear hX
  have hx4 : x4 = true := by
    rw [hkn] at hb
    cases hbb : best (cand r (g.drop j) o) o with
    | none => rw [hbb] at hb; simp only [accV, Prod.mk.injEq] at hb; exact hb.2.2.2.symm
    | some q => rw [hbb] at hb; simp only [accV, Prod.mk.injEq] at hb; exact hb.2.2.2.symm
  subst hx4
  rw [hb] at hk
  have HR := kept hb
  have HS := kept (st0 (d := d) (j := j) (o := o) hT)
  have HF := kept (show p < w.heap.size ∧ gs < w.heap.size ∧ gh < w.heap.size from ⟨hpl, hgs, hgh⟩)
  have HG := kept hG
  have HK := kept hk
  have HM := kept hm
  have HN := kept hn
  have HNH := kept hN
  have hjn : (j : Int) ≤ (n : Int) - 1 := by omega
  have t0 : ((o : Int) == 0) = false := by rw [beq_eq_false_iff_ne]; omega
  have t1 : (((n : Int) - 1 - (j : Int)) == 0) = false := by rw [beq_eq_false_iff_ne]; omega
  have t2 : decide ((n : Int) - 1 - (j : Int) < (o : Int)) = false := by rw [decide_eq_false_iff_not]; omega
  have t3 : decide (lim < d) = false := by rw [decide_eq_false_iff_not]; omega
  have t3' : ¬ lim < d := by omega
  have hm0 : (0 : Int) ≤ (m : Int) := by omega
  have hm1 : (m : Int) < (N : Int) := by omega
  have hd100 : d ≤ 100 := by omega
  have ho65 : o ≤ 65 := by omega
  have hj65 : j ≤ 65 := by omega
  clear hT hg hj hl hpl hgs hgh hG ho1 ho hr hkn hb hk hm hn hN hmH hHl
  go_enter Try.func22, Try.ntmps22
  go_wp2_with fail
  generalize hw2 : World.alloc (World.alloc w _) _ = w2
  have HS2 := kept (show St0 w w2 d j o p _ _ lim g H by rw [← hw2]; exact HS.out)
  clear hw2 HS
  have c0 := HS2.out.tab.blk.cell (i := 0) rfl
  have c1 := HS2.out.node.cell (i := 1) rfl
  have c2 := HS2.out.node.cell (i := 2) rfl
  have l0 := lat_cell c0
  have l1 := lat_cell c1
  refine wp_region_quietL (by kernel_rfl) (by kernel_rfl) ?_
  repeat (go_big_quiet_step (fail))
  refine wpQuiet_nil ?_
  intro nq
  have HS3 := kept (HS2.out.later nq.below)
  generalize nq.w = w3 at HS3 ⊢
  clear c0 c1 c2 l0 l1 HS2
  have c2 := HS3.out.node.cell (i := 2) rfl
  go_wp2_with fail
  have c0 := HS3.out.node.cell (i := 0) rfl
  have c3 := HS3.out.tab.blk.cell (i := 1) rfl
  have l0 := lat_cell c0
  have l2 := lat_cell c2
  have l3 := lat_cell c3
  refine wp_region_quietL (by kernel_rfl) (by kernel_rfl) ?_
  repeat (go_big_quiet_step (fail))
  refine wpQuiet_nil ?_
  intro nq
  have HS4 := kept (HS3.out.later nq.below)
  generalize nq.w = w4 at HS4 ⊢
  clear c0 c2 c3 l0 l2 l3 HS3
  have hat : ∀ x : World, Below w4.heap.size w4 x → Calls Try.prog 31 #[.pointer (some ⟨p, 0, none⟩), .agg #[.int .i64 (d : Int), .int .i64 (j : Int), .int .i64 (o : Int)]] x fun e x' => e = .returned (.int .i64 (m : Int)) ∧ Below x.heap.size x x' := fun x hx => by
    have := at_calls p _ _ lim g H d j o n x (HS4.out.later hx).tab HN.out (by omega) hd100 (by omega) (by omega)
    rw [← HM.out] at this; exact this
  have hheld := fun x (hx : Below w4.heap.size w4 x) => held HS4.out (m := m) (by rw [← HNH.out]; omega) x hx
  rw [HK.out] at hheld
  have HAt := kept hat
  have HHeld := kept hheld
  clear hat hheld t0 t1 t2 t3 t3'
  go_wp2_with fail
  go_region_held3 (fun w' => Below w4.heap.size w4 w' ∧ w'.cell? ⟨p, 2, none⟩ = some (.slice (some ⟨gh, 0, none⟩) N ch) ∧ w'.cell? ⟨w.heap.size, 0, none⟩ = some (.int .i64 (d : Int)) ∧ w'.cell? ⟨w.heap.size, 1, none⟩ = some (.int .i64 (j : Int)) ∧ w'.cell? ⟨w.heap.size, 2, none⟩ = some (.int .i64 (o : Int)) ∧
    w'.cell? ⟨gh, m * 4, none⟩ = some (.int .i64 x1) ∧ w'.cell? ⟨gh, m * 4 + 1, none⟩ = some (.int .i64 x2) ∧ w'.cell? ⟨gh, m * 4 + 2, none⟩ = some (.bool x3) ∧ w'.cell? ⟨gh, m * 4 + 3, none⟩ = some (.bool true))
    ((first | exact ⟨(Below.refl _ _).drew, HHeld.out _ (Below.refl _ _).drew⟩ | exact S7 | exact andOf HHeld.out ((Below.refl _ _).alloc (Nat.le_refl _) _).drew | exact andOf HHeld.out (Below.alloc (‹Below w4.heap.size w4 _ ∧ _›).1 (‹Below w4.heap.size w4 _ ∧ _›).1.size _) | exact andOf HHeld.out (Below.setCell (Below.setCell (Below.setCell (Below.setCell (‹Below w4.heap.size w4 _ ∧ _›).1 (by first | exact Nat.le_refl _ | omega | (simp; omega)) _) (by first | exact Nat.le_refl _ | omega | (simp; omega)) _) (by first | exact Nat.le_refl _ | omega | (simp; omega)) _) (by first | exact Nat.le_refl _ | omega | (simp; omega)) _)))
    ((go_at_call 31; have hB := (‹Below w4.heap.size w4 _ ∧ _›).1; refine (HAt.out _ hB).mono ?_; rintro e w7 ⟨rfl, hb7⟩; have S7 := andOf HHeld.out (Below.trans hB (hb7.mono hB.size)); obtain ⟨hc7, hf7⟩ := bcell hb7; have hz7 := S7.1.size))
  all_goals
    have hW := (‹Below w4.heap.size w4 _ ∧ _›).1
    have HS5 := kept (HS4.out.later hW)
    have r0 := HS5.out.res.cell (i := 0) rfl
    have r1 := HS5.out.res.cell (i := 1) rfl
    have r2 := HS5.out.res.cell (i := 2) rfl
    have r3 := HS5.out.res.cell (i := 3) rfl
    have f0 := HS5.out.res.free 0
    have f1 := HS5.out.res.free 1
    have f2 := HS5.out.res.free 2
    have f3 := HS5.out.res.free 3
    have HE2 := kept (HS5.out.ret HF.out.1 (fun b hb => by have h2 : gs = b := by simpa [Value.ownBlock] using hb
                                                           rw [← h2]; exact HF.out.2.1) (fun b hb => by have h2 : gh = b := by simpa [Value.ownBlock] using hb
                                                                                                        rw [← h2]; exact HF.out.2.2) (x1, x2, x3, true))
    clear hW
    go_wp2_with fail
    exact bodyPost_ret (results_cell_row rfl _ _ (w.heap.size + 1) 57 #[.int .i64 x1, .int .i64 x2, .bool x3, .bool true] (0, 0) _ rfl HE2.out.1 Try.underlying57 rfl (by kernel_rfl)) rfl ⟨by rw [HR.out]; rfl, H, HE2.out.2.1, HG.out, HE2.out.2.2⟩
end Go.Proofs.Ytejecpmfhgplmaa

-- ---- Mh
/- merge's maker: the best from a node on, whole. Conditions: the memory that 'TabM' tells. -/
namespace Go.Proofs.Ytejecpmfhgplmaa
set_option linter.unusedSimpArgs false
set_option linter.unusedVariables false
open Go.RowKit Mix _root_.Go.Proofs.Ytejecpmfhgplmaa.Own Dp

section
variable {w wr : World} {d j o q : Nat} {acc : Bst} {p : Nat} {vs vh : Value} {lim : Nat} {g : List Int} {H : List Bst}
theorem StF.start {w5 : World} (h : St0 w w5 d j o p vs vh lim g H) (hG : HGood lim g H) (hp : p < w.heap.size) (hs : ∀ b, vs.ownBlock = some b → b < w.heap.size) (hh : ∀ b, vh.ownBlock = some b → b < w.heap.size) (q : Nat) (hq : q = w5.heap.size) :
    StF w (w5.alloc (.cells #[.int .i64 0, .int .i64 0, .bool false, .bool true] 57)) d j o q (0, 0, false, true) p vs vh lim g H := by
  subst hq
  have hb : Below w5.heap.size w5 (w5.alloc (.cells #[.int .i64 0, .int .i64 0, .bool false, .bool true] 57)) := (Below.refl _ _).alloc (Nat.le_refl _) _
  have h2 := h.later hb
  exact ⟨h2.node, h2.res, Blk.fresh _ _ _, h2.tab, hG, Chg.of_below h2.low, hp, hs, hh, h.res.lt⟩
theorem TabM.sumAt {gs n cs : Nat} (h : TabM w p (.slice (some ⟨gs, 0, none⟩) n cs) vh lim g H) (hj : j ≤ g.length) : w.cell? ⟨gs, j, none⟩ = some (.int .i64 (g.drop j).sum) := by
  have := h.rs.cell (j := j) (Own.ints_at .i64 (sums g) j (by rw [length_sums]; omega))
  rw [sums_at g j hj] at this
  exact this
theorem StF.len {gh n ch : Nat} (h : StF w wr d j o q acc p vs (.slice (some ⟨gh, 0, none⟩) n ch) lim g H) : n = H.length := by
  obtain ⟨a, c, e, _⟩ := h.tab.rh.slice
  simp at e; exact e.2.1
theorem StF.st0 (h : StF w wr d j o q acc p vs vh lim g H) (hlow : Below w.heap.size w wr) : St0 w wr d j o p vs vh lim g H := ⟨h.node, h.res, h.tab, hlow⟩
/-- What the last loads read. -/
theorem StF.cells {gh n ch : Nat} (h : StF w wr d j o q acc p vs (.slice (some ⟨gh, 0, none⟩) n ch) lim g H) :
    wr.cell? ⟨p, 2, none⟩ = some (.slice (some ⟨gh, 0, none⟩) n ch) ∧ wr.cell? ⟨w.heap.size, 0, none⟩ = some (.int .i64 (d : Int)) ∧ wr.cell? ⟨w.heap.size, 1, none⟩ = some (.int .i64 (j : Int)) ∧ wr.cell? ⟨w.heap.size, 2, none⟩ = some (.int .i64 (o : Int)) ∧
    wr.cell? ⟨q, 0, none⟩ = some (.int .i64 acc.1) ∧ wr.cell? ⟨q, 1, none⟩ = some (.int .i64 acc.2.1) ∧ wr.cell? ⟨q, 2, none⟩ = some (.bool acc.2.2.1) ∧ wr.cell? ⟨q, 3, none⟩ = some (.bool acc.2.2.2) :=
  ⟨h.tab.blk.cell (i := 2) rfl, h.node.cell (i := 0) rfl, h.node.cell (i := 1) rfl, h.node.cell (i := 2) rfl, h.out.cell (i := 0) rfl, h.out.cell (i := 1) rfl, h.out.cell (i := 2) rfl, h.out.cell (i := 3) rfl⟩
theorem StF.hadAt {gh n ch : Nat} (h : StF w wr d j o q acc p vs (.slice (some ⟨gh, 0, none⟩) n ch) lim g H) {m : Nat} (hm : m < H.length) :
    (wr.cell? ⟨gh, m * 4, none⟩ = some (.int .i64 (H.getD m (0, 0, false, false)).1) ∧ wr.cell? ⟨gh, m * 4 + 1, none⟩ = some (.int .i64 (H.getD m (0, 0, false, false)).2.1) ∧ wr.cell? ⟨gh, m * 4 + 2, none⟩ = some (.bool (H.getD m (0, 0, false, false)).2.2.1) ∧ wr.cell? ⟨gh, m * 4 + 3, none⟩ = some (.bool (H.getD m (0, 0, false, false)).2.2.2)) ∧
    wr.frozen? ⟨gh, m * 4, none⟩ = false ∧ wr.frozen? ⟨gh, m * 4 + 1, none⟩ = false ∧ wr.frozen? ⟨gh, m * 4 + 2, none⟩ = false ∧ wr.frozen? ⟨gh, m * 4 + 3, none⟩ = false := by
  obtain ⟨a0, a1, a2, a3⟩ := flB_at H (0, 0, false, false) m hm
  have hn := h.len
  subst hn
  have hr := h.tab.rh
  exact ⟨⟨hr.cell a0, hr.cell a1, hr.cell a2, hr.cell a3⟩, hr.free _, hr.free _, hr.free _, hr.free _⟩
/-- The node's best is laid in the memory. -/
theorem StF.put {gh n ch : Nat} (h : StF w wr d j o q acc p vs (.slice (some ⟨gh, 0, none⟩) n ch) lim g H) (m : Nat) (hm : m < H.length) (hG : HGood lim g (H.set m acc)) :
    StF w ((((wr.setCell ⟨gh, m * 4, none⟩ (.int .i64 acc.1)).setCell ⟨gh, m * 4 + 1, none⟩ (.int .i64 acc.2.1)).setCell ⟨gh, m * 4 + 2, none⟩ (.bool acc.2.2.1)).setCell ⟨gh, m * 4 + 3, none⟩ (.bool acc.2.2.2)) d j o q acc p vs (.slice (some ⟨gh, 0, none⟩) n ch) lim g (H.set m acc) := by
  have hghl := h.hh gh rfl
  have hql := h.hq
  have n0 : w.heap.size ≠ gh := by omega
  have n1 : w.heap.size + 1 ≠ gh := by omega
  have nq : q ≠ gh := by omega
  have hc1 : ∀ (x : World) (i : Nat) (v : Value), Chg (fun b => some b = (Value.slice (some ⟨gh, 0, none⟩) n ch).ownBlock) w x → Chg (fun b => some b = (Value.slice (some ⟨gh, 0, none⟩) n ch).ownBlock) w (x.setCell ⟨gh, i, none⟩ v) := fun x i v hx => hx.trans (Chg.setCell x _ v) (fun k hk e => by have e2 : k = gh := e; rw [e2]; rfl)
  exact ⟨(((h.node.setOther n0 _).setOther n0 _).setOther n0 _).setOther n0 _, (((h.res.setOther n1 _).setOther n1 _).setOther n1 _).setOther n1 _, (((h.out.setOther nq _).setOther nq _).setOther nq _).setOther nq _,
    h.tab.store h.len m hm acc, hG, hc1 _ _ _ (hc1 _ _ _ (hc1 _ _ _ (hc1 _ _ _ h.chg))), h.hp, h.hs, h.hh, h.hq⟩
/-- The result is laid. -/
theorem StF.ret (h : StF w wr d j o q acc p vs vh lim g H) :
    Blk ((((wr.setCell ⟨w.heap.size + 1, 0, none⟩ (.int .i64 acc.1)).setCell ⟨w.heap.size + 1, 1, none⟩ (.int .i64 acc.2.1)).setCell ⟨w.heap.size + 1, 2, none⟩ (.bool acc.2.2.1)).setCell ⟨w.heap.size + 1, 3, none⟩ (.bool acc.2.2.2)) (w.heap.size + 1) (bstV acc).toArray 57 ∧
    TabM ((((wr.setCell ⟨w.heap.size + 1, 0, none⟩ (.int .i64 acc.1)).setCell ⟨w.heap.size + 1, 1, none⟩ (.int .i64 acc.2.1)).setCell ⟨w.heap.size + 1, 2, none⟩ (.bool acc.2.2.1)).setCell ⟨w.heap.size + 1, 3, none⟩ (.bool acc.2.2.2)) p vs vh lim g H ∧
    Chg (fun b => some b = vh.ownBlock) w ((((wr.setCell ⟨w.heap.size + 1, 0, none⟩ (.int .i64 acc.1)).setCell ⟨w.heap.size + 1, 1, none⟩ (.int .i64 acc.2.1)).setCell ⟨w.heap.size + 1, 2, none⟩ (.bool acc.2.2.1)).setCell ⟨w.heap.size + 1, 3, none⟩ (.bool acc.2.2.2)) := by
  have np : p ≠ w.heap.size + 1 := by have := h.hp; omega
  have ns : vs.ownBlock ≠ some (w.heap.size + 1) := fun e => by have := h.hs _ e; omega
  have nh : vh.ownBlock ≠ some (w.heap.size + 1) := fun e => by have := h.hh _ e; omega
  have hc2 : ∀ (x : World) (i : Nat) (v : Value), Chg (fun b => some b = vh.ownBlock) w x → Chg (fun b => some b = vh.ownBlock) w (x.setCell ⟨w.heap.size + 1, i, none⟩ v) := fun x i v hx => hx.trans (Chg.setCell x _ v) (fun k hk e => by have : k = w.heap.size + 1 := e; omega)
  exact ⟨(((h.res.set 0 (.int .i64 acc.1)).set 1 (.int .i64 acc.2.1)).set 2 (.bool acc.2.2.1)).set 3 (.bool acc.2.2.2),
    (((h.tab.setOther np ns nh _).setOther np ns nh _).setOther np ns nh _).setOther np ns nh _, hc2 _ _ _ (hc2 _ _ _ (hc2 _ _ _ (hc2 _ _ _ h.chg)))⟩
end

/-- A best so far is one of the candidates. -/
def AccOk (o : Nat) : Option (Int × Nat) → Prop
  | none => True
  | some (x, k) => 0 ≤ x ∧ x ≤ 30000000000 ∧ k ≤ o
end Go.Proofs.Ytejecpmfhgplmaa

-- ---- Mi
/- merge's maker: the best from a node on, whole. Conditions: the memory that 'TabM' tells. -/
namespace Go.Proofs.Ytejecpmfhgplmaa
set_option linter.unusedSimpArgs false
set_option linter.unusedVariables false
open Go.RowKit Mix _root_.Go.Proofs.Ytejecpmfhgplmaa.Own Dp

set_option maxRecDepth 100000 in
set_option maxHeartbeats 8000000 in
theorem from_calls (g : List Int) (lim p : Nat) (vs vh : Value) (hg : Gs g) (hlim : lim ≤ 15) : ∀ (r d j o : Nat) (H : List Bst) (w : World), TabM w p vs vh lim g H → HGood lim g H → j ≤ g.length → o ≤ 130 → 1 ≤ d → d + r = lim + 1 →
    Calls Try.prog 22 #[.pointer (some ⟨p, 0, none⟩), .agg #[.int .i64 (d : Int), .int .i64 (j : Int), .int .i64 (o : Int)]] w (FromE g lim p vs vh r j o w) := by
  intro r
  induction r with
  | zero =>
    intro d j o H w hT hG hj ho hd hr
    by_cases h : j = g.length ∧ o = 0
    · exact from_end g lim p vs vh H 0 d j o w hT hG hg h.1 h.2 (by omega)
    · exact from_out g lim p vs vh H 0 d j o w hT hG hg hj (by omega) (by omega) hr h (.inr (.inr rfl))
  | succ r ih =>
    intro d j o H w hT hG hj ho hd hr
    by_cases h : j = g.length ∧ o = 0
    · exact from_end g lim p vs vh H (r + 1) d j o w hT hG hg h.1 h.2 (by omega)
    by_cases h2 : o = 0 ∨ g.length < j + o
    · exact from_out g lim p vs vh H (r + 1) d j o w hT hG hg hj (by omega) (by omega) hr h (by omega)
    have hjl : j < g.length := by omega
    have ho1 : 1 ≤ o := by omega
    have hjo : j + o ≤ g.length := by omega
    clear h h2 ho hj
    have hl := hg.len
    have hHl := hG.len
    obtain ⟨m, hm⟩ : ∃ m, m = keyM (g.length + 1) d j o := ⟨_, rfl⟩
    have hmH : m < H.length := by rw [hm, hHl]; exact keyM_lt (by omega) (by omega) (by omega)
    have hHm : ∀ H' : List Bst, HGood lim g H' → m < H'.length := fun H' h => by rw [h.len, ← hHl]; exact hmH
    rcases Classical.em (H.getD (keyM (g.length + 1) d j o) (0, 0, false, false) = mres (r + 1) (g.drop j) o) with hk | hk
    · exact from_known g lim p vs vh H r d j o w hT hG hg hjl ho1 hjo hd hlim hr hk
    have hkf : (H.getD m (0, 0, false, false)).2.2.2 = false := by
      rcases hG.at_ d j o hd (by omega) (by omega) (by omega) with h1 | h1
      · rw [hm]; exact h1
      · exact absurd (by rw [show lim + 1 - d = r + 1 by omega] at h1; exact h1) hk
    clear hk
    obtain ⟨X, hX⟩ : ∃ X, X = H.getD m (0, 0, false, false) := ⟨_, rfl⟩
    rw [← hX] at hkf
    obtain ⟨x1, x2, x3, x4⟩ := X
    simp only at hkf
    subst hkf
    have HX := kept hX.symm
    clear hX
    obtain ⟨gh, ch, rfl, hgh⟩ := hT.hadS (by omega)
    obtain ⟨N, hN⟩ : ∃ N, N = H.length := ⟨_, rfl⟩
    rw [← hN] at hT hmH ih ⊢
    obtain ⟨gs, cs, rfl, hgs, _⟩ := hT.slc
    obtain ⟨n, hn⟩ : ∃ n, n = g.length + 1 := ⟨_, rfl⟩
    rw [← hn] at hT hm ih ⊢
    have hpl := hT.blk.lt
    have hn66 : n ≤ 66 := by omega
    obtain ⟨c, hc⟩ : ∃ c, c = cand r (g.drop j) o := ⟨_, rfl⟩
    obtain ⟨S, hS⟩ : ∃ S, S = (g.drop j).sum := ⟨_, rfl⟩
    have hSb := hg.sum j
    rw [← hS] at hSb
    obtain ⟨hS0, hS1⟩ := hSb
    have HR := kept (show mres (r + 1) (g.drop j) o = accV S (best c o) by rw [hS, hc]; exact mres_in ho1 (by rw [List.length_drop]; omega))
    have HS := kept (st0 (d := d) (j := j) (o := o) hT)
    have HF := kept (show p < w.heap.size ∧ gs < w.heap.size ∧ gh < w.heap.size from ⟨hpl, hgs, hgh⟩)
    have HG := kept hG
    have HM := kept hm
    have HN := kept hn
    have HNH := kept hN
    have HC := kept hc
    have HSS := kept hS
    have HGs := kept hg
    have IH := kept ih
    have HHm := kept hHm
    have hjn : (j : Int) ≤ (n : Int) - 1 := by omega
    have hjn2 : (j : Int) < (n : Int) := by omega
    have t0 : ((o : Int) == 0) = false := by rw [beq_eq_false_iff_ne]; omega
    have t1 : (((n : Int) - 1 - (j : Int)) == 0) = false := by rw [beq_eq_false_iff_ne]; omega
    have t2 : decide ((n : Int) - 1 - (j : Int) < (o : Int)) = false := by rw [decide_eq_false_iff_not]; omega
    have t3 : decide (lim < d) = false := by rw [decide_eq_false_iff_not]; omega
    have t3' : ¬ lim < d := by omega
    have hm0 : (0 : Int) ≤ (m : Int) := by omega
    have hm1 : (m : Int) < (N : Int) := by omega
    have hd100 : d ≤ 100 := by omega
    have ho65 : o ≤ 65 := by omega
    have hj65 : j ≤ 65 := by omega
    have HB := kept (show j < g.length ∧ j + o ≤ g.length ∧ 1 ≤ o ∧ d + (r + 1) = lim + 1 ∧ g.length ≤ 65 from ⟨hjl, hjo, ho1, hr, hl⟩)
    clear hT hg hjl hl hpl hgs hgh hG ho1 hjo hr hm hn hN hmH hHl hc hS ih hHm
    go_enter Try.func22, Try.ntmps22
    go_wp2_with fail
    generalize hw2 : World.alloc (World.alloc w _) _ = w2
    have HS2 := kept (show St0 w w2 d j o p _ _ lim g H by rw [← hw2]; exact HS.out)
    clear hw2 HS
    have c0 := HS2.out.tab.blk.cell (i := 0) rfl
    have c1 := HS2.out.node.cell (i := 1) rfl
    have c2 := HS2.out.node.cell (i := 2) rfl
    have l0 := lat_cell c0
    have l1 := lat_cell c1
    refine wp_region_quietL (by kernel_rfl) (by kernel_rfl) ?_
    repeat (go_big_quiet_step (fail))
    refine wpQuiet_nil ?_
    intro nq
    have HS3 := kept (HS2.out.later nq.below)
    generalize nq.w = w3 at HS3 ⊢
    clear c0 c1 c2 l0 l1 HS2
    have c2 := HS3.out.node.cell (i := 2) rfl
    go_wp2_with fail
    have c0 := HS3.out.node.cell (i := 0) rfl
    have c3 := HS3.out.tab.blk.cell (i := 1) rfl
    have l0 := lat_cell c0
    have l2 := lat_cell c2
    have l3 := lat_cell c3
    refine wp_region_quietL (by kernel_rfl) (by kernel_rfl) ?_
    repeat (go_big_quiet_step (fail))
    refine wpQuiet_nil ?_
    intro nq
    have HS4 := kept (HS3.out.later nq.below)
    generalize nq.w = w4 at HS4 ⊢
    clear c0 c2 c3 l0 l2 l3 HS3
    have hat : ∀ x : World, Below w4.heap.size w4 x → Calls Try.prog 31 #[.pointer (some ⟨p, 0, none⟩), .agg #[.int .i64 (d : Int), .int .i64 (j : Int), .int .i64 (o : Int)]] x fun e x' => e = .returned (.int .i64 (m : Int)) ∧ Below x.heap.size x x' := fun x hx => by
      have := at_calls p _ _ lim g H d j o n x (HS4.out.later hx).tab HN.out (by omega) hd100 (by omega) (by omega)
      rw [← HM.out] at this; exact this
    have hheld := fun x (hx : Below w4.heap.size w4 x) => held HS4.out (m := m) (by rw [← HNH.out]; omega) x hx
    rw [HX.out] at hheld
    have HAt := kept hat
    have HHeld := kept hheld
    clear hat hheld t0 t1 t2 t3 t3'
    go_wp2_with fail
    go_cut [6] from 49 to 57 (fun s6 wx => ∃ q6, s6 = .pointer (some ⟨q6, 0, none⟩) ∧ St0 w wx d j o p (.slice (some ⟨gs, 0, none⟩) n cs) (.slice (some ⟨gh, 0, none⟩) N ch) lim g H ∧ wx.cell? ⟨q6, 3, none⟩ = some (.bool false))
    case first =>
      go_region_held3 (fun w' => Below w4.heap.size w4 w' ∧ w'.cell? ⟨p, 2, none⟩ = some (.slice (some ⟨gh, 0, none⟩) N ch) ∧ w'.cell? ⟨w.heap.size, 0, none⟩ = some (.int .i64 (d : Int)) ∧ w'.cell? ⟨w.heap.size, 1, none⟩ = some (.int .i64 (j : Int)) ∧ w'.cell? ⟨w.heap.size, 2, none⟩ = some (.int .i64 (o : Int)) ∧
        w'.cell? ⟨gh, m * 4, none⟩ = some (.int .i64 x1) ∧ w'.cell? ⟨gh, m * 4 + 1, none⟩ = some (.int .i64 x2) ∧ w'.cell? ⟨gh, m * 4 + 2, none⟩ = some (.bool x3) ∧ w'.cell? ⟨gh, m * 4 + 3, none⟩ = some (.bool false))
        ((first | exact ⟨(Below.refl _ _).drew, HHeld.out _ (Below.refl _ _).drew⟩ | exact S7 | exact andOf HHeld.out ((Below.refl _ _).alloc (Nat.le_refl _) _).drew | exact andOf HHeld.out (Below.alloc (‹Below w4.heap.size w4 _ ∧ _›).1 (‹Below w4.heap.size w4 _ ∧ _›).1.size _) | exact andOf HHeld.out (Below.setCell (Below.setCell (Below.setCell (Below.setCell (‹Below w4.heap.size w4 _ ∧ _›).1 (by first | exact Nat.le_refl _ | omega | (simp; omega)) _) (by first | exact Nat.le_refl _ | omega | (simp; omega)) _) (by first | exact Nat.le_refl _ | omega | (simp; omega)) _) (by first | exact Nat.le_refl _ | omega | (simp; omega)) _)))
        ((go_at_call 31; have hB := (‹Below w4.heap.size w4 _ ∧ _›).1; refine (HAt.out _ hB).mono ?_; rintro e w7 ⟨rfl, hb7⟩; have S7 := andOf HHeld.out (Below.trans hB (hb7.mono hB.size)); obtain ⟨hc7, hf7⟩ := bcell hb7; have hz7 := S7.1.size))
      all_goals
        have hW := (‹Below w4.heap.size w4 _ ∧ _›).1
        have HS5 := kept (HS4.out.later hW)
        clear hW
        go_wp2_with fail
        go_meet
        case rel => exact ⟨_, rfl, HS5.out, by first | exact Blk.cell (Blk.fresh _ _ _) rfl | exact Blk.cell ((((Blk.set (show Blk w7 w4.heap.size #[.int .i64 0, .int .i64 0, .bool false, .bool false] 57 from (hb7.block _ (by simp)).trans (Blk.fresh _ _ _)) 0 _).set 1 _).set 2 _).set 3 _) (i := 3) rfl⟩
    case rest =>
      obtain ⟨q6, rfl, hst, hc6⟩ := hcut
      obtain ⟨w5, rfl⟩ : ∃ w5, w5 = wc := ⟨wc, rfl⟩
      have HS5 := kept hst
      clear hst
      have k2 := HS5.out.node.cell (i := 2) rfl
      have k2' := (HS5.out.later ((Below.refl _ _).alloc (Nat.le_refl _) (.cells #[.int .i64 0, .int .i64 0, .bool false, .bool true] 57))).node.cell (i := 2) rfl
      go_wp2_with fail
      obtain ⟨q, hq⟩ : ∃ q, q = w5.heap.size := ⟨_, rfl⟩
      rw [← hq]
      generalize hw6 : World.alloc w5 _ = w6
      have HSt : Kept (StF w w6 d j o q (accV S none) p (.slice (some ⟨gs, 0, none⟩) n cs) (.slice (some ⟨gh, 0, none⟩) N ch) lim g H) := kept (by
        rw [← hw6]
        exact StF.start HS5.out HG.out HF.out.1 (fun b hb => by have h2 : gs = b := by simpa [Value.ownBlock] using hb
                                                                rw [← h2]; exact HF.out.2.1) (fun b hb => by have h2 : gh = b := by simpa [Value.ownBlock] using hb
                                                                                                             rw [← h2]; exact HF.out.2.2) q hq)
      have HSum : Kept (∀ (wx : World) (Hx : List Bst), TabM wx p (.slice (some ⟨gs, 0, none⟩) n cs) (.slice (some ⟨gh, 0, none⟩) N ch) lim g Hx → wx.cell? ⟨gs, j, none⟩ = some (.int .i64 S)) := kept (fun wx Hx h => by
        rw [HSS.out]; exact h.sumAt (by have := HB.out.1; omega))
      clear hw6 HS5 k2 k2' hc6 hq HS4 HAt HHeld
      go_loopw [8] (fun s8 wr => ∃ (t : Nat) (a : Option (Int × Nat)) (H' : List Bst), t ≤ o + 1 ∧ s8 = .int .i64 ((t : Int) - 1) ∧ Dp.run c a t = best c o ∧ AccOk o a ∧ StF w wr d j o q (accV S a) p (.slice (some ⟨gs, 0, none⟩) n cs) (.slice (some ⟨gh, 0, none⟩) N ch) lim g H')
        (fun s8 _ => (intOf s8 + 1).toNat)
      case atStart => exact ⟨o + 1, none, H, Nat.le_refl _, by congr 1; omega, rfl, trivial, HSt.out⟩
      case round =>
        obtain ⟨t, a, H1, hto, rfl, hrun, hacc, hst⟩ := hrel
        obtain ⟨wq, rfl⟩ : ∃ wq, wq = wr := ⟨wr, rfl⟩
        by_cases ht0 : 0 < t
        · obtain ⟨k, rfl⟩ : ∃ k, t = k + 1 := ⟨t - 1, by omega⟩
          rw [show (((k + 1 : Nat) : Int) - 1) = (k : Int) by omega]
          have hko : k ≤ o := by omega
          have n0 := hst.node.cell (i := 0) rfl
          have n1 := hst.node.cell (i := 1) rfl
          have n2 := hst.node.cell (i := 2) rfl
          have hcall := IH.out (d + 1) (j + k) (2 * (o - k)) H1 wq hst.tab hst.good (by have := HB.out; omega) (by omega) (by omega) (by have := HB.out; omega)
          rw [show ((d + 1 : Nat) : Int) = (d : Int) + 1 by omega, show ((j + k : Nat) : Int) = (j : Int) + (k : Int) by omega, show ((2 * (o - k) : Nat) : Int) = 2 * ((o : Int) - (k : Int)) by omega] at hcall
          obtain ⟨Y, hY⟩ : ∃ Y, Y = mres r (g.drop (j + k)) (2 * (o - k)) := ⟨_, rfl⟩
          obtain ⟨y1, y2, y3, y4⟩ := Y
          have hYb := mres_le (HGs.out.drop (j + k)) r (2 * (o - k)) (by omega) (by have := HB.out; omega)
          unfold FromE at hcall
          rw [← hY] at hcall hYb
          simp only [bstV] at hcall hYb
          obtain ⟨hy0, hy1, _, _⟩ := hYb
          have hYc : (y3 = false ∧ c k = none) ∨ (y3 = true ∧ c k = some y1) := by
            rw [HC.out]
            cases hdp : dp r ((g.drop j).drop k) (2 * (o - k)) with
            | none =>
              have h1 := cand_none hdp
              rw [List.drop_drop] at hdp
              have h2 := mres_none hdp
              rw [← hY] at h2
              exact .inl ⟨h2.1, h1⟩
            | some z =>
              have h1 := cand_some hdp
              rw [List.drop_drop] at hdp h1
              have h2 := mres_some hdp
              rw [← hY] at h2
              simp only at h2
              exact .inr ⟨h2.1, by rw [h1, h2.2]⟩
          have HCall := kept hcall
          have HS1 := kept hst
          have HRun := kept hrun
          clear hcall hst hrun hY ht0
          rcases hYc with ⟨rfl, hck⟩ | ⟨rfl, hck⟩
          · have HCk := kept hck
            have HAcc := kept hacc
            clear hck hacc
            go_wp2_with (first | (go_at_call 22; refine HCall.out.mono ?_; rintro e w2 ⟨rfl, H2, hT2, hG2, hC2⟩; have HS2 := kept (HS1.out.told hT2 hG2 hC2); clear hT2 hG2 hC2))
            obtain ⟨q9, hq9⟩ : ∃ q9, q9 = w2.heap.size := ⟨_, rfl⟩
            rw [← hq9]
            generalize hw3 : World.alloc w2 _ = w3
            have HS3 : Kept (StF w w3 d j o q (accV S a) p (.slice (some ⟨gs, 0, none⟩) n cs) (.slice (some ⟨gh, 0, none⟩) N ch) lim g H2 ∧ Blk w3 q9 #[.int .i64 y1, .int .i64 y2, .bool false, .bool y4] 57) := kept (by rw [← hw3]; exact ⟨HS2.out.later ((Below.refl _ _).alloc (Nat.le_refl _) _), Blk.fresh_at _ _ hq9 _ _⟩)
            clear hw3 hq9 HS2
            have l0 := lat_cell (HS3.out.2.cell (i := 0) rfl)
            have l1 := lat_cell (HS3.out.1.tab.blk.cell (i := 0) rfl)
            have l2 := lat_cell (HS3.out.1.node.cell (i := 1) rfl)
            have l3 := lat_cell (HSum.out _ _ HS3.out.1.tab)
            refine wp_region_quietL (by kernel_rfl) (by kernel_rfl) ?_
            repeat (go_big_quiet_step (fail))
            refine wpQuiet_nil ?_
            intro nq
            have HS4' := kept (And.intro (HS3.out.1.later nq.below) (lat_block HS3.out.2 nq))
            generalize nq.w = w4' at HS4' ⊢
            clear l0 l1 l2 l3 HS3
            have c9 := Blk.cell HS4'.out.2 (i := 2) rfl
            go_wp2_with fail
            go_roundw
            case rel => exact ⟨k, a, H2, by omega, by go_num, by have := HRun.out; rw [show Dp.run c a (k + 1) = Dp.run c (upd a (c k) k) k from rfl, HCk.out] at this; exact this, HAcc.out, HS4'.out.1⟩
            case measure => simp [intOf]
          · have HCk := kept hck
            clear hck
            cases a with
            | none =>
              go_wp2_with (first | (go_at_call 22; refine HCall.out.mono ?_; rintro e w2 ⟨rfl, H2, hT2, hG2, hC2⟩; have HS2 := kept (HS1.out.told hT2 hG2 hC2); clear hT2 hG2 hC2))
              obtain ⟨q9, hq9⟩ : ∃ q9, q9 = w2.heap.size := ⟨_, rfl⟩
              rw [← hq9]
              generalize hw3 : World.alloc w2 _ = w3
              have HS3 : Kept (StF w w3 d j o q (accV S none) p (.slice (some ⟨gs, 0, none⟩) n cs) (.slice (some ⟨gh, 0, none⟩) N ch) lim g H2 ∧ Blk w3 q9 #[.int .i64 y1, .int .i64 y2, .bool true, .bool y4] 57) := kept (by rw [← hw3]; exact ⟨HS2.out.later ((Below.refl _ _).alloc (Nat.le_refl _) _), Blk.fresh_at _ _ hq9 _ _⟩)
              clear hw3 hq9 HS2
              have l0 := lat_cell (HS3.out.2.cell (i := 0) rfl)
              have l1 := lat_cell (HS3.out.1.tab.blk.cell (i := 0) rfl)
              have l2 := lat_cell (HS3.out.1.node.cell (i := 1) rfl)
              have l3 := lat_cell (HSum.out _ _ HS3.out.1.tab)
              refine wp_region_quietL (by kernel_rfl) (by kernel_rfl) ?_
              repeat (go_big_quiet_step (fail))
              refine wpQuiet_nil ?_
              intro nq
              have HS4' := kept (And.intro (HS3.out.1.later nq.below) (lat_block HS3.out.2 nq))
              generalize nq.w = w4' at HS4' ⊢
              clear l0 l1 l2 l3 HS3
              have c9 := Blk.cell HS4'.out.2 (i := 2) rfl
              have r0 : w4'.cell? ⟨q, 0, none⟩ = some (.int .i64 0) := Blk.cell HS4'.out.1.out (i := 0) rfl
              have r1 : w4'.cell? ⟨q, 1, none⟩ = some (.int .i64 0) := Blk.cell HS4'.out.1.out (i := 1) rfl
              have r2 : w4'.cell? ⟨q, 2, none⟩ = some (.bool false) := Blk.cell HS4'.out.1.out (i := 2) rfl
              have r3 : w4'.cell? ⟨q, 3, none⟩ = some (.bool true) := Blk.cell HS4'.out.1.out (i := 3) rfl
              have f0 := HS4'.out.1.out.free 0
              have f1 := HS4'.out.1.out.free 1
              have f2 := HS4'.out.1.out.free 2
              have f3 := HS4'.out.1.out.free 3
              go_wp2_with fail
              go_roundw
              case rel => exact ⟨k, some (y1, k), H2, by omega, by go_num, by have := HRun.out; rw [show Dp.run c none (k + 1) = Dp.run c (upd none (c k) k) k from rfl, HCk.out] at this; exact this, ⟨hy0, hy1, hko⟩, HS4'.out.1.setOut (y1 + S, (k : Int), true, true)⟩
              case measure => simp [intOf]
            | some am =>
              obtain ⟨y, mm⟩ := am
              obtain ⟨ha0, ha1, ha2⟩ := hacc
              have HAcc := kept (show AccOk o (some (y, mm)) from ⟨ha0, ha1, ha2⟩)
              by_cases hlt : y1 < y
              · have t5 : decide (y1 < y) = true := decide_eq_true hlt
                have t6 : decide (y1 + S < y + S) = true := decide_eq_true (by omega)
                have HLt := kept hlt
                go_wp2_with (first | (go_at_call 22; refine HCall.out.mono ?_; rintro e w2 ⟨rfl, H2, hT2, hG2, hC2⟩; have HS2 := kept (HS1.out.told hT2 hG2 hC2); clear hT2 hG2 hC2))
                obtain ⟨q9, hq9⟩ : ∃ q9, q9 = w2.heap.size := ⟨_, rfl⟩
                rw [← hq9]
                generalize hw3 : World.alloc w2 _ = w3
                have HS3 : Kept (StF w w3 d j o q (accV S (some (y, mm))) p (.slice (some ⟨gs, 0, none⟩) n cs) (.slice (some ⟨gh, 0, none⟩) N ch) lim g H2 ∧ Blk w3 q9 #[.int .i64 y1, .int .i64 y2, .bool true, .bool y4] 57) := kept (by rw [← hw3]; exact ⟨HS2.out.later ((Below.refl _ _).alloc (Nat.le_refl _) _), Blk.fresh_at _ _ hq9 _ _⟩)
                clear hw3 hq9 HS2
                have l0 := lat_cell (HS3.out.2.cell (i := 0) rfl)
                have l1 := lat_cell (HS3.out.1.tab.blk.cell (i := 0) rfl)
                have l2 := lat_cell (HS3.out.1.node.cell (i := 1) rfl)
                have l3 := lat_cell (HSum.out _ _ HS3.out.1.tab)
                refine wp_region_quietL (by kernel_rfl) (by kernel_rfl) ?_
                repeat (go_big_quiet_step (fail))
                refine wpQuiet_nil ?_
                intro nq
                have HS4' := kept (And.intro (HS3.out.1.later nq.below) (lat_block HS3.out.2 nq))
                generalize nq.w = w4' at HS4' ⊢
                clear l0 l1 l2 l3 HS3
                have c9 := Blk.cell HS4'.out.2 (i := 2) rfl
                have r0 : w4'.cell? ⟨q, 0, none⟩ = some (.int .i64 (y + S)) := Blk.cell HS4'.out.1.out (i := 0) rfl
                have r1 : w4'.cell? ⟨q, 1, none⟩ = some (.int .i64 (mm : Int)) := Blk.cell HS4'.out.1.out (i := 1) rfl
                have r2 : w4'.cell? ⟨q, 2, none⟩ = some (.bool true) := Blk.cell HS4'.out.1.out (i := 2) rfl
                have r3 : w4'.cell? ⟨q, 3, none⟩ = some (.bool true) := Blk.cell HS4'.out.1.out (i := 3) rfl
                have f0 := HS4'.out.1.out.free 0
                have f1 := HS4'.out.1.out.free 1
                have f2 := HS4'.out.1.out.free 2
                have f3 := HS4'.out.1.out.free 3
                go_wp2_with fail
                go_roundw
                case rel => exact ⟨k, some (y1, k), H2, by omega, by go_num, by have := HRun.out; rw [show Dp.run c (some (y, mm)) (k + 1) = Dp.run c (upd (some (y, mm)) (c k) k) k from rfl, HCk.out] at this; simp only [upd] at this; rw [if_pos HLt.out] at this; exact this, ⟨hy0, hy1, hko⟩, HS4'.out.1.setOut (y1 + S, (k : Int), true, true)⟩
                case measure => simp [intOf]
              · have t5 : decide (y1 < y) = false := decide_eq_false hlt
                have t6 : decide (y1 + S < y + S) = false := decide_eq_false (by omega)
                have HLt := kept hlt
                go_wp2_with (first | (go_at_call 22; refine HCall.out.mono ?_; rintro e w2 ⟨rfl, H2, hT2, hG2, hC2⟩; have HS2 := kept (HS1.out.told hT2 hG2 hC2); clear hT2 hG2 hC2))
                obtain ⟨q9, hq9⟩ : ∃ q9, q9 = w2.heap.size := ⟨_, rfl⟩
                rw [← hq9]
                generalize hw3 : World.alloc w2 _ = w3
                have HS3 : Kept (StF w w3 d j o q (accV S (some (y, mm))) p (.slice (some ⟨gs, 0, none⟩) n cs) (.slice (some ⟨gh, 0, none⟩) N ch) lim g H2 ∧ Blk w3 q9 #[.int .i64 y1, .int .i64 y2, .bool true, .bool y4] 57) := kept (by rw [← hw3]; exact ⟨HS2.out.later ((Below.refl _ _).alloc (Nat.le_refl _) _), Blk.fresh_at _ _ hq9 _ _⟩)
                clear hw3 hq9 HS2
                have l0 := lat_cell (HS3.out.2.cell (i := 0) rfl)
                have l1 := lat_cell (HS3.out.1.tab.blk.cell (i := 0) rfl)
                have l2 := lat_cell (HS3.out.1.node.cell (i := 1) rfl)
                have l3 := lat_cell (HSum.out _ _ HS3.out.1.tab)
                refine wp_region_quietL (by kernel_rfl) (by kernel_rfl) ?_
                repeat (go_big_quiet_step (fail))
                refine wpQuiet_nil ?_
                intro nq
                have HS4' := kept (And.intro (HS3.out.1.later nq.below) (lat_block HS3.out.2 nq))
                generalize nq.w = w4' at HS4' ⊢
                clear l0 l1 l2 l3 HS3
                have c9 := Blk.cell HS4'.out.2 (i := 2) rfl
                have r0 : w4'.cell? ⟨q, 0, none⟩ = some (.int .i64 (y + S)) := Blk.cell HS4'.out.1.out (i := 0) rfl
                have r1 : w4'.cell? ⟨q, 1, none⟩ = some (.int .i64 (mm : Int)) := Blk.cell HS4'.out.1.out (i := 1) rfl
                have r2 : w4'.cell? ⟨q, 2, none⟩ = some (.bool true) := Blk.cell HS4'.out.1.out (i := 2) rfl
                have r3 : w4'.cell? ⟨q, 3, none⟩ = some (.bool true) := Blk.cell HS4'.out.1.out (i := 3) rfl
                go_wp2_with fail
                go_roundw
                case rel => exact ⟨k, some (y, mm), H2, by omega, by go_num, by have := HRun.out; rw [show Dp.run c (some (y, mm)) (k + 1) = Dp.run c (upd (some (y, mm)) (c k) k) k from rfl, HCk.out] at this; simp only [upd] at this; rw [if_neg (by have := HLt.out; omega)] at this; exact this, HAcc.out, HS4'.out.1⟩
                case measure => simp [intOf]
        · have ht : t = 0 := by omega
          subst ht
          rw [show (((0 : Nat) : Int) - 1) = -1 from rfl]
          have hae : a = best c o := hrun
          obtain ⟨Z, hZ⟩ : ∃ Z, Z = accV S a := ⟨_, rfl⟩
          obtain ⟨z1, z2, z3, z4⟩ := Z
          rw [← hZ] at hst
          have HRZ : Kept (mres (r + 1) (g.drop j) o = (z1, z2, z3, z4)) := kept (by rw [HR.out, hZ, hae])
          have hmH := HHm.out H1 hst.good
          have hset := hst.good.set (d := d) (j := j) (o := o) (by have := HB.out; omega) (by have := HB.out; omega) (by have := HB.out; omega)
          rw [show g.length + 1 = n from HN.out.symm, ← HM.out, show lim + 1 - d = r + 1 by have := HB.out; omega, HRZ.out] at hset
          have hheld := fun x (hx : Below wq.heap.size wq x) => (hst.later hx).cells
          have hhad := fun x (hx : Below wq.heap.size wq x) => (hst.later hx).hadAt hmH
          have hput := fun x (hx : Below wq.heap.size wq x) => ((hst.later hx).put m hmH hset)
          have hat : ∀ x : World, Below wq.heap.size wq x → Calls Try.prog 31 #[.pointer (some ⟨p, 0, none⟩), .agg #[.int .i64 (d : Int), .int .i64 (j : Int), .int .i64 (o : Int)]] x fun e x' => e = .returned (.int .i64 (m : Int)) ∧ Below x.heap.size x x' := fun x hx => by
            have := at_calls p _ _ lim g H1 d j o n x (hst.later hx).tab HN.out (by omega) hd100 (by omega) (by omega)
            rw [← HM.out] at this; exact this
          obtain ⟨U, hU⟩ : ∃ U, U = H1.getD m (0, 0, false, false) := ⟨_, rfl⟩
          rw [← hU] at hhad
          obtain ⟨u1, u2, u3, u4⟩ := U
          have HAt := kept hat
          have HHeld := kept hheld
          have HHad := kept hhad
          have HPut := kept hput
          clear hst hmH hat hheld hhad hput hU hZ hae hrun hacc ht0 hset
          go_wp2_with fail
          go_region_held3 (fun w' => w'.cell? ⟨p, 2, none⟩ = some (.slice (some ⟨gh, 0, none⟩) N ch) ∧ w'.cell? ⟨w.heap.size, 0, none⟩ = some (.int .i64 (d : Int)) ∧ w'.cell? ⟨w.heap.size, 1, none⟩ = some (.int .i64 (j : Int)) ∧ w'.cell? ⟨w.heap.size, 2, none⟩ = some (.int .i64 (o : Int)) ∧
            w'.cell? ⟨q, 0, none⟩ = some (.int .i64 z1) ∧ w'.cell? ⟨q, 1, none⟩ = some (.int .i64 z2) ∧ w'.cell? ⟨q, 2, none⟩ = some (.bool z3) ∧ w'.cell? ⟨q, 3, none⟩ = some (.bool z4))
            ((first | exact HHeld.out _ (Below.refl _ _).drew | exact S7 | exact S9))
            ((go_at_call 31; refine (HAt.out _ (Below.refl _ _).drew).mono ?_; rintro e w7 ⟨rfl, hb7⟩; have HB7 := kept ((Below.refl wq.heap.size wq).drew.trans hb7); have S7 := HHeld.out _ HB7.out; have S9 := (HPut.out _ HB7.out).cells; obtain ⟨⟨k0, k1, k2, k3⟩, f0, f1, f2, f3⟩ := HHad.out _ HB7.out))
          have HP := HPut.out _ HB7.out
          have r0 := HP.res.cell (i := 0) rfl
          have r1 := HP.res.cell (i := 1) rfl
          have r2 := HP.res.cell (i := 2) rfl
          have r3 := HP.res.cell (i := 3) rfl
          have g0 := HP.res.free 0
          have g1 := HP.res.free 1
          have g2 := HP.res.free 2
          have g3 := HP.res.free 3
          have HE2 := kept HP.ret
          have HGd := kept HP.good
          clear HP
          go_wp2_with fail
          exact bodyPost_ret (results_cell_row rfl _ _ (w.heap.size + 1) 57 #[.int .i64 z1, .int .i64 z2, .bool z3, .bool z4] (0, 0) _ rfl HE2.out.1 Try.underlying57 rfl (by kernel_rfl)) rfl ⟨by rw [HRZ.out]; rfl, _, HE2.out.2.1, HGd.out, HE2.out.2.2⟩
end Go.Proofs.Ytejecpmfhgplmaa

-- ---- Rd
/- wringerref7's best.cost, whole. Conditions: the memory that 'Tab' tells. -/
namespace Go.Proofs.Ytejecpmfhgplmaa
set_option linter.unusedSimpArgs false
set_option linter.unusedVariables false
open Go.RowKit Mix _root_.Go.Proofs.Ytejecpmfhgplmaa.Own Dp

theorem Tab.store {w : World} {p gk n ck : Nat} {vf vs : Value} {lim : Nat} {g K : List Int} (h : Tab w p vf (.slice (some ⟨gk, 0, none⟩) n ck) vs lim g K) (m : Nat) (v : Int) (hg : KGood lim g (K.set m v)) :
    Tab (w.setCell ⟨gk, m, none⟩ (.int .i64 v)) p vf (.slice (some ⟨gk, 0, none⟩) n ck) vs lim g (K.set m v) := by
  have hp : p ≠ gk := fun e => h.rk.ne h.blk (by decide) (by rw [e]; rfl)
  refine ⟨h.blk.setOther hp _, h.rf.setOther (fun e => h.nf gk rfl e) _, by rw [ints_set]; exact h.rk.store m _, h.rs.setOther (fun e => h.ns gk rfl e) _, h.nf, h.ns, hg⟩
theorem Tab.known {w : World} {p : Nat} {vf vk vs : Value} {lim : Nat} {g K : List Int} (h : Tab w p vf vk vs lim g K) : ∃ gk ck, vk = .slice (some ⟨gk, 0, none⟩) 166600 ck := by
  have hKl := h.good.len
  obtain ⟨gk, ck, e, _, _⟩ := rowI h.rk (by intro e; rw [e] at hKl; simp at hKl)
  rw [hKl] at e
  exact ⟨gk, ck, e⟩
theorem Tab.sum {w : World} {p : Nat} {vf vk vs : Value} {lim : Nat} {g K : List Int} (h : Tab w p vf vk vs lim g K) : ∃ gs cs, vs = .slice (some ⟨gs, 0, none⟩) (g.length + 1) cs ∧ ∀ i, i ≤ g.length → w.cell? ⟨gs, i, none⟩ = some (.int .i64 (g.drop i).sum) := by
  obtain ⟨gs, cs, e, _, _⟩ := rowI h.rs (by intro e; have := congrArg List.length e; rw [length_sums] at this; simp at this)
  subst e
  rw [length_sums]
  refine ⟨gs, cs, rfl, fun i hi => ?_⟩
  have := h.rs.cell (j := i) (Own.ints_at .i64 (sums g) i (by rw [length_sums]; omega))
  rw [sums_at g i hi] at this
  exact this

theorem minUp_ge {g : List Int} (hg : Gs g) (r j o t : Nat) (y : Int) (h : minUp (cand r (g.drop j) o) t = some y) : 0 ≤ y ∧ y ≤ 1090519040 * ((r : Int) + 1) := by
  have hs := minUp_spec (cand r (g.drop j) o) t
  rw [h] at hs
  obtain ⟨⟨k, _, hk⟩, _⟩ := hs
  unfold cand at hk
  cases hd : dp r ((g.drop j).drop k) (2 * (o - k)) with
  | none => rw [hd] at hk; cases hk
  | some z =>
    rw [hd] at hk
    simp only [Option.map_some, Option.some.injEq] at hk
    have h1 := dp_le _ _ _ _ ((hg.drop j).drop k) hd
    have h2 := (hg.drop j).sum k
    omega

set_option maxHeartbeats 800000 in
theorem cost_calls (g : List Int) (lim p : Nat) (vf vk vs : Value) (hg : Gs g) (hlim : lim ≤ 15) : ∀ (r d j o : Nat) (K : List Int) (w : World), Tab w p vf vk vs lim g K → j ≤ g.length → o ≤ 130 → 1 ≤ d → d + r = lim + 1 →
    Calls Try.prog 24 #[.pointer (some ⟨p, 0, none⟩), .int .i64 (d : Int), .int .i64 (j : Int), .int .i64 (o : Int)] w (CostE g lim p vf vk vs r j o w) := by
  intro r
  induction r with
  | zero =>
    intro d j o K w hT hj ho hd hr
    by_cases h : j = g.length
    · exact cost_end g lim p vf vk vs K 0 d j o w hT hg h (by omega) (by omega)
    · exact cost_out g lim p vf vk vs K 0 d j o w hT hg (by omega) (by omega) (by omega) hr (.inr (.inr rfl))
  | succ r ih =>
    intro d j o K w hT hj ho hd hr
    by_cases h : j = g.length
    · exact cost_end g lim p vf vk vs K (r + 1) d j o w hT hg h (by omega) (by omega)
    by_cases h2 : o = 0 ∨ g.length < j + o
    · exact cost_out g lim p vf vk vs K (r + 1) d j o w hT hg (by omega) (by omega) (by omega) hr (by omega)
    have hjl : j < g.length := by omega
    have ho1 : 1 ≤ o := by omega
    have hjo : j + o ≤ g.length := by omega
    clear h h2 ho hj
    have hl := hg.len
    have hd15 : d ≤ lim := by omega
    rcases hT.good.at_ d j o hd (by omega) (by omega) (by omega) with hk | hk
    · -- not known yet
      obtain ⟨af, cf, rfl⟩ := sliceI hT.rf
      obtain ⟨gk, ck, rfl⟩ := hT.known
      have hKl := hT.good.len
      obtain ⟨m, hm⟩ : ∃ m, m = key d j o := ⟨_, rfl⟩
      have hm2 : m < 166600 := by rw [hm]; unfold key; omega
      have c0 := hT.blk.cell (i := 0) rfl
      have c1 := hT.blk.cell (i := 1) rfl
      have c2 := hT.blk.cell (i := 2) rfl
      have ck2 := hT.rk.cell (j := m) (Own.ints_at .i64 K m (by rw [hKl]; exact hm2))
      rw [← hm] at hk
      rw [hk] at ck2
      have e0 : (((g.length : Int) - (j : Int)) == 0) = false := by rw [beq_eq_false_iff_ne]; omega
      have t0 : ((o : Int) == 0) = false := by rw [beq_eq_false_iff_ne]; omega
      have t1 : decide (((g.length : Int) - (j : Int)) < (o : Int)) = false := by rw [decide_eq_false_iff_not]; omega
      have t2 : decide ((lim : Int) < (d : Int)) = false := by rw [decide_eq_false_iff_not]; omega
      have HK := kept (fun (x : Option Addr) => key_calls x d j o w (by omega) (by omega) (by omega))
      rw [← hm] at HK
      obtain ⟨c, hc⟩ : ∃ c, c = cand r (g.drop j) o := ⟨_, rfl⟩
      have HC := kept hc
      have hne : g.drop j ≠ [] := by intro e; have := congrArg List.length e; rw [List.length_drop] at this; simp at this; omega
      have HD := kept (show dp (r + 1) (g.drop j) o = minUp c (o + 1) by rw [minUp_best, dp_in hne ho1 (by rw [List.length_drop]; omega), hc])
      have HM := kept hm
      have HT := kept hT
      have HG := kept hg
      have IH := kept ih
      clear hT hg hk hm hc hne ih
      go_enter Try.func24, Try.ntmps24
      go_wp2_with (first | (go_at_call 32; refine (HK.out _).mono ?_; rintro e w1 ⟨rfl, rfl⟩))
      go_loopw [11, 12] (fun s11 s12 wr => ∃ t : Nat, t ≤ o + 1 ∧ s12 = .int .i64 (t : Int) ∧ s11 = .int .i64 (enc (minUp c t)) ∧ ∃ K', Tab wr p (.slice af g.length cf) (.slice (some ⟨gk, 0, none⟩) 166600 ck) vs lim g K' ∧ Chg (fun b => some b = (Value.slice (some ⟨gk, 0, none⟩) 166600 ck).ownBlock) w wr)
        (fun _ s12 _ => o + 1 - (intOf s12).toNat)
      case atStart => exact ⟨0, Nat.zero_le _, rfl, rfl, K, HT.out, Chg.refl _ _⟩
      case round =>
        obtain ⟨t, ht, rfl, rfl, K1, hT1, hC1⟩ := hrel
        have hlt := HG.out.len
        by_cases hto : t ≤ o
        · obtain ⟨gs, cs, rfl, hsum⟩ := hT1.sum
          have d3 := hT1.blk.cell (i := 3) rfl
          have dsum := hsum (j + t) (by omega)
          obtain ⟨S, hS⟩ : ∃ S, S = (g.drop (j + t)).sum := ⟨_, rfl⟩
          have hS1 := HG.out.sum (j + t)
          rw [← hS] at dsum hS1
          have hcall := IH.out (d + 1) (j + t) (2 * (o - t)) K1 wr hT1 (by omega) (by omega) (by omega) (by omega)
          rw [show ((d + 1 : Nat) : Int) = (d : Int) + 1 by omega, show ((j + t : Nat) : Int) = (j : Int) + (t : Int) by omega, show ((2 * (o - t) : Nat) : Int) = 2 * ((o : Int) - (t : Int)) by omega] at hcall
          have hcand : c t = (dp r (g.drop (j + t)) (2 * (o - t))).map (· + S) := by rw [HC.out, hS]; unfold cand; rw [List.drop_drop]
          have HS := kept hS
          have HT1 := kept hT1
          have HC1 := kept hC1
          have HSum := kept hsum
          clear hT1 hC1 hS hsum d3 dsum
          cases hdp : dp r (g.drop (j + t)) (2 * (o - t)) with
          | none =>
            have hu : minUp c (t + 1) = minUp c t := by rw [hdp] at hcand; simp only [minUp, hcand, Option.map_none]
            unfold CostE at hcall
            rw [hdp] at hcall
            simp only [enc] at hcall
            have HU := kept hu
            have HCall := kept hcall
            clear hcall hu hcand hdp
            go_wp2_with (first | (go_at_call 24; refine HCall.out.mono ?_; rintro e w2 ⟨rfl, K2, hT2, hC2⟩; have HT2 := kept hT2; have HC2 := kept (HC1.out.trans hC2 (fun _ _ h => h)); clear hT2 hC2))
            go_roundw
            case rel => exact ⟨t + 1, by omega, by go_num, by rw [HU.out], K2, HT2.out, HC2.out⟩
            case measure => simp [intOf]; omega
          | some x =>
            have hx := dp_le _ _ _ _ (HG.out.drop (j + t)) hdp
            have hu : minUp c (t + 1) = match minUp c t with | none => some (x + S) | some y => if x + S < y then some (x + S) else some y := by rw [hdp] at hcand; simp only [minUp, hcand, Option.map_some]; try rfl
            unfold CostE at hcall
            rw [hdp] at hcall
            simp only [enc] at hcall
            obtain ⟨hx1, hx2⟩ := hx
            obtain ⟨hS1a, hS1b⟩ := hS1
            have hx3 : x ≤ 20000000000 := by omega
            have hxn : decide (x < 0) = false := by rw [decide_eq_false_iff_not]; omega
            have HCall := kept hcall
            clear hcall hcand hdp hx2
            cases hmn : minUp c t with
            | none =>
              rw [hmn] at hu
              have HU := kept hu
              clear hu hmn
              simp only [enc]
              go_wp2_with (first | (go_at_call 24; refine HCall.out.mono ?_; rintro e w2 ⟨rfl, K2, hT2, hC2⟩; have d3 := hT2.blk.cell (i := 3) rfl; have dsum := (by have := (hT2.rs.cell (j := j + t) (Own.ints_at .i64 (sums g) (j + t) (by rw [length_sums]; omega))); rw [sums_at g (j + t) (by omega), ← HS.out] at this; exact this : w2.cell? ⟨gs, j + t, none⟩ = some (.int .i64 S)); have HT2 := kept hT2; have HC2 := kept (HC1.out.trans hC2 (fun _ _ h => h)); clear hT2 hC2))
              go_roundw
              case rel => exact ⟨t + 1, by omega, by go_num, by rw [HU.out], K2, HT2.out, HC2.out⟩
              case measure => simp [intOf]; omega
            | some y =>
              rw [hmn] at hu
              simp only at hu
              have hy := minUp_ge HG.out r j o t y (by rw [← HC.out]; exact hmn)
              obtain ⟨hy1, hy2⟩ := hy
              have hyn : decide (y < 0) = false := by rw [decide_eq_false_iff_not]; omega
              clear hmn hy2
              simp only [enc]
              by_cases hlt2 : x + S < y
              · rw [if_pos hlt2] at hu
                have HU := kept hu
                have hyd : decide (x + S < y) = true := decide_eq_true hlt2
                clear hu
                go_wp2_with (first | (go_at_call 24; refine HCall.out.mono ?_; rintro e w2 ⟨rfl, K2, hT2, hC2⟩; have d3 := hT2.blk.cell (i := 3) rfl; have dsum := (by have := (hT2.rs.cell (j := j + t) (Own.ints_at .i64 (sums g) (j + t) (by rw [length_sums]; omega))); rw [sums_at g (j + t) (by omega), ← HS.out] at this; exact this : w2.cell? ⟨gs, j + t, none⟩ = some (.int .i64 S)); have HT2 := kept hT2; have HC2 := kept (HC1.out.trans hC2 (fun _ _ h => h)); clear hT2 hC2))
                go_roundw
                case rel => exact ⟨t + 1, by omega, by go_num, by rw [HU.out], K2, HT2.out, HC2.out⟩
                case measure => simp [intOf]; omega
              · rw [if_neg hlt2] at hu
                have HU := kept hu
                have hyd : decide (x + S < y) = false := decide_eq_false hlt2
                clear hu
                go_wp2_with (first | (go_at_call 24; refine HCall.out.mono ?_; rintro e w2 ⟨rfl, K2, hT2, hC2⟩; have d3 := hT2.blk.cell (i := 3) rfl; have dsum := (by have := (hT2.rs.cell (j := j + t) (Own.ints_at .i64 (sums g) (j + t) (by rw [length_sums]; omega))); rw [sums_at g (j + t) (by omega), ← HS.out] at this; exact this : w2.cell? ⟨gs, j + t, none⟩ = some (.int .i64 S)); have HT2 := kept hT2; have HC2 := kept (HC1.out.trans hC2 (fun _ _ h => h)); clear hT2 hC2))
                go_roundw
                case rel => exact ⟨t + 1, by omega, by go_num, by rw [HU.out], K2, HT2.out, HC2.out⟩
                case measure => simp [intOf]; omega
        · have hto1 : t = o + 1 := by omega
          subst hto1
          have d2 := hT1.blk.cell (i := 2) rfl
          have hKl1 := hT1.good.len
          have df := hT1.rk.free m
          have dk := hT1.rk.cell (j := m) (Own.ints_at .i64 K1 m (by rw [hKl1]; exact hm2))
          rw [← HD.out]
          obtain ⟨z, hz⟩ : ∃ z, z = enc (dp (r + 1) (g.drop j) o) := ⟨_, rfl⟩
          have hz1 : -1 ≤ z ∧ z ≤ 20000000000 := by
            rw [hz]
            cases e : dp (r + 1) (g.drop j) o with
            | none => simp [enc]
            | some x => have := dp_le _ _ _ _ (HG.out.drop j) e; simp only [enc]; omega
          obtain ⟨hz1a, hz1b⟩ := hz1
          have hst := hT1.store m (z + 2) (by
            have := hT1.good.set (d := d) (j := j) (o := o) hd hd15 (by omega) (by omega) hlim
            rw [← HM.out, show lim + 1 - d = r + 1 by omega, ← hz] at this; exact this)
          rw [← hz]
          have HZ := kept hz
          have HS := kept hst
          have HC1 := kept hC1
          clear hT1 hC1 hst hz c0 c1 c2 ck2
          go_wp2_with fail
          go_ret
          exact ⟨by rw [← HZ.out]; rfl, _, HS.out, HC1.out.trans (Chg.setCell _ _ _) (fun b _ e => by rw [e]; rfl)⟩
    · obtain ⟨r', rfl⟩ : ∃ r', r' = r := ⟨r, rfl⟩
      exact cost_known g lim p vf vk vs K r' d j o w hT hg hjl hjo ho1 hd hlim hr (by rw [show lim + 1 - d = r' + 1 by omega] at hk; exact hk)
end Go.Proofs.Ytejecpmfhgplmaa

-- ---- Af
/- 'append' onto a slice that is full (its length is its capacity): the result lies in a block of its own. No program in sight. -/
namespace Go.Proofs.Ytejecpmfhgplmaa.Own
set_option linter.unusedSimpArgs false
set_option linter.unusedVariables false
open Go Go.RowKit

theorem zeroCells_size (z : Array Value) (n : Nat) (h : z.size = 1) : (Builtin.zeroCells z n).size = n := by
  have := Go.size_zeroCells z n
  rw [h] at this
  simpa using this

section
variable {P : Program} {w : World}
theorem run_append_full (t ty e : TypeId) (i : TypeInfo) (z : Value) (bytes : Nat) (ht : P.underlying t = some (.slice e)) (hi : P.info? e = some i) (hz : i.zero = some z)
    (hsize : i.size = 1) (hby : i.bytes = bytes) (hzs : z.cells.size = 1)
    (A : Option Addr) (k : Nat) (xs : List Value) (hx : Rd w (.slice A k k) xs) (A2 : Option Addr) (m c : Nat) (ys : List Value) (hy : Rd w (.slice A2 m c) ys) (hm : 0 < m)
    (h63 : k + m ≤ maxLen) (hbytes : ((k + m) + (k + m) / 4 + 192) * bytes ≤ 281474976710656) :
    ∃ v' w', (Builtin.append_ #[t, t] ty #[.slice A k k, .slice A2 m c]).run P w = .ok v' w' ∧ Owns w' e v' (xs ++ ys) ∧ Below w.heap.size w w' ∧ ∀ g, v'.ownBlock = some g → w.heap.size ≤ g := by
  have hk := hx.length
  have hml := hy.length
  subst hk
  subst hml
  obtain ⟨y0, hy0⟩ : ∃ y0, ys[0]? = some y0 := ⟨ys[0], List.getElem?_eq_getElem hm⟩
  obtain ⟨a2, rfl, _⟩ := hy.at hy0
  have hnews : ∀ j u, ys[j]? = some u → w.cell? (a2.add j) = some u := fun j u hu => by
    obtain ⟨x, hxx, hc⟩ := hy.at hu
    cases hxx
    exact hc
  have hge := grownCap_ge w (xs.length + ys.length) xs.length e
  have hle := grownCap_le_maxLen w (xs.length + ys.length) xs.length e h63
  have fin : ∀ C cap, C.size = cap → cap = grownCap w (xs.length + ys.length) xs.length e → C.toList.take (xs.length + ys.length) = xs ++ ys →
      Owns (w.drew.alloc (.cells C e)) e (.slice (some ⟨w.heap.size, 0, none⟩) (xs.length + ys.length) cap) (xs ++ ys) ∧ Below w.heap.size w (w.drew.alloc (.cells C e)) ∧ ∀ g, (Value.slice (some ⟨w.heap.size, 0, none⟩) (xs.length + ys.length) cap).ownBlock = some g → w.heap.size ≤ g := by
    intro C cap h1 h2 h3
    have hb : Blk (w.drew.alloc (.cells C e)) w.heap.size C e := Blk.fresh w.drew C e
    refine ⟨?_, ((Below.refl w.heap.size w).drew).alloc (Nat.le_refl _) _, fun g hg => ?_⟩
    · have := Owns.mk (xs := xs ++ ys) hb (by rw [List.length_append]; omega) (by omega) h1 (by rw [List.length_append]; exact h3)
      rwa [List.length_append] at this
    · simp [Value.ownBlock] at hg; omega
  cases A with
  | none =>
    have h0 : xs = [] := by
      cases xs with
      | nil => rfl
      | cons u t => obtain ⟨x, hx2, _⟩ := hx.at (i := 0) (u := u) rfl; cases hx2
    subst h0
    have hr := run_append_nil (P := P) (w := w) t ty e i z ht hi hz a2 ys.length c ys (by rw [hsize, Nat.mul_one]) hnews hm (by simp only [maxLen] at h63; simp at h63; omega) (by rw [hby]; simp at hbytes; exact Nat.le_trans (Nat.mul_le_mul_right _ (by omega)) hbytes)
    simp only [List.length_nil, Nat.zero_add, List.nil_append] at fin hge ⊢
    refine ⟨_, _, hr, fin _ _ ?_ rfl ?_⟩
    · simp [zeroCells_size _ _ hzs]; omega
    · simp
  | some b =>
    have holds : ∀ j v, xs[j]? = some v → w.cell? (b.add j) = some v := fun j u hu => by
      obtain ⟨x, hxx, hc⟩ := hx.at hu
      cases hxx
      exact hc
    have hr := run_append_grow (P := P) (w := w) t ty e i z ht hi hz b xs.length xs.length xs (by rw [hsize, Nat.mul_one]) holds a2 ys.length c ys (by rw [hsize, Nat.mul_one]) hnews (by omega) (by simp only [maxLen] at h63; omega) (by rw [hby]; exact growslice_fits_wide (by omega) hbytes)
    refine ⟨_, _, hr, fin _ _ ?_ rfl ?_⟩
    · simp [zeroCells_size _ _ hzs]; omega
    · simp only [Array.toList_append, List.toList_toArray]
      exact List.take_left' (by simp)

/-- The law at the operation. -/
theorem wpList_appFull {ops : Array Oper} {rest : List Oper} {o : Oper} {a : Act} {Q : Exit → Act → World → Prop} (hgd : o.guard = none) (s x : Operand) (t : TypeId)
    (ho : o.op = .call { callee := .builtin .append, args := #[s, x], argTypes := #[t, t] })
    (e : TypeId) (i : TypeInfo) (z : Value) (bytes : Nat) (ht : P.underlying t = some (.slice e)) (hi : P.info? e = some i) (hz : i.zero = some z)
    (hsize : i.size = 1) (hby : i.bytes = bytes) (hzs : z.cells.size = 1)
    (A : Option Addr) (k : Nat) (xs : List Value) (hs : a.eval s = .slice A k k) (hR : Rd w (.slice A k k) xs) (A2 : Option Addr) (m c : Nat) (ys : List Value) (hx : a.eval x = .slice A2 m c) (hy : Rd w (.slice A2 m c) ys) (hm : 0 < m)
    (h63 : k + m ≤ maxLen) (hbytes : ((k + m) + (k + m) / 4 + 192) * bytes ≤ 281474976710656)
    (h : ∀ v' w', Owns w' e v' (xs ++ ys) → Below w.heap.size w w' → (∀ g, v'.ownBlock = some g → w.heap.size ≤ g) → wpList P ops Q rest (a.put o.dst v') w') : wpList P ops Q (o :: rest) a w :=
  wpList_plain hgd fun K hK => by
    obtain ⟨v', w', hr, h2, h3, h4⟩ := run_append_full (P := P) t o.type e i z bytes ht hi hz hsize hby hzs A k xs hR A2 m c ys hy hm h63 hbytes
    unfold Oper.wp execOp
    simp only [ho, resolve, invoke, builtin, Sem.run_bind, Sem.run_pure, Result.andThen_ok, List.map_toArray, List.map_cons, List.map_nil, hs, hx, hr]
    exact hK _ _ (h v' w' h2 h3 h4)

/-- 'append' of what can be read, nil or not, onto a row of one's own. -/
theorem wpList_appRd {ops : Array Oper} {rest : List Oper} {o : Oper} {a : Act} {Q : Exit → Act → World → Prop} (hgd : o.guard = none) (s x : Operand) (t : TypeId)
    (ho : o.op = .call { callee := .builtin .append, args := #[s, x], argTypes := #[t, t] })
    (e : TypeId) (i : TypeInfo) (z : Value) (bytes : Nat) (ht : P.underlying t = some (.slice e)) (hi : P.info? e = some i) (hz : i.zero = some z)
    (hsize : i.size = 1) (hby : i.bytes = bytes) (hzs : z.cells.size = 1)
    (v : Value) (xs : List Value) (hs : a.eval s = v) (hown : Owns w e v xs)
    (A2 : Option Addr) (m c : Nat) (ys : List Value) (hx : a.eval x = .slice A2 m c) (hy : Rd w (.slice A2 m c) ys) (hnil : A2 = none → c = 0) (h1 : ∀ u ∈ ys, u.oneCell' = true)
    (h63 : xs.length + m ≤ maxLen) (hbytes : (xs.length + m) * bytes ≤ 140737488355328)
    (h : ∀ v' w', Owns w' e v' (xs ++ ys) → Chg (fun k => some k = v.ownBlock) w w' → (∀ g, v'.ownBlock = some g → some g = v.ownBlock ∨ w.heap.size ≤ g) → wpList P ops Q rest (a.put o.dst v') w') : wpList P ops Q (o :: rest) a w := by
  have hml := hy.length
  cases A2 with
  | some ad =>
    refine wpList_app hgd s x t ho e i z bytes ht hi hz hsize hby hzs v xs hs hown ad m c ys hx hml.symm (fun j u hu => ?_) h1 h63 hbytes h
    obtain ⟨x', hxx, hc⟩ := hy.at hu
    cases hxx
    exact hc
  | none =>
    have h0 : ys = [] := by
      cases ys with
      | nil => rfl
      | cons u t => obtain ⟨x, hx2, _⟩ := hy.at (i := 0) (u := u) rfl; cases hx2
    subst h0
    have hm0 : m = 0 := hml
    subst hm0
    have hc0 := hnil rfl
    subst hc0
    refine wpList_plain hgd fun K hK => ?_
    have hr := run_append_owned_none (P := P) (w := w) 0 t o.type e i 1 ht hi v xs.length xs hown
    unfold Oper.wp execOp
    simp only [ho, resolve, invoke, builtin, Sem.run_bind, Sem.run_pure, Result.andThen_ok, List.map_toArray, List.map_cons, List.map_nil, hs, hx, hr]
    exact hK _ _ (h v w (by simpa using hown) (Chg.refl _ _) fun g hg => .inl hg.symm)
end
end Go.Proofs.Ytejecpmfhgplmaa.Own
