/- A rule for a region that draws its order: some operations are taken first (in an order of the prover's choice), then a chain that is forced. Conditions: the Bool 'Region.mixB' over the region's own text. -/
import Derived.OrdersHeld
import Derived.StillTail
import Derived.Deep.Quiet
import Derived.Below
namespace Go.Proofs.Ytdbnmijnjfbibaa.Mix
set_option linter.unusedSimpArgs false
set_option linter.unusedVariables false
open Go Go.RowKit

/-- A tree without a store, a freeze, a written object, a system's call. -/
def Grows {α : Type} : Sem α → Prop
  | .pure _ => True
  | .load _ _ k => ∀ v, Grows (k v)
  | .store .. => False
  | .new _ k => ∀ n, Grows (k n)
  | .shape _ k => ∀ s, Grows (k s)
  | .freeze .. => False
  | .frozen _ k => ∀ b, Grows (k b)
  | .getObj _ k => ∀ o, Grows (k o)
  | .setObj .. => False
  | .choose _ k => ∀ n, Grows (k n)
  | .sys .. => False
  | .program k => ∀ p, Grows (k p)
  | .mark _ k => Grows k
  | .halt _ => True

theorem Grows.bind {α β : Type} {s : Sem α} {f : α → Sem β} (h : Grows s) (hf : ∀ a, Grows (f a)) : Grows (s.bind f) := by
  induction s with
  | pure a => exact hf a
  | load m a k ih => exact fun v => ih v (h v)
  | store m a v k ih => exact h.elim
  | new o k ih => exact fun n => ih n (h n)
  | shape r k ih => exact fun v => ih v (h v)
  | freeze a n k ih => exact h.elim
  | frozen a k ih => exact fun v => ih v (h v)
  | getObj r k ih => exact fun v => ih v (h v)
  | setObj r o k ih => exact h.elim
  | choose q k ih => exact fun v => ih v (h v)
  | sys c k ih => exact h.elim
  | program k ih => exact fun v => ih v (h v)
  | mark m k ih => exact ih h
  | halt x => exact trivial

theorem Grows.run {α : Type} (P : Program) {s : Sem α} (h : Grows s) : ∀ w x w', s.run P w = .ok x w' → Below w.heap.size w w' := by
  induction s with
  | pure a => intro w x w' e; simp only [Sem.run, Result.ok.injEq] at e; rw [← e.2]; exact Below.refl _ _
  | load m a k ih =>
    intro w x w' e
    simp only [Sem.run] at e
    split at e
    · exact ih _ (h _) _ _ _ e
    · split at e
      · exact ih _ (h _) _ _ _ e
      · cases e
  | store m a v k ih => exact h.elim
  | new o k ih =>
    intro w x w' e
    simp only [Sem.run] at e
    have := ih _ (h _) _ _ _ e
    exact ((Below.refl w.heap.size w).alloc (Nat.le_refl _) o).trans (this.mono (by simp))
  | shape r k ih => intro w x w' e; exact ih _ (h _) _ _ _ (by simpa only [Sem.run] using e)
  | freeze a n k ih => exact h.elim
  | frozen a k ih => intro w x w' e; exact ih _ (h _) _ _ _ (by simpa only [Sem.run] using e)
  | getObj r k ih =>
    intro w x w' e
    simp only [Sem.run] at e
    split at e
    · cases e
    · exact ih _ (h _) _ _ _ e
    · cases e
  | setObj r o k ih => exact h.elim
  | choose q k ih =>
    intro w x w' e
    simp only [Sem.run] at e
    split at e
    · exact ih _ (h _) _ _ _ e
    · have := ih _ (h _) _ _ _ e
      exact ((Below.refl w.heap.size w).drew).trans this
  | sys c k ih => exact h.elim
  | program k ih => intro w x w' e; exact ih _ (h _) _ _ _ (by simpa only [Sem.run] using e)
  | mark m k ih => intro w x w' e; exact ih h _ _ _ (by simpa only [Sem.run] using e)
  | halt x => intro w x w' e; simp [Sem.run] at e

/-- A tree all of whose ends are values. -/
def Vals : Sem Next → Prop
  | .pure n => ∃ u, n = .value u
  | .load _ _ k => ∀ v, Vals (k v)
  | .store _ _ _ k => Vals k
  | .new _ k => ∀ n, Vals (k n)
  | .shape _ k => ∀ s, Vals (k s)
  | .freeze _ _ k => Vals k
  | .frozen _ k => ∀ b, Vals (k b)
  | .getObj _ k => ∀ o, Vals (k o)
  | .setObj _ _ k => Vals k
  | .choose _ k => ∀ n, Vals (k n)
  | .sys _ k => ∀ r, Vals (k r)
  | .program k => ∀ p, Vals (k p)
  | .mark _ k => Vals k
  | .halt _ => True

theorem Vals.bind {α : Type} {f : α → Sem Next} (hf : ∀ a, Vals (f a)) : ∀ s : Sem α, Vals (s.bind f) := by
  intro s
  induction s with
  | pure a => exact hf a
  | load m a k ih => exact fun v => ih v
  | store m a v k ih => exact ih
  | new o k ih => exact fun v => ih v
  | shape r k ih => exact fun v => ih v
  | freeze a n k ih => exact ih
  | frozen a k ih => exact fun v => ih v
  | getObj r k ih => exact fun v => ih v
  | setObj r o k ih => exact ih
  | choose q k ih => exact fun v => ih v
  | sys c k ih => exact fun v => ih v
  | program k ih => exact fun v => ih v
  | mark m k ih => exact ih
  | halt x => exact trivial

theorem Vals.run {P : Program} : ∀ (s : Sem Next), Vals s → ∀ w n w', s.run P w = .ok n w' → ∃ u, n = .value u := by
  intro s
  induction s with
  | pure a => intro h w n w' e; simp only [Sem.run, Result.ok.injEq] at e; rw [← e.1]; exact h
  | load m a k ih =>
    intro h w n w' e
    simp only [Sem.run] at e
    split at e
    · exact ih _ (h _) _ _ _ e
    · split at e
      · exact ih _ (h _) _ _ _ e
      · cases e
  | store m a v k ih =>
    intro h w n w' e
    cases v <;> simp only [Sem.run] at e <;> first
      | (cases e; done)
      | (split at e
         · split at e
           · cases e
           · exact ih h _ _ _ e
         · split at e
           · exact ih h _ _ _ e
           · cases e)
  | new o k ih => intro h w n w' e; exact ih _ (h _) _ _ _ (by simpa only [Sem.run] using e)
  | shape r k ih => intro h w n w' e; exact ih _ (h _) _ _ _ (by simpa only [Sem.run] using e)
  | freeze a m k ih => intro h w n w' e; exact ih h _ _ _ (by simpa only [Sem.run] using e)
  | frozen a k ih => intro h w n w' e; exact ih _ (h _) _ _ _ (by simpa only [Sem.run] using e)
  | getObj r k ih =>
    intro h w n w' e
    simp only [Sem.run] at e
    split at e
    · cases e
    · exact ih _ (h _) _ _ _ e
    · cases e
  | setObj r o k ih =>
    intro h w n w' e
    simp only [Sem.run] at e
    split at e
    · cases e
    · exact ih h _ _ _ e
    · cases e
  | choose q k ih =>
    intro h w n w' e
    simp only [Sem.run] at e
    split at e
    · exact ih _ (h _) _ _ _ e
    · exact ih _ (h _) _ _ _ e
  | sys c k ih => intro h w n w' e; exact ih _ (h _) _ _ _ (by simpa only [Sem.run] using e)
  | program k ih => intro h w n w' e; exact ih _ (h _) _ _ _ (by simpa only [Sem.run] using e)
  | mark m k ih => intro h w n w' e; exact ih h _ _ _ (by simpa only [Sem.run] using e)
  | halt x => intro _ w n w' e; simp [Sem.run] at e

theorem vals_bind {α : Type} {s : Sem α} {f : α → Sem Next} (hf : ∀ a, Vals (f a)) : Vals (s >>= f) := Vals.bind hf s

/-- Operations that may be taken first. -/
def headOp : Op → Bool
  | .move _ | .assign _ | .pick .. | .load .. | .binOp .. | .unOp .. | .convert .. | .fieldAddr .. | .field .. | .indexAddr .. | .index .. | .slice .. | .extract .. | .makeFunc .. | .nilCheck _ => true
  | .call { callee := .builtin .len, .. } => true
  | _ => false

/-- Operations that lay a new block and do nothing else. -/
def newOp : Op → Bool
  | .buildSlice .. | .box .. | .makeSlice .. => true
  | _ => false

theorem head_vals (ρ : Operand → Value) (o : Oper) (h : headOp o.op = true) : Vals (execOp ρ o) := by
  obtain ⟨dst, op, type, pos, after, guard⟩ := o
  cases op <;> simp only [headOp] at h <;> first
    | (cases h; done)
    | (simp only [execOp]; refine vals_bind ?_; intro _; exact ⟨_, rfl⟩)
    | (simp only [execOp]; exact ⟨_, rfl⟩)
    | skip
  case nilCheck x =>
    simp only [execOp]
    generalize ρ x = v
    split
    · exact fun p => trivial
    · exact fun p => trivial
    · exact fun p => trivial
    · split
      · exact fun p => trivial
      · refine vals_bind ?_; intro _
        refine vals_bind ?_; intro _
        split
        · refine vals_bind ?_; intro _; exact ⟨_, rfl⟩
        · exact ⟨_, rfl⟩
      · exact ⟨_, rfl⟩
    · exact ⟨_, rfl⟩
  case call c =>
    obtain ⟨callee, args, argTypes⟩ := c
    cases callee <;> first | (simp at h; done) | skip
    case builtin b =>
      cases b <;> first | (simp at h; done) | skip
      exact (vals_bind (s := Builtin.len_ argTypes type (args.map ρ)) (f := fun v => pure (Next.value v)) fun v => ⟨_, rfl⟩)

theorem new_vals (ρ : Operand → Value) (o : Oper) (h : newOp o.op = true) : Vals (execOp ρ o) := by
  obtain ⟨dst, op, type, pos, after, guard⟩ := o
  cases op <;> simp only [newOp] at h <;> first
    | (cases h; done)
    | (simp only [execOp]; refine vals_bind ?_; intro _; exact ⟨_, rfl⟩)

theorem grows_pure {α : Type} (a : α) : Grows (pure a : Sem α) := trivial
theorem grows_stuck {α : Type} (s : String) : Grows (stuck s : Sem α) := trivial
theorem grows_unsupported {α : Type} (s : Unsupported) : Grows (unsupported s : Sem α) := trivial
theorem grows_bind {α β : Type} {s : Sem α} {f : α → Sem β} (h : Grows s) (hf : ∀ a, Grows (f a)) : Grows (s >>= f) := Grows.bind h hf
theorem grows_program : Grows program := fun _ => trivial
theorem grows_typeInfo (t : TypeId) : Grows (typeInfo t) := grows_bind grows_program fun p => by (try dsimp only); split <;> trivial
theorem grows_underlying (t : TypeId) : Grows (underlying t) := grows_bind grows_program fun p => by (try dsimp only); split <;> trivial
theorem grows_sizeOf (t : TypeId) : Grows (sizeOf t) := grows_bind (grows_typeInfo t) fun _ => trivial
theorem grows_zeroValue (t : TypeId) : Grows (zeroValue t) := grows_bind (grows_typeInfo t) fun i => by (try dsimp only); split <;> trivial
theorem grows_newRow (t : TypeId) (c : Array Value) : Grows (newRow t c) := grows_bind (fun _ => trivial) fun _ => trivial
theorem grows_elemOf (t : TypeId) : Grows (elemOf t) := grows_bind (grows_underlying t) fun _ => by (try dsimp only); split <;> trivial
theorem grows_goPanic {α : Type} (v : Value) : Grows (goPanic v : Sem α) := trivial
theorem grows_runtimePanic {α : Type} (e : RuntimeError) : Grows (runtimePanic e : Sem α) := grows_bind grows_program fun _ => by
  (try dsimp only)
  split <;> first
    | exact grows_goPanic _
    | (refine grows_bind (grows_elemOf _) fun _ => ?_; refine grows_bind (grows_newRow _ _) fun _ => ?_; exact grows_goPanic _)
theorem grows_asIntOf (v : Value) : Grows (asIntOf v) := by unfold asIntOf; split <;> trivial
theorem grows_asInt (v : Value) : Grows (asInt v) := by unfold asInt; exact grows_bind (grows_asIntOf v) fun _ => trivial
theorem grows_askRoom (n : Nat) : Grows (askRoom n) := by unfold askRoom; split <;> trivial
theorem grows_choose (q : Question) : Grows (choose q) := fun _ => trivial

theorem grows_box (e : TypeId) (v : Value) : Grows (Instr.box e v) := grows_bind (grows_newRow _ _) fun _ => trivial
theorem grows_buildSlice (t : TypeId) (n : Nat) (ps : Array (Nat × Value)) : Grows (Instr.buildSlice t n ps) := by
  unfold Instr.buildSlice
  repeat' first
    | exact trivial
    | exact grows_underlying _
    | exact grows_sizeOf _
    | exact grows_zeroValue _
    | exact grows_newRow _ _
    | exact grows_stuck _
    | exact grows_unsupported _
    | refine grows_bind ?_ (fun _ => ?_)
    | split
    | dsimp only
theorem grows_makeSlice (t : TypeId) (a b : Value) : Grows (Instr.makeSlice t a b) := by
  unfold Instr.makeSlice
  repeat' first
    | exact trivial
    | exact grows_underlying _
    | exact grows_sizeOf _
    | exact grows_zeroValue _
    | exact grows_newRow _ _
    | exact grows_typeInfo _
    | exact grows_asInt _
    | exact grows_askRoom _
    | exact grows_choose _
    | exact grows_runtimePanic _
    | exact grows_stuck _
    | exact grows_unsupported _
    | refine grows_bind ?_ (fun _ => ?_)
    | split
    | dsimp only

theorem new_grows (ρ : Operand → Value) (o : Oper) (h : newOp o.op = true) : Grows (execOp ρ o) := by
  obtain ⟨dst, op, type, pos, after, guard⟩ := o
  cases op <;> simp only [newOp] at h <;> first
    | (cases h; done)
    | (simp only [execOp]; exact grows_bind (grows_box _ _) fun _ => trivial)
    | (simp only [execOp]; exact grows_bind (grows_buildSlice _ _ _) fun _ => trivial)
    | (simp only [execOp]; exact grows_bind (grows_makeSlice _ _ _) fun _ => trivial)

section
variable {P : Program} {ops : Array Oper} {Q : Exit → Act → World → Prop} {md : Region.Mode} {C : World → Prop}

/-- Whatever order is picked from here on: what is in 'h1' yields in every world, what is in 'h2' in every world of the class, the rest is carried out. -/
def wpM (P : Program) (md : Region.Mode) (ops : Array Oper) (Q : Exit → Act → World → Prop) (C : World → Prop) (h1 h2 : List Nat) : Nat → Array Bool → Act → World → Prop
  | 0, listed, a, w => Region.ready md ops listed = [] ∧ Q .normal a w
  | fuel + 1, listed, a, w =>
    (Region.ready md ops listed = [] → Q .normal a w) ∧
    ∀ i ∈ Region.ready md ops listed,
      if i ∈ h1 then ∃ o v, ops[i]? = some o ∧ Yields P ops o v a ∧ wpM P md ops Q C h1 h2 fuel (listed.setIfInBounds i true) (a.put o.dst v) w
      else if i ∈ h2 then ∃ o v, ops[i]? = some o ∧ C w ∧ YieldsIf P ops C o v a ∧ wpM P md ops Q C h1 h2 fuel (listed.setIfInBounds i true) (a.put o.dst v) w
      else wpOp P ops Q i (wpM P md ops Q C h1 h2 fuel (listed.setIfInBounds i true)) a w

theorem wpAny_of_M {h1 h2 : List Nat} : ∀ (fuel : Nat) (listed : Array Bool) (a : Act) (w : World), wpM P md ops Q C h1 h2 fuel listed a w → wpAny P md ops Q fuel listed a w
  | 0, _, _, _, h => h
  | fuel + 1, listed, a, w, h => ⟨h.1, fun i hi => by
      have h2 := h.2 i hi
      split at h2
      · obtain ⟨o, v, ho, hy, hm⟩ := h2
        exact hy.wpOp ho (wpAny_of_M fuel _ _ _ hm)
      · split at h2
        · obtain ⟨o, v, ho, hc, hy, hm⟩ := h2
          exact hy.wpOp ho hc (wpAny_of_M fuel _ _ _ hm)
        · exact wpOp_mono (fun a' w' h' => wpAny_of_M fuel _ a' w' h') h2⟩

theorem yields_put {oi oj : Oper} {a : Act} {v : Value} (hsj : ∀ cs b, oj.op ≠ .select cs b) (hap : oi.apart ops oj = true) {u : Value} (h : Yields P ops oj u (a.put oi.dst v)) : Yields P ops oj u a := by
  obtain ⟨h1, _, _⟩ := Oper.apart_spec hap
  exact h.of_same (execOp_put oj hsj a oi.dst v h1).symm (wanted_put oj a oi.dst v h1).symm

theorem yieldsIf_put {oi oj : Oper} {a : Act} {v : Value} (hsj : ∀ cs b, oj.op ≠ .select cs b) (hap : oi.apart ops oj = true) {u : Value} (h : YieldsIf P ops C oj u (a.put oi.dst v)) : YieldsIf P ops C oj u a := by
  obtain ⟨h1, _, _⟩ := Oper.apart_spec hap
  exact h.of_same (execOp_put oj hsj a oi.dst v h1).symm (wanted_put oj a oi.dst v h1).symm

theorem yields_put' {oi oj : Oper} {a : Act} {v : Value} (hsi : ∀ cs b, oi.op ≠ .select cs b) (hap : oi.apart ops oj = true) (u : Value) (h : Yields P ops oi v a) : Yields P ops oi v (a.put oj.dst u) := by
  obtain ⟨_, _, h3⟩ := Oper.apart_spec hap
  exact h.of_same (execOp_put oi hsi a oj.dst u h3) (wanted_put oi a oj.dst u h3)

theorem yieldsIf_put' {oi oj : Oper} {a : Act} {v : Value} (hsi : ∀ cs b, oi.op ≠ .select cs b) (hap : oi.apart ops oj = true) (u : Value) (h : YieldsIf P ops C oi v a) : YieldsIf P ops C oi v (a.put oj.dst u) := by
  obtain ⟨_, _, h3⟩ := Oper.apart_spec hap
  exact h.of_same (execOp_put oi hsi a oj.dst u h3) (wanted_put oi a oj.dst u h3)

theorem not_waits {i : Nat} {oj : Oper} {listed : Array Bool} (hr : i ∈ Region.ready md ops listed) (hall : ∀ e ∈ oj.after, Region.binds md e = true → listed.getD e.on false = true) :
    ∀ e ∈ oj.after, Region.binds md e = true → e.on ≠ i := fun e he hb heq => by
  have h1 := hall e he hb
  have h0 := (mem_ready.1 hr).1
  rw [heq] at h1
  rcases Nat.lt_or_ge i listed.size with h' | h'
  · simp [h'] at h0 h1; rw [h0] at h1; cases h1
  · simp [Array.getElem?_eq_none h'] at h1

/-- What 'free' asks, for all that has not come up. -/
def Free (md : Region.Mode) (ops : Array Oper) (i : Nat) (oi : Oper) (listed : Array Bool) : Prop :=
  ∀ j oj, ops[j]? = some oj → j ≠ i → listed.getD j true = false → (∀ e ∈ oj.after, Region.binds md e = true → e.on ≠ i) → oi.apart ops oj = true

theorem Free.set {i j : Nat} {oi : Oper} {listed : Array Bool} (h : Free md ops i oi listed) (hjun : listed.getD j true = false) : Free md ops i oi (listed.setIfInBounds j true) := fun k ok hk hki hun hno => by
  refine h k ok hk hki ?_ hno
  by_cases hjk : j = k
  · subst hjk; exact hjun
  · rw [getD_set_ne true hjk] at hun; exact hun

theorem wpM_first1 {h1 h2 : List Nat} {i : Nat} {oi : Oper} {v : Value} (hi : ops[i]? = some oi) (hi1 : i ∈ h1) (hsel : ∀ (j : Nat) (o : Oper) cs b, ops[j]? = some o → o.op ≠ .select cs b)
    (hQ : ∀ c a w, Q (.panic c) (a.put oi.dst v) w → Q (.panic c) a w) :
    ∀ (fuel : Nat) (listed : Array Bool) (a : Act) (w : World), Free md ops i oi listed →
      i ∈ Region.ready md ops listed → Yields P ops oi v a →
      wpM P md ops Q C h1 h2 fuel (listed.setIfInBounds i true) (a.put oi.dst v) w → wpM P md ops Q C h1 h2 (fuel + 1) listed a w := by
  intro fuel
  induction fuel with
  | zero =>
    intro listed a w _ hr hy H
    refine ⟨fun h => (by rw [h] at hr; cases hr), fun j hj => ?_⟩
    by_cases hji : j = i
    · subst hji; rw [if_pos hi1]; exact ⟨oi, v, hi, hy, H⟩
    · have := ready_mono hj hji
      rw [H.1] at this
      cases this
  | succ fuel ih =>
    intro listed a w hfree hr hy H
    refine ⟨fun h => (by rw [h] at hr; cases hr), fun j hj => ?_⟩
    by_cases hji : j = i
    · subst hji; rw [if_pos hi1]; exact ⟨oi, v, hi, hy, H⟩
    · have hH := H.2 j (ready_mono hj hji)
      obtain ⟨hjun, oj, hoj, hall⟩ := mem_ready.1 hj
      have hap := hfree j oj hoj hji hjun (not_waits hr hall)
      have hfree' := hfree.set hjun
      have hr' := ready_mono hr (Ne.symm hji)
      obtain ⟨_, hne, _⟩ := Oper.apart_spec hap
      split at hH
      · rename_i hj1
        obtain ⟨o, u, ho, hyj, hm⟩ := hH
        have e : oj = o := Option.some.inj (hoj.symm.trans ho)
        subst e
        rw [if_pos hj1]
        refine ⟨oj, u, hoj, yields_put (fun cs b => hsel j oj cs b hoj) hap hyj, ih _ _ _ hfree' hr' (yields_put' (fun cs b => hsel i oi cs b hi) hap u hy) ?_⟩
        rw [Array.setIfInBounds_comm _ _ hji, ← Act.put_comm a v u hne]
        exact hm
      · rename_i hj1
        split at hH
        · rename_i hj2
          obtain ⟨o, u, ho, hc, hyj, hm⟩ := hH
          have e : oj = o := Option.some.inj (hoj.symm.trans ho)
          subst e
          rw [if_neg hj1, if_pos hj2]
          refine ⟨oj, u, hoj, hc, yieldsIf_put (fun cs b => hsel j oj cs b hoj) hap hyj, ih _ _ _ hfree' hr' (yields_put' (fun cs b => hsel i oi cs b hi) hap u hy) ?_⟩
          rw [Array.setIfInBounds_comm _ _ hji, ← Act.put_comm a v u hne]
          exact hm
        · rename_i hj2
          rw [if_neg hj1, if_neg hj2]
          have h2 := wpOp_put hoj hap (fun cs b => hsel i oi cs b hi) (fun cs b => hsel j oj cs b hoj) hQ hy hH
          refine wpOp_mono (fun a' w' h3 => ih (listed.setIfInBounds j true) a' w' hfree' hr' h3.1 ?_) h2
          rw [Array.setIfInBounds_comm _ _ hji]
          exact h3.2

/-- An operation that lays a block leaves the class. -/
theorem wpOp_new {j : Nat} {oj : Oper} (hoj : ops[j]? = some oj) (hn : newOp oj.op = true) (hC : ∀ w w', C w → Below w.heap.size w w' → C w') {K : Act → World → Prop} {a : Act} {w : World} (hw : C w)
    (h : wpOp P ops Q j K a w) : wpOp P ops Q j (fun a' w' => C w' ∧ K a' w') a w := by
  unfold wpOp at *
  simp only [hoj] at *
  split
  · rename_i hwant
    simp only [hwant, if_true] at h
    rcases h with h | h
    case inr => exact .inr h
    refine .inl ?_
    have hv := Vals.run (P := P) _ (new_vals a.eval oj hn) w
    have hg := Grows.run P (new_grows a.eval oj hn) w
    unfold Oper.wp at *
    generalize (execOp a.eval oj).run P w = r at *
    cases r with
    | ok n w' =>
      obtain ⟨u, rfl⟩ := hv n w' rfl
      exact ⟨hC _ _ hw (hg _ _ rfl), h⟩
    | halt x w' => cases x <;> simp only [Oper.upon] at h ⊢ <;> exact h
  · rename_i hwant
    simp only [hwant] at h
    exact ⟨hw, h⟩

/-- What has come up has come up behind all that it waits for. -/
def Closed (md : Region.Mode) (ops : Array Oper) (listed : Array Bool) : Prop :=
  ∀ j oj, ops[j]? = some oj → listed.getD j false = true → ∀ e ∈ oj.after, Region.binds md e = true → listed.getD e.on false = true

theorem Closed.set {i : Nat} {listed : Array Bool} (inv : Closed md ops listed) (hi : i ∈ Region.ready md ops listed) : Closed md ops (listed.setIfInBounds i true) := by
  obtain ⟨_, oi, hoi, hall⟩ := mem_ready.1 hi
  intro j oj hj hl e he hb
  by_cases hij : i = j
  · subst hij
    have : oj = oi := Option.some.inj (hj.symm.trans hoi)
    subst this
    exact getD_set_true (hall e he hb)
  · rw [getD_set_ne false hij] at hl
    exact getD_set_true (inv j oj hj hl e he hb)

/-- t waits for i, through others or not. -/
def anc (md : Region.Mode) (ops : Array Oper) : Nat → Nat → Nat → Bool
  | 0, _, _ => false
  | n + 1, t, i => match ops[t]? with
    | some ot => ot.after.any fun e => Region.binds md e && (e.on == i || anc md ops n e.on i)
    | none => false

theorem anc_listed {listed : Array Bool} (hc : Closed md ops listed) {i : Nat} : ∀ (n t : Nat) (ot : Oper), ops[t]? = some ot → (∀ e ∈ ot.after, Region.binds md e = true → listed.getD e.on false = true) → anc md ops n t i = true → listed.getD i false = true := by
  intro n
  induction n with
  | zero => intro t ot _ _ h; simp [anc] at h
  | succ n ih =>
    intro t ot hot hall h
    simp only [anc, hot] at h
    obtain ⟨e, he, hb⟩ := Array.any_eq_true'.1 h
    simp only [Bool.and_eq_true, Bool.or_eq_true, beq_iff_eq] at hb
    obtain ⟨hb1, hb2⟩ := hb
    have hl := hall e he hb1
    rcases hb2 with h1 | h1
    · rw [← h1]; exact hl
    · cases n with
      | zero => simp [anc] at h1
      | succ n =>
        cases ho : ops[e.on]? with
        | none => simp [anc, ho] at h1
        | some oe => exact ih e.on oe ho (fun e' he' hb' => hc e.on oe ho hl e' he' hb') h1

theorem wpM_first2 {h1 h2 : List Nat} {i n : Nat} {oi : Oper} {v : Value} (hi : ops[i]? = some oi) (hi1 : i ∉ h1) (hi2 : i ∈ h2) (hsel : ∀ (j : Nat) (o : Oper) cs b, ops[j]? = some o → o.op ≠ .select cs b)
    (hQ : ∀ c a w, Q (.panic c) (a.put oi.dst v) w → Q (.panic c) a w) (hC : ∀ w w', C w → Below w.heap.size w w' → C w')
    (htail : ∀ j oj, ops[j]? = some oj → j ∉ h1 → j ∉ h2 → newOp oj.op = true ∨ anc md ops n j i = true) :
    ∀ (fuel : Nat) (listed : Array Bool) (a : Act) (w : World), Free md ops i oi listed → Closed md ops listed →
      i ∈ Region.ready md ops listed → YieldsIf P ops C oi v a → C w →
      wpM P md ops Q C h1 h2 fuel (listed.setIfInBounds i true) (a.put oi.dst v) w → wpM P md ops Q C h1 h2 (fuel + 1) listed a w := by
  intro fuel
  induction fuel with
  | zero =>
    intro listed a w _ _ hr hy hw H
    refine ⟨fun h => (by rw [h] at hr; cases hr), fun j hj => ?_⟩
    by_cases hji : j = i
    · subst hji; rw [if_neg hi1, if_pos hi2]; exact ⟨oi, v, hi, hw, hy, H⟩
    · have := ready_mono hj hji
      rw [H.1] at this
      cases this
  | succ fuel ih =>
    intro listed a w hfree hcl hr hy hw H
    refine ⟨fun h => (by rw [h] at hr; cases hr), fun j hj => ?_⟩
    by_cases hji : j = i
    · subst hji; rw [if_neg hi1, if_pos hi2]; exact ⟨oi, v, hi, hw, hy, H⟩
    · have hH := H.2 j (ready_mono hj hji)
      obtain ⟨hjun, oj, hoj, hall⟩ := mem_ready.1 hj
      have hap := hfree j oj hoj hji hjun (not_waits hr hall)
      have hfree' := hfree.set hjun
      have hcl' := hcl.set hj
      have hr' := ready_mono hr (Ne.symm hji)
      obtain ⟨_, hne, _⟩ := Oper.apart_spec hap
      split at hH
      · rename_i hj1
        obtain ⟨o, u, ho, hyj, hm⟩ := hH
        have e : oj = o := Option.some.inj (hoj.symm.trans ho)
        subst e
        rw [if_pos hj1]
        refine ⟨oj, u, hoj, yields_put (fun cs b => hsel j oj cs b hoj) hap hyj, ih _ _ _ hfree' hcl' hr' (yieldsIf_put' (fun cs b => hsel i oi cs b hi) hap u hy) hw ?_⟩
        rw [Array.setIfInBounds_comm _ _ hji, ← Act.put_comm a v u hne]
        exact hm
      · rename_i hj1
        split at hH
        · rename_i hj2
          obtain ⟨o, u, ho, hc, hyj, hm⟩ := hH
          have e : oj = o := Option.some.inj (hoj.symm.trans ho)
          subst e
          rw [if_neg hj1, if_pos hj2]
          refine ⟨oj, u, hoj, hc, yieldsIf_put (fun cs b => hsel j oj cs b hoj) hap hyj, ih _ _ _ hfree' hcl' hr' (yieldsIf_put' (fun cs b => hsel i oi cs b hi) hap u hy) hw ?_⟩
          rw [Array.setIfInBounds_comm _ _ hji, ← Act.put_comm a v u hne]
          exact hm
        · rename_i hj2
          rw [if_neg hj1, if_neg hj2]
          have hnew : newOp oj.op = true := (htail j oj hoj hj1 hj2).resolve_right fun hanc => by
            have h1 := anc_listed hcl n j oj hoj hall hanc
            have h0 := getD_both (mem_ready.1 hr).1
            rw [h1] at h0; cases h0
          have h2 := wpOp_new hoj hnew hC hw (wpOp_putIf hoj hap (fun cs b => hsel i oi cs b hi) (fun cs b => hsel j oj cs b hoj) hQ hy hH)
          refine wpOp_mono (fun a' w' h3 => ih (listed.setIfInBounds j true) a' w' hfree' hcl' hr' h3.2.1 h3.1 ?_) h2
          rw [Array.setIfInBounds_comm _ _ hji]
          exact h3.2.2

/-! ### The Bool over a region's text -/
def marked (listed : Array Bool) : List Nat → Array Bool
  | [] => listed
  | i :: l => marked (listed.setIfInBounds i true) l

def hoistB (md : Region.Mode) (ops : Array Oper) : List Nat → Array Bool → Bool
  | [], _ => true
  | i :: l, listed => (Region.ready md ops listed).contains i && Region.free md ops listed i && (match ops[i]? with | some o => headOp o.op | none => false) && hoistB md ops l (listed.setIfInBounds i true)

def seqL (md : Region.Mode) (ops : Array Oper) : List Nat → Array Bool → Bool
  | [], listed => (Region.ready md ops listed).isEmpty
  | i :: l, listed => decide (Region.ready md ops listed = [i]) && seqL md ops l (listed.setIfInBounds i true)

def mixB (md : Region.Mode) (ops : Array Oper) (h1 h2 ts : List Nat) : Bool :=
  Region.noSelect ops && h2.all (fun i => !h1.contains i) && ts.all (fun i => !h1.contains i && !h2.contains i) &&
  (List.range ops.size).all (fun t => h1.contains t || h2.contains t || (match ops[t]? with | some o => newOp o.op | none => false) || h2.all fun i => anc md ops ops.size t i) &&
  hoistB md ops (h1 ++ h2) (Array.replicate ops.size false) && seqL md ops ts (marked (Array.replicate ops.size false) (h1 ++ h2)) && (decide (h1.length + h2.length + ts.length = ops.size))

def pick (l : List Oper) (h : List Nat) : List Oper := h.filterMap fun i => l[i]?

theorem quiet_run {o : Oper} {a : Act} {v : Value} (hh : headOp o.op = true) {w : World} (h : o.quietAt P a C w v) : (execOp a.eval o).run P w = .ok (.value v) w := by
  have hv := Vals.run (P := P) _ (head_vals a.eval o hh) w
  unfold Oper.quietAt at h
  generalize (execOp a.eval o).run P w = r at *
  cases r with
  | ok n w' =>
    obtain ⟨u, rfl⟩ := hv n w' rfl
    obtain ⟨rfl, rfl⟩ := h
    rfl
  | halt x w' => exact h.elim

theorem marked_append (l1 l2 : List Nat) : ∀ listed, marked listed (l1 ++ l2) = marked (marked listed l1) l2 := by
  induction l1 with
  | nil => intro _; rfl
  | cons i l ih => intro listed; exact ih _

theorem hoistB_append (l1 l2 : List Nat) : ∀ listed, hoistB md ops (l1 ++ l2) listed = (hoistB md ops l1 listed && hoistB md ops l2 (marked listed l1)) := by
  induction l1 with
  | nil => intro _; simp [hoistB, marked]
  | cons i l ih => intro listed; simp only [List.cons_append, hoistB, marked, ih, Bool.and_assoc]

theorem closed_marked (l : List Nat) : ∀ listed, hoistB md ops l listed = true → Closed md ops listed → Closed md ops (marked listed l) := by
  induction l with
  | nil => intro _ _ h; exact h
  | cons i l ih =>
    intro listed hB hc
    simp only [hoistB, Bool.and_eq_true] at hB
    exact ih _ hB.2 (hc.set (by simpa using hB.1.1.1))

theorem hoist1 {h1 h2 : List Nat} (hsel : Region.noSelect ops = true) (hQ : ∀ c a w d v, Q (.panic c) (a.put d v) w → Q (.panic c) a w) {Qa : Act → Prop} {w : World} {fuel : Nat} :
    ∀ (l : List Nat) (lo : List Oper) (listed : Array Bool) (a : Act), (∀ i ∈ l, i ∈ h1) → l.map (fun i => ops[i]?) = lo.map some → hoistB md ops l listed = true →
      (∀ a', Qa a' → wpM P md ops Q C h1 h2 fuel (marked listed l) a' w) → wpQuiet P ops (fun _ => True) Qa lo a → wpM P md ops Q C h1 h2 (fuel + l.length) listed a w := by
  intro l
  induction l with
  | nil => intro lo listed a _ hm _ hk h; cases lo with | nil => exact hk a h | cons _ _ => simp at hm
  | cons i l ih =>
    intro lo listed a hmem hm hB hk h
    cases lo with
    | nil => simp at hm
    | cons o lo =>
      simp only [List.map_cons, List.cons.injEq] at hm
      obtain ⟨ho, hm⟩ := hm
      simp only [hoistB, Bool.and_eq_true, ho] at hB
      obtain ⟨⟨⟨hr, hf⟩, hh⟩, hB⟩ := hB
      have ih' := fun a' h' => ih lo (listed.setIfInBounds i true) a' (fun j hj => hmem j (List.mem_cons_of_mem _ hj)) hm hB hk h'
      rw [List.length_cons, show fuel + (l.length + 1) = (fuel + l.length) + 1 by omega]
      unfold wpQuiet at h
      split at h
      · rename_i hw
        obtain ⟨v, hq, hn⟩ := h
        exact wpM_first1 ho (hmem i (by simp)) (Region.noSelect_spec hsel) (fun c a w => hQ c a w _ _) _ _ _ _ (Region.free_spec ho hf) (by simpa using hr) (.inl ⟨hw, fun w => quiet_run hh (hq w trivial)⟩) (ih' _ hn)
      · rename_i hw
        exact wpM_first1 ho (hmem i (by simp)) (Region.noSelect_spec hsel) (fun c a w => hQ c a w _ _) _ _ _ _ (Region.free_spec ho hf) (by simpa using hr) (.inr ⟨by simpa using hw, rfl⟩) (ih' _ h)

theorem hoist2 {h1 h2 : List Nat} (hsel : Region.noSelect ops = true) (hQ : ∀ c a w d v, Q (.panic c) (a.put d v) w → Q (.panic c) a w) (hC : ∀ w w', C w → Below w.heap.size w w' → C w')
    (h12 : ∀ i ∈ h2, i ∉ h1) (htail : ∀ j oj, ops[j]? = some oj → j ∉ h1 → j ∉ h2 → newOp oj.op = true ∨ ∀ i ∈ h2, anc md ops ops.size j i = true) {Qa : Act → Prop} {w : World} (hw : C w) {fuel : Nat} :
    ∀ (l : List Nat) (lo : List Oper) (listed : Array Bool) (a : Act), (∀ i ∈ l, i ∈ h2) → l.map (fun i => ops[i]?) = lo.map some → hoistB md ops l listed = true → Closed md ops listed →
      (∀ a', Qa a' → wpM P md ops Q C h1 h2 fuel (marked listed l) a' w) → wpQuiet P ops C Qa lo a → wpM P md ops Q C h1 h2 (fuel + l.length) listed a w := by
  intro l
  induction l with
  | nil => intro lo listed a _ hm _ _ hk h; cases lo with | nil => exact hk a h | cons _ _ => simp at hm
  | cons i l ih =>
    intro lo listed a hmem hm hB hc hk h
    cases lo with
    | nil => simp at hm
    | cons o lo =>
      simp only [List.map_cons, List.cons.injEq] at hm
      obtain ⟨ho, hm⟩ := hm
      simp only [hoistB, Bool.and_eq_true, ho] at hB
      obtain ⟨⟨⟨hr, hf⟩, hh⟩, hB⟩ := hB
      have hr' : i ∈ Region.ready md ops listed := by simpa using hr
      have ih' := fun a' h' => ih lo (listed.setIfInBounds i true) a' (fun j hj => hmem j (List.mem_cons_of_mem _ hj)) hm hB (hc.set hr') hk h'
      have hi2 := hmem i (by simp)
      have ht : ∀ j oj, ops[j]? = some oj → j ∉ h1 → j ∉ h2 → newOp oj.op = true ∨ anc md ops ops.size j i = true := fun j oj hj a b => (htail j oj hj a b).imp id (fun h => h i hi2)
      rw [List.length_cons, show fuel + (l.length + 1) = (fuel + l.length) + 1 by omega]
      unfold wpQuiet at h
      split at h
      · rename_i hwant
        obtain ⟨v, hq, hn⟩ := h
        exact wpM_first2 ho (h12 i hi2) hi2 (Region.noSelect_spec hsel) (fun c a w => hQ c a w _ _) hC ht _ _ _ _ (Region.free_spec ho hf) hc hr' (.inl ⟨hwant, fun w hw => quiet_run hh (hq w hw)⟩) hw (ih' _ hn)
      · rename_i hwant
        exact wpM_first2 ho (h12 i hi2) hi2 (Region.noSelect_spec hsel) (fun c a w => hQ c a w _ _) hC ht _ _ _ _ (Region.free_spec ho hf) hc hr' (.inr ⟨by simpa using hwant, rfl⟩) hw (ih' _ h)

theorem wpM_seq {h1 h2 : List Nat} : ∀ (l : List Nat) (lo : List Oper) (listed : Array Bool) (a : Act) (w : World), (∀ i ∈ l, i ∉ h1 ∧ i ∉ h2) → l.map (fun i => ops[i]?) = lo.map some → seqL md ops l listed = true →
    wpList P ops Q lo a w → wpM P md ops Q C h1 h2 l.length listed a w := by
  intro l
  induction l with
  | nil => intro lo listed a w _ hm hB h; cases lo with | nil => exact ⟨by simpa [seqL] using hB, h⟩ | cons _ _ => simp at hm
  | cons i l ih =>
    intro lo listed a w hmem hm hB h
    cases lo with
    | nil => simp at hm
    | cons o lo =>
      simp only [List.map_cons, List.cons.injEq] at hm
      obtain ⟨ho, hm⟩ := hm
      simp only [seqL, Bool.and_eq_true, decide_eq_true_eq] at hB
      refine ⟨fun h1 => (by rw [hB.1] at h1; cases h1), fun j hj => ?_⟩
      rw [hB.1] at hj
      have hji : j = i := by simpa using hj
      subst hji
      have hn := hmem j (by simp)
      rw [if_neg hn.1, if_neg hn.2]
      have hw : wpOp P ops Q j (wpList P ops Q lo) a w := by unfold wpOp; simp only [ho]; exact h
      exact wpOp_mono (fun a' w' h' => ih lo _ a' w' (fun k hk => hmem k (List.mem_cons_of_mem _ hk)) hm hB.2 h') hw

theorem pick_map {l : List Oper} : ∀ (h : List Nat), (∀ i ∈ h, i < l.length) → h.map (fun i => l.toArray[i]?) = (pick l h).map some := by
  intro h
  induction h with
  | nil => intro _; rfl
  | cons i h ih =>
    intro hlt
    have hi := hlt i (by simp)
    have e : l[i]? = some l[i] := List.getElem?_eq_getElem hi
    have ih' := ih fun j hj => hlt j (List.mem_cons_of_mem _ hj)
    have e2 : pick l (i :: h) = l[i] :: pick l h := by simp [pick, e]
    rw [e2, List.map_cons, List.map_cons, ih', ← e]
    simp

theorem hoistB_lt : ∀ (l : List Nat) (listed : Array Bool), hoistB md ops l listed = true → ∀ i ∈ l, i < ops.size := by
  intro l
  induction l with
  | nil => intro _ _ i hi; cases hi
  | cons j l ih =>
    intro listed hB i hi
    simp only [hoistB, Bool.and_eq_true] at hB
    rcases List.mem_cons.1 hi with rfl | hi
    · cases ho : ops[i]? with
      | none => simp [ho] at hB
      | some o => exact (Array.getElem?_eq_some_iff.1 ho).1
    · exact ih _ hB.2 i hi

theorem seqL_lt : ∀ (l : List Nat) (listed : Array Bool), seqL md ops l listed = true → ∀ i ∈ l, i < ops.size := by
  intro l
  induction l with
  | nil => intro _ _ i hi; cases hi
  | cons j l ih =>
    intro listed hB i hi
    simp only [seqL, Bool.and_eq_true, decide_eq_true_eq] at hB
    rcases List.mem_cons.1 hi with rfl | hi
    · have : i ∈ Region.ready md ops listed := by rw [hB.1]; simp
      obtain ⟨_, o, ho, _⟩ := mem_ready.1 this
      exact (Array.getElem?_eq_some_iff.1 ho).1
    · exact ih _ hB.2 i hi

/-- Behind a region: what follows, as a variable; no panic. -/
def Only (K : Act → World → Prop) : Exit → Act → World → Prop
  | .normal, a, w => K a w
  | _, _, _ => False

theorem wp_region_mix {id : Nat} {a : Act} {w : World} {l : List Oper} (h1 h2 ts : List Nat) (C : World → Prop) (hm : P.follows .mixedOrders = true) (hB : mixB .any l.toArray h1 h2 ts = true)
    (hC : ∀ w w', C w → Below w.heap.size w w' → C w') (hw : C { w with drawn := w.drawn + 1 })
    (h : ∀ K : Act → World → Prop, (∀ a w, Q .normal a w → K a w) → wpQuiet P l.toArray (fun _ => True) (fun a1 => wpQuiet P l.toArray C (fun a2 => wpList P l.toArray (Only K) (pick l ts) a2 { w with drawn := w.drawn + 1 }) (pick l h2) a1) (pick l h1) a) :
    (Code.region id l.toArray true).wp P Q a w := by
  have H := h (fun a w => Q .normal a w) fun _ _ h => h
  simp only [mixB, Bool.and_eq_true, decide_eq_true_eq] at hB
  obtain ⟨⟨⟨⟨⟨⟨hsel, h12⟩, hts⟩, htail⟩, hh⟩, hseq⟩, hlen⟩ := hB
  have h12' : ∀ i ∈ h2, i ∉ h1 := fun i hi => by simpa using List.all_eq_true.1 h12 i hi
  have hts' : ∀ i ∈ ts, i ∉ h1 ∧ i ∉ h2 := fun i hi => by simpa using List.all_eq_true.1 hts i hi
  have htail' : ∀ j oj, l.toArray[j]? = some oj → j ∉ h1 → j ∉ h2 → newOp oj.op = true ∨ ∀ i ∈ h2, anc .any l.toArray l.toArray.size j i = true := fun j oj hj n1 n2 => by
    have h3 := List.all_eq_true.1 htail j (List.mem_range.2 (Array.getElem?_eq_some_iff.1 hj).1)
    simp only [hj, Bool.or_eq_true, List.contains_iff_mem, n1, n2, false_or] at h3
    rcases h3 with h3 | h3
    · exact .inl h3
    · exact .inr fun i hi => List.all_eq_true.1 h3 i hi
  rw [hoistB_append, Bool.and_eq_true] at hh
  rw [marked_append] at hseq
  have lt1 := hoistB_lt _ _ hh.1
  have lt2 := hoistB_lt _ _ hh.2
  have lt3 := seqL_lt _ _ hseq
  have hQ' : ∀ c a w d v, Only (fun a w => Q .normal a w) (.panic c) (a.put d v) w → Only (fun a w => Q .normal a w) (.panic c) a w := fun _ _ _ _ _ h => h
  have cl0 : Closed .any l.toArray (Array.replicate l.toArray.size false) := fun j oj _ hl => by rw [getD_replicate_false] at hl; cases hl
  have cl1 := closed_marked _ _ hh.1 cl0
  refine Code.wp_mono (Q := Only fun a w => Q .normal a w) (fun e a w h => by cases e <;> first | exact h | exact h.elim) ?_
  refine wp_region_any hm (wpAny_of_M (C := C) (h1 := h1) (h2 := h2) _ _ _ _ ?_)
  have key : wpM P .any l.toArray (Only fun a w => Q .normal a w) C h1 h2 (ts.length + h2.length + h1.length) (Array.replicate l.toArray.size false) a { w with drawn := w.drawn + 1 } := ?_
  · have e : l.toArray.size = ts.length + h2.length + h1.length := by omega
    have e2 : ∀ n, n = ts.length + h2.length + h1.length → wpM P .any l.toArray (Only fun a w => Q .normal a w) C h1 h2 n (Array.replicate l.toArray.size false) a { w with drawn := w.drawn + 1 } := fun n hn => hn ▸ key
    exact e2 _ e
  refine hoist1 hsel hQ' h1 (pick l h1) _ a (fun i hi => hi) (pick_map h1 (by simpa using lt1)) hh.1 (fun a1 H1 => ?_) H
  refine hoist2 hsel hQ' hC h12' htail' hw h2 (pick l h2) _ a1 (fun i hi => hi) (pick_map h2 (by simpa using lt2)) hh.2 cl1 (fun a2 H2 => ?_) H1
  exact wpM_seq ts (pick l ts) _ a2 _ hts' (pick_map ts (by simpa using lt3)) hseq H2

/-- The worlds that are w but for new blocks and draws. -/
def Lat (w : World) : Type := { w' : World // Below w.heap.size w w' }
def Lat.w {w : World} (n : Lat w) : World := n.val
theorem Lat.below {w : World} (n : Lat w) : Below w.heap.size w n.w := n.property
def Lat.here (w : World) : Lat w := ⟨w, Below.refl _ _⟩
instance (w : World) : Nonempty (Lat w) := ⟨Lat.here w⟩
def Lat.drew (w : World) : Lat w := ⟨w.drew, (Below.refl _ _).drew⟩

theorem lat_cell {w : World} {p : Addr} {v : Value} (h : w.cell? p = some v) (n : Lat w) : n.w.cell? p = some v :=
  (n.below.cell (World.block_lt_of_cell? w p h)).trans h
theorem lat_block {w : World} {b : Nat} {o : Obj} (h : w.heap[b]? = some o) (n : Lat w) : n.w.heap[b]? = some o :=
  (n.below.block b (Array.getElem?_eq_some_iff.1 h).1).trans h
theorem lat_frozen {w : World} {p : Addr} {v : Value} (h : w.cell? p = some v) (hf : w.frozen? p = false) (n : Lat w) : n.w.frozen? p = false :=
  (n.below.frozen (World.block_lt_of_cell? w p h)).trans hf

theorem lat_call {w : World} {f : FuncId} {args : Array Value} {n : Lat w} {v : Value} (h : Calls P f args n.w fun e w' => e = .returned v ∧ Below n.w.heap.size n.w w') :
    Calls P f args n.w fun e w' => e = .returned v ∧ ∃ m : Lat w, w' = m.w :=
  h.mono fun _ w' ⟨he, hb⟩ => ⟨he, ⟨w', n.below.trans (hb.mono n.below.size)⟩, rfl⟩
theorem lat_call_same {w : World} {f : FuncId} {args : Array Value} {n : Lat w} {v : Value} (h : Calls P f args n.w fun e w' => e = .returned v ∧ n.w = w') :
    Calls P f args n.w fun e w' => e = .returned v ∧ ∃ m : Lat w, w' = m.w :=
  h.mono fun _ _ ⟨he, hb⟩ => ⟨he, n, hb.symm⟩

/-- Some operations first (those of h1 look at no memory), then a forced chain. -/
theorem wp_region_mixL {id : Nat} {a : Act} {w : World} {l : List Oper} (h1 h2 ts : List Nat) (hm : P.follows .mixedOrders = true) (hB : mixB .any l.toArray h1 h2 ts = true)
    (h : ∀ K : Act → World → Prop, (∀ a w, Q .normal a w → K a w) → wpQuiet P l.toArray (fun _ => True) (fun a1 => wpQuiet P l.toArray (fun w' => ∃ n : Lat w, w' = n.w) (fun a2 => wpList P l.toArray (Only K) (pick l ts) a2 w.drew) (pick l h2) a1) (pick l h1) a) :
    (Code.region id l.toArray true).wp P Q a w :=
  wp_region_mix h1 h2 ts (fun w' => ∃ n : Lat w, w' = n.w) hm hB (fun _ w2 ⟨n, e⟩ hb => by subst e; exact ⟨⟨w2, n.below.trans (hb.mono n.below.size)⟩, rfl⟩) ⟨Lat.drew w, rfl⟩ h

/-- Every operation reads, or calls what lays new memory alone. -/
theorem wp_region_quietL {id : Nat} {a : Act} {w : World} {l : List Oper} (hm : P.follows .mixedOrders = true) (hB : Region.lexB .any l.toArray = true)
    (h : wpQuiet P l.toArray (fun w' => ∃ n : Lat w, w' = n.w) (fun a' => ∀ n : Lat w, Q .normal a' n.w) l a) : (Code.region id l.toArray true).wp P Q a w :=
  wp_region_quiet (C := fun w' => ∃ n : Lat w, w' = n.w) hm hB ⟨Lat.drew w, rfl⟩ (by
    have e : (fun a' => ∀ w', (∃ n : Lat w, w' = n.w) → Q .normal a' w') = fun a' => ∀ n : Lat w, Q .normal a' n.w := by
      funext a'
      exact propext ⟨fun h n => h _ ⟨n, rfl⟩, fun h w' ⟨n, e⟩ => e ▸ h n⟩
    rw [e]
    exact h)
end
end Go.Proofs.Ytdbnmijnjfbibaa.Mix
