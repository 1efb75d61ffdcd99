/- Part NormRefuses1 of what the layer's laws stand on: Ni, Vt, Np, Len8, Bits, Va, PAx25, PAx30, PAx32, Ux, Nj, My, Nk, Nw, PAx28, NormRefuses, LawNormRefuses. Written by a program (merge.py) out of this session's own texts and of what the kit's print wrote over stand-ins (sp.py). Conditions: those that each theorem names. -/
import Derived.Shelf.Strings.BuilderK
import Derived.Test.YtbldocbijihpgaaProg
import Derived.Test.YtbldocbijihpgaaQB1
import Derived.WalkKit
import Derived.WalkSpells
import Derived.WalkLawsBesides
import Derived.BigQuiet
import Derived.BigCall
import Derived.Laws.Strings
import Derived.Test.YtbldocbijihpgaaQB2
import Derived.Lib.Strings
import Derived.Lib.Slices
import Derived.Lib.Small
import Derived.Lib.Walk
import Derived.Lib.BitFns
import Derived.Deep.Light
import Derived.Laws.BitsAllLaws
import Derived.Laws.Bits64
import Derived.Lib.Hide
import Derived.OwnWalk
import Derived.Deep.DeepCutAuto
import Derived.Test.YtbldocbijihpgaaRows
import Derived.ProofKit
import Derived.OpenShut
import Derived.ShutString
import Derived.ChangeOld
import Derived.Below
import Derived.SizedLaws
-- ---- Ni
/- strings.Builder at this program: WriteString and String. String's contract is the library's (its laying in plain words); copyCheck and WriteString are walked here, for their text at this program is cut short behind the check. Conditions: those that each theorem names. -/
namespace Go.Proofs.Ytbldocbijihpgaa.Sb
set_option linter.unusedSimpArgs false
set_option linter.unusedVariables false
open Go.Shelf Go.RowKit Mix _root_.Go.Proofs.Ytbldocbijihpgaa.Own

def lays169_ren : Go.Shelf.Ren := ⟨fun | 169 => 35 | n => n, fun | 70 => 63 | 9 => 9 | 0 => 0 | 72 => 65 | 37 => 45 | 127 => 95 | 3 => 3 | 5 => 5 | n => n, fun | n => n⟩
theorem lays169 : Go.Proofs.Lays.n169 Try.prog lays169_ren := {
  mixed := by kernel_rfl
  f169 := Try.func35.trans (congrArg some (by kernel_rfl))
  t0 := Try.underlying0
  a0 := Try.isAgg0
  z0 := Try.sizeOf0
  v0 := Try.zeroValue0
  t3 := Try.underlying3
  a3 := Try.isAgg3
  z3 := Try.sizeOf3
  v3 := Try.zeroValue3
  t9 := Try.underlying9
  a9 := Try.isAgg9
  z9 := Try.sizeOf9
  v9 := Try.zeroValue9
  t37 := Try.underlying45
  a37 := Try.isAgg45
  z37 := Try.sizeOf45
  v37 := Try.zeroValue45
  t70 := Try.underlying63
  a70 := Try.isAgg63
  z70 := Try.sizeOf63
  v70 := Try.zeroValue63
  t72 := Try.underlying65
  a72 := Try.isAgg65
  z72 := Try.sizeOf65
  v72 := Try.zeroValue65
  t127 := Try.underlying95
  a127 := Try.isAgg95
  z127 := Try.sizeOf95
  v127 := Try.zeroValue95 }
theorem extra169 : Go.Proofs.Builder.Extra Try.prog lays169_ren := {
  sizeBuilder := by kernel_rfl
  liesBuilder := by kernel_rfl
  t5 := Try.underlying5
  a5 := Try.isAgg5
  z5 := Try.sizeOf5
  v5 := Try.zeroValue5
  infoByte := by kernel_rfl
  cellsByte := by kernel_rfl
  sizeByte := by kernel_rfl
  neB5 := by decide }

theorem infoByte : (Try.prog.info? 5).map (fun i => (i.zero, i.size, i.bytes)) = some (some (.int .u8 0), 1, 1) := by kernel_rfl
theorem sizeB : (Try.prog.info? 65).map (·.size) = some 2 := by kernel_rfl
theorem liesB : liesAt Try.prog Try.prog.depth 65 (2 / Try.prog.cellsOf 65) 0 65 1 = true := by kernel_rfl

set_option maxHeartbeats 1000000 in
set_option maxRecDepth 100000 in
/-- A builder that has not been written. -/
theorem check_new (b : Nat) (w : World) (h0 : w.cell? ⟨b, 0, none⟩ = some (.pointer none)) (hsh : w.shape? b = some (65, 2)) (hfz : w.frozen? ⟨b, 0, none⟩ = false) :
    Calls Try.prog 44 #[.pointer (some ⟨b, 0, none⟩)] w fun e w' => e = .returned (.tuple #[]) ∧ w' = w.setCell ⟨b, 0, none⟩ (.pointer (some ⟨b, 0, none⟩)) := by
  obtain ⟨j, hj, hjs⟩ := Option.map_eq_some_iff.1 sizeB
  go_enter Try.func44, Try.ntmps44
  go_wp2_with fail
  rw [Lib.run_to_unsafe w ⟨b, 0, none⟩ Try.underlying63 Try.underlying103 hj (by rw [hjs]; decide) hsh (Nat.zero_lt_succ 1)]
  simp only [Result.andThen]
  rw [Oper.upon_value]
  go_wp2_with fail
  rw [run_callFunc_extern Try.func48 (by kernel_rfl) (by kernel_rfl) (by kernel_rfl) (e := Extern.AbiNoEscape.same) (by kernel_rfl)]
  rw [Lib.run_noEscape]
  simp only [Result.andThen]
  rw [Oper.upon_value]
  go_wp2_with fail
  rw [Lib.run_from_unsafe w ⟨b, 0, none⟩ Try.underlying103 Try.underlying63 hj hsh liesB]
  simp only [Result.andThen]
  rw [Oper.upon_value]
  go_wp2_with fail
  go_end0
  exact ⟨rfl, rfl⟩
set_option maxHeartbeats 1000000 in
set_option maxRecDepth 100000 in
/-- One that has been. -/
theorem check_used (b : Nat) (w : World) (h0 : w.cell? ⟨b, 0, none⟩ = some (.pointer (some ⟨b, 0, none⟩))) :
    Calls Try.prog 44 #[.pointer (some ⟨b, 0, none⟩)] w fun e w' => e = .returned (.tuple #[]) ∧ w' = w := by
  obtain ⟨j, hj, _⟩ := Option.map_eq_some_iff.1 sizeB
  go_enter Try.func44, Try.ntmps44
  go_wp2_with fail
  rw [Lib.run_neq_ptr_same w _ Try.underlying63 hj]
  go_wp2_with fail
  go_end0
  exact ⟨rfl, rfl⟩
theorem check_calls (B b : Nat) (bs : List Value) (w : World) (h : Lib.IsBuilderF 65 5 B b bs w) :
    Calls Try.prog 44 #[.pointer (some ⟨b, 0, none⟩)] w fun e w' => e = .returned (.tuple #[]) ∧ Lib.BuilderAtF 65 5 B b (.pointer (some ⟨b, 0, none⟩)) bs w' ∧ Below B w w' := by
  rcases h with h | h
  · refine (check_new b w h.cell0 h.shape h.frozen0).mono ?_
    rintro e w' ⟨rfl, rfl⟩
    exact ⟨rfl, h.used _, (Below.refl B w).setCell (p := ⟨b, 0, none⟩) h.1 _⟩
  · refine (check_used b w h.cell0).mono ?_
    rintro e w' ⟨rfl, rfl⟩
    exact ⟨rfl, h, Below.refl B _⟩
set_option maxHeartbeats 2000000 in
set_option maxRecDepth 100000 in
theorem write_calls (B b : Nat) (bs : List Value) (s : ByteArray) (w : World) (h : Lib.IsBuilderF 65 5 B b bs w) (hlen : bs.length + s.size ≤ 140737488355328) (hBw : B ≤ w.heap.size) :
    Calls Try.prog 33 #[.pointer (some ⟨b, 0, none⟩), .string s] w fun e w' => e = .returned (.tuple #[.int .i64 s.size, .nilIface]) ∧ Lib.IsBuilderF 65 5 B b (bs ++ Lib.strCells s) w' ∧ Below B w w' := by
  obtain ⟨i0, hi, hz0, hz1, hz2⟩ := info_parts infoByte
  go_enter Try.func33, Try.ntmps33
  go_wp2_with (go_at_call 44; refine (check_calls B b bs _ h).mono ?_)
  rintro e w1 ⟨rfl, h1, hb1⟩
  obtain ⟨hB, v, hbk, hown, hne⟩ := h1
  have c0 : w1.cell? ⟨b, 0, none⟩ = some (.pointer (some ⟨b, 0, none⟩)) := by rw [Lib.cell_of_heap hbk]; rfl
  have c1 : w1.cell? ⟨b, 1, none⟩ = some v := by rw [Lib.cell_of_heap hbk]; rfl
  go_wp2_with (at_builtin; refine Lib.wpList_append_own_stringF _ rfl _ _ 45 9 rfl B 5 i0 Try.underlying45 Try.underlying9 hi hz0 hz1 hz2 _ _ _ rfl hown s rfl ?c3 ?c4 ?c5 ?_)
  case c3 => unfold maxLen; omega
  case c4 => omega
  case c5 => have := hb1.size; omega
  intro v' w2 hown' hgrow _
  have hlt : b < w1.heap.size := (Array.getElem?_eq_some_iff.1 hbk).1
  have hb2 : w2.heap[b]? = some (.cells #[.pointer (some ⟨b, 0, none⟩), v] 65 (0, 0)) := (hgrow.block b hlt (fun e => hne e.symm)).trans hbk
  have d0 : w2.cell? ⟨b, 0, none⟩ = some (.pointer (some ⟨b, 0, none⟩)) := by rw [Lib.cell_of_heap hb2]; rfl
  have d1 : w2.cell? ⟨b, 1, none⟩ = some v := by rw [Lib.cell_of_heap hb2]; rfl
  have f1 : w2.frozen? ⟨b, 1, none⟩ = false := Lib.frozen_of_heap hb2 1
  obtain ⟨ao, n', cap, rfl⟩ : ∃ ao n' cap, v' = .slice ao n' cap := by
    rcases hown'.2 with ⟨hv, _⟩ | ⟨g, cap, cur, fz, hv, _⟩ <;> exact ⟨_, _, _, hv⟩
  go_wp2_with fail
  go_ret2
  refine ⟨rfl, .inr ?_, ?_⟩
  · exact Lib.BuilderAtF.put (T := 65) (e := 5) hB hb2 (bs' := bs ++ Lib.strCells s) (by simpa [Lib.strCells_length] using hown') (by decide)
  · exact (hb1.grown hgrow (by have := hb1.size; omega) (fun k hk => (hown.lt k hk).1)).setCell (p := ⟨b, 1, none⟩) hB _
theorem string_calls (B b : Nat) (l : List UInt8) (w : World) (h : Lib.IsBuilderF 65 5 B b (Lib.byteCells l) w) (hBw : B ≤ w.heap.size) :
    Calls Try.prog 35 #[.pointer (some ⟨b, 0, none⟩)] w fun e w' => e = .returned (.string ⟨l.toArray⟩) ∧ Below B w w' :=
  (Any.Builder_String_any_k lays169 extra169 B b l w h hBw).mono fun e w' ⟨he, _, hb, _⟩ => ⟨he, hb⟩
end Go.Proofs.Ytbldocbijihpgaa.Sb

-- ---- Vt
/- Whole numbers in bytes: plain facts. No program in sight. -/
namespace Go.Proofs.Ytbldocbijihpgaa.Vt
set_option linter.unusedSimpArgs false
set_option linter.unusedVariables false

def putV (n : Nat) : List Nat := if h : n < 128 then [n] else (n % 128 + 128) :: putV (n / 128)
termination_by n
decreasing_by omega
theorem putV_lt {n : Nat} (h : n < 128) : putV n = [n] := by rw [putV, dif_pos h]
theorem putV_ge {n : Nat} (h : 128 ≤ n) : putV n = (n % 128 + 128) :: putV (n / 128) := by rw [putV, dif_neg (by omega)]
theorem putV_byte (n : Nat) : ∀ x ∈ putV n, x < 256 := by
  induction n using Nat.strongRecOn with
  | ind n ih =>
    rcases Nat.lt_or_ge n 128 with h | h
    · rw [putV_lt h]; simp; omega
    · rw [putV_ge h]
      intro x hx
      rcases List.mem_cons.1 hx with rfl | hx
      · omega
      · exact ih (n / 128) (by omega) x hx
theorem putV_ne (n : Nat) : putV n ≠ [] := by
  rcases Nat.lt_or_ge n 128 with h | h
  · rw [putV_lt h]; simp
  · rw [putV_ge h]; simp
theorem putV_len_pos (n : Nat) : 1 ≤ (putV n).length := by
  have := putV_ne n
  cases h : putV n with
  | nil => exact absurd h this
  | cons a t => simp
theorem putV_len (d : Nat) : ∀ n, n < 128 ^ (d + 1) → (putV n).length ≤ d + 1 := by
  induction d with
  | zero => intro n h; rw [putV_lt (by simpa using h)]; simp
  | succ d ih =>
    intro n h
    rcases Nat.lt_or_ge n 128 with h1 | h1
    · rw [putV_lt h1]; simp
    · rw [putV_ge h1]
      have := ih (n / 128) (by rw [Nat.div_lt_iff_lt_mul (by decide)]; rw [Nat.pow_succ] at h; exact h)
      simp; omega
theorem putV_len64 (n : Nat) (h : n < 18446744073709551616) : (putV n).length ≤ 10 := putV_len 9 n (Nat.lt_trans h (by decide))

def vval : List Nat → Nat
  | [] => 0
  | b :: t => b % 128 + 128 * vval t
theorem vval_putV (n : Nat) : vval (putV n) = n := by
  induction n using Nat.strongRecOn with
  | ind n ih =>
    rcases Nat.lt_or_ge n 128 with h | h
    · rw [putV_lt h]; simp [vval]; omega
    · rw [putV_ge h]; simp only [vval, ih (n / 128) (by omega)]; omega
theorem putV_inj {a b : Nat} (h : putV a = putV b) : a = b := by rw [← vval_putV a, h, vval_putV]
theorem vval_lt (l : List Nat) : vval l < 128 ^ l.length := by
  induction l with
  | nil => simp [vval]
  | cons a t ih => simp only [vval, List.length_cons, Nat.pow_succ]; omega
theorem vval_append (l m : List Nat) : vval (l ++ m) = vval l + 128 ^ l.length * vval m := by
  induction l with
  | nil => simp [vval]
  | cons a t ih =>
    have e : 128 ^ (a :: t).length * vval m = 128 * (128 ^ t.length * vval m) := by rw [List.length_cons, Nat.pow_succ, Nat.mul_comm (128 ^ t.length) 128, Nat.mul_assoc]
    rw [e]
    simp only [vval, List.cons_append, ih]; omega
/-- Full groups ahead of one that is not. -/
theorem putV_vval (l : List Nat) (b : Nat) (hl : ∀ x ∈ l, 128 ≤ x ∧ x < 256) (hb : b < 128) (h0 : l = [] ∨ b ≠ 0) : putV (vval (l ++ [b])) = l ++ [b] := by
  induction l with
  | nil => simp only [List.nil_append, vval]; rw [putV_lt (by omega)]; simp; omega
  | cons a t ih =>
    have ha := hl a (by simp)
    have hb0 : b ≠ 0 := by
      rcases h0 with h | h
      · cases h
      · exact h
    have ih := ih (fun x hx => hl x (List.mem_cons_of_mem _ hx)) (.inr hb0)
    have hpos : 0 < vval (t ++ [b]) := by
      rw [vval_append]
      have h1 : 0 < vval [b] := by simp [vval]; omega
      have h2 : 0 < 128 ^ t.length := Nat.pow_pos (by decide)
      have := Nat.mul_pos h2 h1
      omega
    simp only [List.cons_append, vval]
    rw [putV_ge (by omega), show (a % 128 + 128 * vval (t ++ [b])) / 128 = vval (t ++ [b]) by omega, ih]
    congr 1
    omega
/-- Nothing but a number's own bytes. -/
theorem putV_is (l : List Nat) (b n : Nat) (hl : ∀ x ∈ l, 128 ≤ x ∧ x < 256) (hb : b < 128) : putV n = l ++ [b] ↔ n = vval (l ++ [b]) ∧ (l = [] ∨ b ≠ 0) := by
  constructor
  · intro h
    refine ⟨by rw [← h, vval_putV], ?_⟩
    rcases List.eq_nil_or_concat l with rfl | ⟨m, a, rfl⟩
    · exact .inl rfl
    · right
      rintro rfl
      have hn : n = vval (m ++ [a]) := by rw [← vval_putV n, h, vval_append]; simp [vval]
      have h2 := congrArg List.length h
      have : ∀ (k : Nat) (l : List Nat), l.length = k + 1 → (putV (vval l)).length ≤ k + 1 := fun k l hk => putV_len k _ (by have := vval_lt l; rwa [hk] at this)
      have := this m.length (m ++ [a]) (by simp)
      rw [← hn] at this
      simp at h2
      omega
  · rintro ⟨rfl, h0⟩
    exact putV_vval l b hl hb h0

/-- A number out of bytes: its value, how many they are, the error; so many groups at the most. -/
def goV : Nat → Bool → List Nat → Nat × Nat × Nat
  | 0, _, _ => (0, 0, 3)
  | _ + 1, _, [] => (0, 0, 2)
  | d + 1, f, b :: t =>
    if d = 0 ∧ 1 < b % 128 then (0, 0, 3)
    else if b < 128 then (if b = 0 ∧ f = false then (0, 0, 3) else (b, 1, 0))
    else if (goV d false t).2.2 = 0 then (b % 128 + 128 * (goV d false t).1, (goV d false t).2.1 + 1, 0) else (0, 0, (goV d false t).2.2)
theorem goV_putV (d : Nat) : ∀ (f : Bool) (n : Nat) (rest : List Nat), n < 2 * 128 ^ d → (f = true ∨ n ≠ 0) → goV (d + 1) f (putV n ++ rest) = (n, (putV n).length, 0) := by
  induction d with
  | zero =>
    intro f n rest h hf
    rw [putV_lt (by omega)]
    simp only [List.cons_append, List.nil_append, goV]
    rw [if_neg (by omega), if_pos (by omega), if_neg]
    · rfl
    · rintro ⟨h1, h2⟩
      rcases hf with h | h
      · rw [h] at h2; cases h2
      · exact h h1
  | succ d ih =>
    intro f n rest h hf
    rcases Nat.lt_or_ge n 128 with h1 | h1
    · rw [putV_lt h1]
      simp only [List.cons_append, List.nil_append]
      rw [goV, if_neg (by omega), if_pos h1, if_neg]
      · rfl
      · rintro ⟨h1, h2⟩
        rcases hf with h | h
        · rw [h] at h2; cases h2
        · exact h h1
    · rw [putV_ge h1]
      simp only [List.cons_append]
      have e := ih false (n / 128) rest (by rw [Nat.div_lt_iff_lt_mul (by decide)]; rw [Nat.pow_succ] at h; omega) (.inr (by omega))
      rw [goV, if_neg (by omega), if_neg (by omega), e, if_pos rfl, List.length_cons]
      have : (n % 128 + 128) % 128 + 128 * (n / 128) = n := by omega
      rw [this]
theorem goV_cut (d : Nat) : ∀ (f : Bool) (n k : Nat), n < 2 * 128 ^ d → k < (putV n).length → goV (d + 1) f ((putV n).take k) = (0, 0, 2) := by
  induction d with
  | zero =>
    intro f n k h hk
    rw [putV_lt (by omega)] at hk ⊢
    have : k = 0 := by simp at hk; omega
    subst this; rfl
  | succ d ih =>
    intro f n k h hk
    cases k with
    | zero => rfl
    | succ k =>
      rcases Nat.lt_or_ge n 128 with h1 | h1
      · rw [putV_lt h1] at hk; simp at hk
      · rw [putV_ge h1] at hk ⊢
        have e := ih false (n / 128) k (by rw [Nat.div_lt_iff_lt_mul (by decide)]; rw [Nat.pow_succ] at h; omega) (by simp at hk; omega)
        simp only [List.take_succ_cons]
        rw [goV, if_neg (by omega), if_neg (by omega), e, if_neg (by simp)]
/-- What is told of bytes is their own number. -/
theorem goV_size (d : Nat) : ∀ (f : Bool) (l : List Nat), (goV d f l).2.2 = 0 → 1 ≤ (goV d f l).2.1 ∧ (goV d f l).2.1 ≤ l.length ∧ (goV d f l).2.1 ≤ d := by
  induction d with
  | zero => intro f l h; cases h
  | succ d ih =>
    intro f l
    cases l with
    | nil => intro h; cases h
    | cons b t =>
      unfold goV
      split
      · intro h; cases h
      · split
        · split
          · intro h; cases h
          · intro _; simp
        · split
          · rename_i h
            intro _
            have := ih false t h
            simp; omega
          · rename_i h; intro h2; exact absurd h2 h
theorem goV_bound (d : Nat) : ∀ (f : Bool) (l : List Nat), (goV (d + 1) f l).1 < 2 * 128 ^ d := by
  induction d with
  | zero =>
    intro f l
    cases l with
    | nil => simp [goV]
    | cons b t =>
      unfold goV
      split
      · simp
      · rename_i h
        have hb : ¬ 1 < b % 128 := fun h2 => h ⟨rfl, h2⟩
        split
        · split
          · simp
          · simp; omega
        · simp [goV]
  | succ d ih =>
    intro f l
    have hp : 0 < 128 ^ (d + 1) := Nat.pow_pos (by decide)
    cases l with
    | nil => unfold goV; simp; omega
    | cons b t =>
      unfold goV
      split
      · simp; omega
      · split
        · split
          · simp; omega
          · have : 128 ≤ 128 ^ (d + 1) := by rw [Nat.pow_succ]; have : 0 < 128 ^ d := Nat.pow_pos (by decide); omega
            simp; omega
        · split
          · have := ih false t
            rw [Nat.pow_succ]; simp only; omega
          · simp; omega
theorem goV_err (d : Nat) : ∀ (f : Bool) (l : List Nat), (goV d f l).2.2 = 0 ∨ goV d f l = (0, 0, 2) ∨ goV d f l = (0, 0, 3) := by
  induction d with
  | zero => intro f l; exact .inr (.inr rfl)
  | succ d ih =>
    intro f l
    cases l with
    | nil => exact .inr (.inl rfl)
    | cons b t =>
      unfold goV
      split
      · exact .inr (.inr rfl)
      · split
        · split
          · exact .inr (.inr rfl)
          · exact .inl rfl
        · split
          · exact .inl rfl
          · rcases ih false t with h | h | h
            · rename_i h2; exact absurd h h2
            · rw [h]; exact .inr (.inl rfl)
            · rw [h]; exact .inr (.inr rfl)
/-- The bytes that were told are those of the number. -/
theorem goV_is (d : Nat) : ∀ (f : Bool) (l : List Nat), (∀ x ∈ l, x < 256) → (goV d f l).2.2 = 0 → (f = true ∨ (goV d f l).1 ≠ 0) ∧ putV (goV d f l).1 = l.take (goV d f l).2.1 := by
  induction d with
  | zero => intro f l _ h; cases h
  | succ d ih =>
    intro f l hl
    cases l with
    | nil => intro h; cases h
    | cons b t =>
      have hb := hl b (by simp)
      have ht : ∀ x ∈ t, x < 256 := fun x hx => hl x (List.mem_cons_of_mem _ hx)
      unfold goV
      split
      · intro h; cases h
      · split
        · rename_i h128
          split
          · intro h; cases h
          · rename_i h0
            intro _
            refine ⟨?_, by simp [putV_lt h128]⟩
            cases f with
            | true => exact .inl rfl
            | false => right; intro h; exact h0 ⟨h, rfl⟩
        · rename_i h128
          split
          · rename_i h
            intro _
            obtain ⟨h1, h2⟩ := ih false t ht h
            have h1 : (goV d false t).1 ≠ 0 := by
              rcases h1 with h | h
              · cases h
              · exact h
            refine ⟨.inr (by simp only; omega), ?_⟩
            simp only
            rw [putV_ge (by omega), List.take_succ_cons, show (b % 128 + 128 * (goV d false t).1) / 128 = (goV d false t).1 by omega, h2]
            congr 1
            omega
          · rename_i h; intro h2; exact absurd h2 h
end Go.Proofs.Ytbldocbijihpgaa.Vt

-- ---- Np
/- Numbers of a sum in bytes: plain facts. No program in sight. -/
namespace Go.Proofs.Ytbldocbijihpgaa.Np
set_option linter.unusedSimpArgs false
set_option linter.unusedVariables false
open Vt Nl

/-- A text's bytes as numbers. -/
def bsOf (s : ByteArray) : List Nat := s.data.toList.map UInt8.toNat
theorem length_bsOf (s : ByteArray) : (bsOf s).length = s.size := by simp [bsOf]
theorem bsOf_lt (s : ByteArray) : ∀ x ∈ bsOf s, x < 256 := by
  intro x hx
  obtain ⟨b, _, rfl⟩ := List.mem_map.1 hx
  exact UInt8.toNat_lt b
def txt (l : List Nat) : ByteArray := ⟨(l.map UInt8.ofNat).toArray⟩
theorem bsOf_txt (l : List Nat) (h : ∀ x ∈ l, x < 256) : bsOf (txt l) = l := by
  unfold bsOf txt
  simp only [List.map_map]
  conv => rhs; rw [← List.map_id l]
  refine List.map_congr_left fun x hx => ?_
  have := h x hx
  simp; omega
theorem txt_bsOf (s : ByteArray) : txt (bsOf s) = s := by
  unfold bsOf txt
  simp only [List.map_map]
  have : s.data.toList.map (UInt8.ofNat ∘ UInt8.toNat) = s.data.toList := by
    conv => rhs; rw [← List.map_id s.data.toList]
    refine List.map_congr_left fun x hx => ?_
    simp
  rw [this]
theorem bsOf_inj {a b : ByteArray} (h : bsOf a = bsOf b) : a = b := by rw [← txt_bsOf a, h, txt_bsOf]
theorem size_txt (l : List Nat) : (txt l).size = l.length := by simp [txt, ByteArray.size]
theorem bsOf_append (a b : ByteArray) : bsOf (a ++ b) = bsOf a ++ bsOf b := by simp [bsOf]
theorem txt_append (a b : List Nat) : txt (a ++ b) = txt a ++ txt b := by
  apply bsOf_inj
  rw [bsOf_append]
  unfold txt bsOf; simp
theorem bsOf_extract (s : ByteArray) (i j : Nat) : bsOf (s.extract i j) = ((bsOf s).take j).drop i := by
  unfold bsOf
  rw [← List.map_take, ← List.map_drop]
  congr 1
  apply List.ext_getElem?
  intro n
  rw [ByteArray.data_extract, List.getElem?_drop, List.getElem?_take, Array.getElem?_toList, Array.getElem?_extract]
  by_cases h : i + n < j
  · rw [if_pos h]
    by_cases h2 : i + n < s.data.size
    · rw [if_pos (by omega), Array.getElem?_toList]
    · rw [if_neg (by omega)]; rw [Array.getElem?_toList, Array.getElem?_eq_none (by omega)]
  · rw [if_neg h, if_neg (by omega)]

/-- A number at a place, as Go tells it. -/
def vgetE (s : ByteArray) (a : Int) : Int × Int × Int :=
  if a < 0 ∨ (s.size : Int) < a then (0, 0, 1)
  else if (goV 10 true ((bsOf s).drop a.toNat)).2.2 = 0 then ((goV 10 true ((bsOf s).drop a.toNat)).1, a + ((goV 10 true ((bsOf s).drop a.toNat)).2.1 : Int), 0)
  else (0, 0, ((goV 10 true ((bsOf s).drop a.toNat)).2.2 : Int))

/-- Noughts ahead. -/
def runZ : List Int → Nat
  | [] => 0
  | x :: t => if x = 0 then runZ t + 1 else 0
theorem runZ_le (l : List Int) : runZ l ≤ l.length := by
  induction l with
  | nil => simp [runZ]
  | cons x t ih => simp only [runZ]; split <;> simp <;> omega
theorem runZ_at : ∀ (l : List Int) (q : Nat), q < runZ l → l.getD q 0 = 0 := by
  intro l
  induction l with
  | nil => intro q h; simp
  | cons x t ih =>
    intro q h
    simp only [runZ] at h
    split at h
    · rename_i hx
      cases q with
      | zero => simpa using hx
      | succ q => simpa using ih q (by omega)
    · omega
theorem runZ_end (l : List Int) : runZ l = l.length ∨ l.getD (runZ l) 0 ≠ 0 := by
  induction l with
  | nil => left; rfl
  | cons x t ih =>
    simp only [runZ]
    split
    · rcases ih with h | h
      · left; simp; omega
      · right; simpa using h
    · rename_i hx; right; simpa using hx
theorem runZ_take (l : List Int) : l.take (runZ l) = List.replicate (runZ l) 0 := by
  induction l with
  | nil => rfl
  | cons x t ih =>
    simp only [runZ]
    split
    · rename_i hx; subst hx; rw [List.take_succ_cons, ih, List.replicate_succ]
    · rfl
/-- The numbers' bytes. -/
def putF : Nat → List Int → List Nat
  | 0, _ => []
  | _ + 1, [] => []
  | n + 1, x :: t => if x = 0 then 0 :: (putV (runZ t) ++ putF n (t.drop (runZ t))) else putV x.toNat ++ putF n t
theorem putF_more : ∀ (n m : Nat) (l : List Int), l.length ≤ n → n ≤ m → putF m l = putF n l := by
  intro n
  induction n with
  | zero =>
    intro m l hl _
    have : l = [] := List.length_eq_zero_iff.1 (by omega)
    subst this; cases m <;> rfl
  | succ n ih =>
    intro m l hl hm
    obtain ⟨m, rfl⟩ : ∃ k, m = k + 1 := ⟨m - 1, by omega⟩
    cases l with
    | nil => rfl
    | cons x t =>
      simp only [putF]
      by_cases hx : x = 0
      · rw [if_pos hx, if_pos hx, ih m _ (by rw [List.length_drop]; simp at hl ⊢; omega) (by omega)]
      · rw [if_neg hx, if_neg hx, ih m t (by simpa using hl) (by omega)]
def nputL (l : List Int) : List Nat := putF l.length l
theorem nputL_nil : nputL [] = [] := rfl
theorem nputL_zero (t : List Int) : nputL (0 :: t) = 0 :: (putV (runZ t) ++ nputL (t.drop (runZ t))) := by
  show putF (t.length + 1) (0 :: t) = _
  simp only [putF]
  rw [if_pos trivial]
  congr 2
  exact putF_more _ _ _ (Nat.le_refl _) (by rw [List.length_drop]; omega)
theorem nputL_pos (x : Int) (t : List Int) (h : x ≠ 0) : nputL (x :: t) = putV x.toNat ++ nputL t := by
  show putF (t.length + 1) (x :: t) = _
  simp only [putF]; rw [if_neg h]; rfl
theorem putF_byte : ∀ (n : Nat) (l : List Int), ∀ b ∈ putF n l, b < 256 := by
  intro n
  induction n with
  | zero => intro l b h; simp [putF] at h
  | succ n ih =>
    intro l b h
    cases l with
    | nil => simp [putF] at h
    | cons x t =>
      simp only [putF] at h
      split at h
      · rcases List.mem_cons.1 h with rfl | h
        · omega
        · rcases List.mem_append.1 h with h | h
          · exact putV_byte _ b h
          · exact ih _ b h
      · rcases List.mem_append.1 h with h | h
        · exact putV_byte _ b h
        · exact ih _ b h
theorem nputL_byte (l : List Int) : ∀ b ∈ nputL l, b < 256 := putF_byte _ _
theorem putF_len : ∀ (n : Nat) (l : List Int), (∀ x ∈ l, x < 18446744073709551616) → l.length < 1000000 → (putF n l).length ≤ 11 * n := by
  intro n
  induction n with
  | zero => intro l _ _; simp [putF]
  | succ n ih =>
    intro l hl hn
    cases l with
    | nil => simp [putF]
    | cons x t =>
      have ht : ∀ x ∈ t, x < 18446744073709551616 := fun x hx => hl x (List.mem_cons_of_mem _ hx)
      have hnt : t.length < 1000000 := by simp at hn; omega
      simp only [putF]
      split
      · have h1 := putV_len64 (runZ t) (by have := runZ_le t; omega)
        have h2 := ih (t.drop (runZ t)) (fun x hx => ht x (List.mem_of_mem_drop hx)) (by rw [List.length_drop]; omega)
        simp only [List.length_cons, List.length_append]; omega
      · have h1 := putV_len64 x.toNat (by have := hl x (by simp); omega)
        have h2 := ih t ht hnt
        simp only [List.length_append]; omega
theorem nputL_len (l : List Int) (h : ∀ x ∈ l, x < 18446744073709551616) (hn : l.length < 1000000) : (nputL l).length ≤ 11 * l.length := putF_len _ _ h hn

/-- What stands from a place on: the numbers, the place behind them, the error. -/
def parN (bs : List Nat) : Nat → Nat → List Int → List Int × Nat × Nat
  | 0, _, _ => ([], 0, 3)
  | f + 1, k, acc =>
    if 65 ≤ acc.length then (acc, k, 0)
    else if (goV 10 true (bs.drop k)).2.2 ≠ 0 then ([], 0, (goV 10 true (bs.drop k)).2.2)
    else if 0 < (goV 10 true (bs.drop k)).1 then parN bs f (k + (goV 10 true (bs.drop k)).2.1) (acc ++ [((goV 10 true (bs.drop k)).1 : Int)])
    else if (goV 10 true (bs.drop (k + (goV 10 true (bs.drop k)).2.1))).2.2 ≠ 0 then ([], 0, (goV 10 true (bs.drop (k + (goV 10 true (bs.drop k)).2.1))).2.2)
    else if 65 < acc.length + (goV 10 true (bs.drop (k + (goV 10 true (bs.drop k)).2.1))).1 + 1 then ([], 0, 3)
    else parN bs f (k + (goV 10 true (bs.drop k)).2.1 + (goV 10 true (bs.drop (k + (goV 10 true (bs.drop k)).2.1))).2.1) (acc ++ List.replicate ((goV 10 true (bs.drop (k + (goV 10 true (bs.drop k)).2.1))).1 + 1) 0)
/-- Numbers, none greater than c. -/
def capL (c : Int) (l : List Int) : List Int := l.map fun x => min x c
def finN (s : ByteArray) (m : Nat) (a : Int) (r : List Int × Nat × Nat) : List Int × Int × Int :=
  if r.2.2 ≠ 0 then ([], 0, (r.2.2 : Int))
  else if Sp.mayN r.1 a = true ∧ nputL r.1 = ((bsOf s).take r.2.1).drop m then (r.1, (r.2.1 : Int), 0) else ([], 0, 3)
def getNE (s : ByteArray) (at_ : Int) (a : Int) : List Int × Int × Int :=
  if at_ < 0 ∨ (s.size : Int) < at_ ∨ ¬ (7 ≤ a ∧ a ≤ 12) then ([], 0, 1)
  else finN s at_.toNat a (parN (bsOf s) 66 at_.toNat [])
theorem capL_length (c : Int) (l : List Int) : (capL c l).length = l.length := by simp [capL]
theorem capL_id (c : Int) (l : List Int) (h : ∀ x ∈ l, x ≤ c) : capL c l = l := by
  unfold capL
  conv => rhs; rw [← List.map_id l]
  refine List.map_congr_left fun x hx => ?_
  have := h x hx
  simp; omega
theorem capL_snoc (c : Int) (l : List Int) (x : Int) : capL c (l ++ [x]) = capL c l ++ [min x c] := by simp [capL]
theorem capL_zeros (c : Int) (l : List Int) (n : Nat) (h : 0 ≤ c) : capL c (l ++ List.replicate n 0) = capL c l ++ List.replicate n 0 := by
  have e : min 0 c = 0 := by omega
  simp [capL, e]
theorem pow_le12 (a : Int) (h : 7 ≤ a ∧ a ≤ 12) : 2 ^ a.toNat ≤ 4096 ∧ 128 ≤ 2 ^ a.toNat := by
  have h1 : a.toNat = 7 ∨ a.toNat = 8 ∨ a.toNat = 9 ∨ a.toNat = 10 ∨ a.toNat = 11 ∨ a.toNat = 12 := by omega
  rcases h1 with h | h | h | h | h | h <;> rw [h] <;> decide
theorem capL_may (c : Int) (l : List Int) (a : Int) (hc : 4096 < c) : Sp.mayN (capL c l) a = Sp.mayN l a := by
  by_cases hall : ∀ x ∈ l, x ≤ c
  · rw [capL_id c l hall]
  · have hno : ∃ x ∈ l, c < x := by
      apply Classical.byContradiction
      intro h
      exact hall fun x hx => Classical.byContradiction fun h2 => h ⟨x, hx, by omega⟩
    obtain ⟨x, hx, hxc⟩ := hno
    have f1 : Sp.mayN l a = false := by
      unfold Sp.mayN
      rw [decide_eq_false_iff_not]
      rintro ⟨h1, h2, _, h3, _⟩
      have := (h3 x hx).2
      have := (pow_le12 a ⟨h1, h2⟩).1
      omega
    have f2 : Sp.mayN (capL c l) a = false := by
      unfold Sp.mayN
      rw [decide_eq_false_iff_not]
      rintro ⟨h1, h2, _, h3, _⟩
      have := (h3 (min x c) (List.mem_map.2 ⟨x, hx, rfl⟩)).2
      have := (pow_le12 a ⟨h1, h2⟩).1
      omega
    rw [f1, f2]
/-- Which numbers may be need no cap. -/
theorem capL_of_may (c : Int) (l : List Int) (a : Int) (hc : 4096 < c) (h : Sp.mayN l a = true) : capL c l = l := by
  refine capL_id c l fun x hx => ?_
  unfold Sp.mayN at h
  rw [decide_eq_true_eq] at h
  have := (h.2.2.2.1 x hx).2
  have := (pow_le12 a ⟨h.1, h.2.1⟩).1
  omega
end Go.Proofs.Ytbldocbijihpgaa.Np

-- ---- Len8
/- math/bits.Len8: the library's text is walked. -/
namespace Go.Proofs.Ytbldocbijihpgaa
open Go.RowKit
set_option linter.unusedSimpArgs false
set_option linter.unusedVariables false
set_option maxRecDepth 100000 in
theorem len8tab_size8 : (Lib.len8tab.size : Int) = 256 := by
  have : Lib.len8tab.size = 256 := by decide
  omega
theorem len8_get8 (y : Nat) (h : y < Lib.len8tab.size) : ((Lib.len8tab[y]'h).toNat : Int) = Lib.len8 (y : Int) := by
  unfold Lib.len8
  rw [Int.toNat_natCast, getElem?_pos Lib.len8tab y h]
  rfl
theorem wrap_small8 (a : Nat) (ha : a ≤ 8) : RowKit.wrap64 (a : Int) = (a : Int) := by
  unfold RowKit.wrap64
  omega

set_option maxRecDepth 100000 in
theorem len8_calls (n : Nat) (w : World) (h : n < 256) :
    Calls Try.prog 47 #[.int .u8 (n : Int)] w fun e w' => e = .returned (.int .i64 (Lib.bitLen n : Int)) ∧ w = w' := by
  have e : Lib.len8 (n : Int) = (Lib.bitLen n : Int) := Lib.len8_eq ⟨n, h⟩
  have l : Lib.bitLen n ≤ 8 := Lib.bitLen_le8 ⟨n, h⟩
  go_enter Try.func47, Try.ntmps47
  go_wp2
  all_goals first
    | (go_ret; refine ⟨congrArg Ending.returned (congrArg (Value.int IntKind.i64) ?_), rfl⟩; go_light)
    | (exfalso
       go_light
       have hs := len8tab_size8
       omega)
  rw [len8_get8 n _, e, wrap_small8 _ l]
end Go.Proofs.Ytbldocbijihpgaa

-- ---- Bits
/- Rows of bits and their bytes: plain facts on lists and numbers. No program in sight. -/
namespace Go.Proofs.Ytbldocbijihpgaa.Bits
set_option linter.unusedSimpArgs false
set_option linter.unusedVariables false
open Go

def ofBits : List Bool → Nat
  | [] => 0
  | b :: t => b.toNat + 2 * ofBits t

theorem testBit_ofBits (l : List Bool) : ∀ i, (ofBits l).testBit i = l.getD i false := by
  induction l with
  | nil => intro i; simp [ofBits]
  | cons b t ih =>
    intro i
    cases i with
    | zero => simp only [ofBits, Nat.testBit_zero]; cases b <;> simp <;> omega
    | succ i =>
      have e : (b.toNat + 2 * ofBits t) / 2 = ofBits t := by cases b <;> simp <;> omega
      simp only [ofBits, Nat.testBit_succ, e, ih, List.getD_cons_succ]

theorem ofBits_lt (l : List Bool) : ofBits l < 2 ^ l.length := by
  induction l with
  | nil => simp [ofBits]
  | cons b t ih =>
    simp only [ofBits, List.length_cons, Nat.pow_succ]
    cases b <;> simp <;> omega

/-- The lowest n bits of a number, the lowest first. -/
def bitsOf (v n : Nat) : List Bool := (List.range n).map v.testBit

@[simp] theorem length_bitsOf (v n : Nat) : (bitsOf v n).length = n := by simp [bitsOf]
theorem bitsOf_succ (v n : Nat) : bitsOf v (n + 1) = bitsOf v n ++ [v.testBit n] := by simp [bitsOf, List.range_succ]
theorem getD_bitsOf (v n i : Nat) : (bitsOf v n).getD i false = (decide (i < n) && v.testBit i) := by
  rw [List.getD_eq_getElem?_getD]
  by_cases h : i < n
  · simp [bitsOf, List.getElem?_map, List.getElem?_range, h]
  · simp [bitsOf, h]
theorem ofBits_bitsOf (v n : Nat) : ofBits (bitsOf v n) = v % 2 ^ n := by
  apply Nat.eq_of_testBit_eq
  intro i
  rw [testBit_ofBits, getD_bitsOf, Nat.testBit_mod_two_pow]

/-- Byte k of a row of bits. -/
def byteAt (l : List Bool) (k : Nat) : Nat := ofBits ((l.drop (8 * k)).take 8)

theorem testBit_byteAt (l : List Bool) (k j : Nat) : (byteAt l k).testBit j = (decide (j < 8) && l.getD (8 * k + j) false) := by
  rw [byteAt, testBit_ofBits, List.getD_eq_getElem?_getD, List.getElem?_take]
  by_cases h : j < 8
  · simp [h, List.getElem?_drop]
  · simp [h]

theorem byteAt_lt (l : List Bool) (k : Nat) : byteAt l k < 256 := by
  have h := ofBits_lt ((l.drop (8 * k)).take 8)
  have h2 : ((l.drop (8 * k)).take 8).length ≤ 8 := by simp; omega
  have h3 : 2 ^ ((l.drop (8 * k)).take 8).length ≤ 2 ^ 8 := Nat.pow_le_pow_right (by decide) h2
  have h4 : byteAt l k = ofBits ((l.drop (8 * k)).take 8) := rfl
  omega

theorem getD_snoc (l : List Bool) (b : Bool) (i : Nat) : (l ++ [b]).getD i false = if i = l.length then b else l.getD i false := by
  simp only [List.getD_eq_getElem?_getD]
  rcases Nat.lt_trichotomy i l.length with h | h | h
  · rw [List.getElem?_append_left h, if_neg (by omega)]
  · subst h; simp
  · rw [if_neg (by omega), List.getElem?_append_right (by omega), List.getElem?_eq_none (by simp; omega), List.getElem?_eq_none (by omega)]

theorem testBit_bool (b : Bool) (n j : Nat) : (b.toNat * 2 ^ n).testBit j = (b && decide (j = n)) := by
  cases b
  · simp
  · simp [Nat.testBit_two_pow, eq_comm]

theorem byteAt_snoc (l : List Bool) (b : Bool) (k : Nat) : byteAt (l ++ [b]) k = if k = l.length / 8 then byteAt l k ||| (b.toNat * 2 ^ (l.length % 8)) else byteAt l k := by
  apply Nat.eq_of_testBit_eq
  intro j
  rw [testBit_byteAt, getD_snoc]
  by_cases h : k = l.length / 8
  · rw [if_pos h, Nat.testBit_or, testBit_byteAt, testBit_bool]
    by_cases hj : j < 8
    · by_cases hj2 : 8 * k + j = l.length
      · have : j = l.length % 8 := by omega
        have hm : l.length % 8 < 8 := by omega
        have hz : l.getD (8 * k + j) false = false := by rw [List.getD_eq_getElem?_getD, List.getElem?_eq_none (by omega)]; rfl
        rw [if_pos hj2, hz]; simp [hj, this, hm]
      · have : ¬ j = l.length % 8 := by omega
        rw [if_neg hj2]; simp [hj, this]
    · have : ¬ j = l.length % 8 := by omega
      simp [hj, this]
  · rw [if_neg h, testBit_byteAt]
    by_cases hj : j < 8
    · rw [if_neg (by omega)]
    · simp [hj]

def packN (l : List Bool) (n : Nat) : List Nat := (List.range n).map (byteAt l)
/-- The bytes of a row of bits. -/
def pack (l : List Bool) : List Nat := packN l ((l.length + 7) / 8)

@[simp] theorem length_packN (l : List Bool) (n : Nat) : (packN l n).length = n := by simp [packN]
@[simp] theorem length_pack (l : List Bool) : (pack l).length = (l.length + 7) / 8 := by simp [pack]
theorem getElem?_packN (l : List Bool) (n k : Nat) (h : k < n) : (packN l n)[k]? = some (byteAt l k) := by simp [packN, List.getElem?_range, h]
theorem packN_lt (l : List Bool) (n : Nat) : ∀ x ∈ packN l n, x < 256 := by
  intro x hx
  obtain ⟨k, _, rfl⟩ := List.mem_map.1 hx
  exact byteAt_lt l k

theorem packN_snoc (l : List Bool) (b : Bool) (n : Nat) : packN (l ++ [b]) n = (packN l n).set (l.length / 8) (byteAt l (l.length / 8) ||| (b.toNat * 2 ^ (l.length % 8))) := by
  apply List.ext_getElem?
  intro k
  rw [List.getElem?_set]
  by_cases hk : k < n
  · rw [getElem?_packN _ _ _ hk, byteAt_snoc, getElem?_packN _ _ _ hk]
    by_cases h : k = l.length / 8
    · subst h; simp [hk]
    · rw [if_neg h, if_neg (fun e => h e.symm)]
  · rw [List.getElem?_eq_none (by simp; omega), List.getElem?_eq_none (by simp; omega)]
    simp; omega

theorem byteAt_beyond (l : List Bool) (k : Nat) (h : l.length ≤ 8 * k) : byteAt l k = 0 := by
  rw [byteAt, List.drop_eq_nil_of_le h]; rfl

theorem packN_zero (n : Nat) : packN [] n = List.replicate n 0 := by
  apply List.ext_getElem?
  intro k
  by_cases hk : k < n
  · rw [getElem?_packN _ _ _ hk, byteAt_beyond [] k (by simp)]; simp [hk]
  · rw [List.getElem?_eq_none (by simp; omega), List.getElem?_eq_none (by simp; omega)]

/-- The bytes with one more, where a byte is full. -/
theorem packN_full (l : List Bool) (h : l.length % 8 = 0) : packN l (l.length / 8 + 1) = pack l ++ [0] := by
  have e : (l.length + 7) / 8 = l.length / 8 := by omega
  simp only [pack, packN, e, List.range_succ, List.map_append, List.map_cons, List.map_nil]
  rw [byteAt_beyond l _ (by omega)]
theorem packN_part (l : List Bool) (h : ¬ l.length % 8 = 0) : packN l (l.length / 8 + 1) = pack l := by
  have e : (l.length + 7) / 8 = l.length / 8 + 1 := by omega
  simp only [pack, e]
theorem pack_snoc (l : List Bool) (b : Bool) : pack (l ++ [b]) = packN (l ++ [b]) (l.length / 8 + 1) := by
  have e : ((l ++ [b]).length + 7) / 8 = l.length / 8 + 1 := by simp; omega
  simp only [pack, e]

/-- A bit as Go reckons it. -/
def bitOf (x : Int) : Bool := decide (x % 2 = 1)

theorem and_one_u64 (x : Int) (h0 : 0 ≤ x) (h1 : x < 18446744073709551616) : bits .and .u64 x 1 = ((bitOf x).toNat : Int) := by
  rw [u64_and x 1 h0 h1 (by decide) (by decide)]
  have : (1 : Int).toNat = 1 := rfl
  rw [this, nat_mask1]
  unfold bitOf
  by_cases h : x % 2 = 1 <;> simp [h] <;> omega

theorem bit_byte (x : Int) (h0 : 0 ≤ x) (h1 : x < 18446744073709551616) (k : Nat) (hk : k < 8) : bits .and .u64 x 1 % 256 * 2 ^ k % 256 = (((bitOf x).toNat * 2 ^ k : Nat) : Int) := by
  rw [and_one_u64 x h0 h1]
  have hp : (2 : Int) ^ k ≤ 128 ∧ 0 < (2 : Int) ^ k := by
    rcases (show k = 0 ∨ k = 1 ∨ k = 2 ∨ k = 3 ∨ k = 4 ∨ k = 5 ∨ k = 6 ∨ k = 7 by omega) with h | h | h | h | h | h | h | h <;> subst h <;> decide
  cases bitOf x <;> simp <;> omega

theorem or_byte (x : Int) (h0 : 0 ≤ x) (h1 : x < 18446744073709551616) (b k : Nat) (hb : b < 256) (hk : k < 8) :
    bits .or .u8 (b : Int) (bits .and .u64 x 1 % 256 * 2 ^ k % 256) = ((b ||| (bitOf x).toNat * 2 ^ k : Nat) : Int) := by
  rw [bit_byte x h0 h1 k hk, u8_or_nat b _ hb]
  have hp : 2 ^ k ≤ 128 := by
    rcases (show k = 0 ∨ k = 1 ∨ k = 2 ∨ k = 3 ∨ k = 4 ∨ k = 5 ∨ k = 6 ∨ k = 7 by omega) with h | h | h | h | h | h | h | h <;> subst h <;> decide
  cases bitOf x <;> simp <;> omega

theorem bitOf_shift (v i : Nat) : bitOf ((v : Int) / 2 ^ i) = v.testBit i := by
  unfold bitOf
  rw [Nat.testBit_eq_decide_div_mod_eq]
  congr 1
  have : ((v : Int) / 2 ^ i) = ((v / 2 ^ i : Nat) : Int) := by simp
  rw [this]
  apply propext
  omega

/-! ### The bits of a text -/
def byteS (s : ByteArray) (i : Nat) : Nat := (s.data.toList.getD i 0).toNat
theorem byteS_lt (s : ByteArray) (i : Nat) : byteS s i < 256 := UInt8.toNat_lt _
theorem byteS_eq (s : ByteArray) (i : Nat) (h : i < s.size) : (s[i]'h).toNat = byteS s i := by
  unfold byteS
  rw [List.getD_eq_getElem?_getD]
  have : s.data.toList[i]? = some (s[i]'h) := by
    rw [Array.getElem?_toList, Array.getElem?_eq_getElem (by exact h)]; rfl
  rw [this]; rfl
def bitS (s : ByteArray) (k : Nat) : Bool := (byteS s (k / 8)).testBit (k % 8)
def bitsS (s : ByteArray) : List Bool := (List.range (8 * s.size)).map (bitS s)
@[simp] theorem length_bitsS (s : ByteArray) : (bitsS s).length = 8 * s.size := by simp [bitsS]

theorem getD_bitsS (s : ByteArray) (k : Nat) : (bitsS s).getD k false = (decide (k < 8 * s.size) && bitS s k) := by
  rw [List.getD_eq_getElem?_getD]
  by_cases h : k < 8 * s.size
  · simp [bitsS, h]
  · simp [bitsS, h]

theorem and_bit (b j : Nat) (hb : b < 256) : bits .and .u64 (IntKind.u64.wrap ((b : Int) / 2 ^ j)) 1 = (((b.testBit j).toNat : Nat) : Int) := by
  have h1 : (b : Int) / 2 ^ j ≤ b := Int.ediv_le_self _ (by omega)
  have h0 : 0 ≤ (b : Int) / 2 ^ j := Int.ediv_nonneg (by omega) (Int.pow_nonneg (by decide))
  have e : IntKind.u64.wrap ((b : Int) / 2 ^ j) = (b : Int) / 2 ^ j := by rw [IntKind.wrap_u64]; omega
  rw [e, Bits.and_one_u64 _ h0 (by omega), bitOf_shift]

theorem ofBits_snoc (l : List Bool) (b : Bool) : ofBits (l ++ [b]) = ofBits l ||| (b.toNat * 2 ^ l.length) := by
  apply Nat.eq_of_testBit_eq
  intro i
  rw [Nat.testBit_or, testBit_ofBits, testBit_ofBits, testBit_bool, getD_snoc]
  by_cases h : i = l.length
  · subst h; simp
  · simp [h]

theorem or_shift (l : List Bool) (b : Bool) (h : l.length < 64) : bits .or .u64 (ofBits l : Int) ((b.toNat * 2 ^ l.length : Nat) : Int) = (ofBits (l ++ [b]) : Int) := by
  have h1 := ofBits_lt l
  have h2 : 2 ^ l.length ≤ 2 ^ 63 := Nat.pow_le_pow_right (by decide) (by omega)
  have h3 : (2 : Nat) ^ 63 = 9223372036854775808 := by decide
  rw [u64_or_nat _ _ (by omega) (by cases b <;> simp <;> omega), ofBits_snoc]

theorem ofBits_lt64 (l : List Bool) (h : l.length ≤ 64) : ofBits l < 18446744073709551616 := by
  have h1 := ofBits_lt l
  have h2 : 2 ^ l.length ≤ 2 ^ 64 := Nat.pow_le_pow_right (by decide) h
  have h3 : (2 : Nat) ^ 64 = 18446744073709551616 := by decide
  omega

theorem take_succ_getD (l : List Bool) (n : Nat) (h : n < l.length) : l.take (n + 1) = l.take n ++ [l.getD n false] := by
  rw [List.take_succ_eq_append_getElem h]
  congr 1
  rw [List.getD_eq_getElem?_getD, List.getElem?_eq_getElem h]; rfl

theorem ofBits_zero (l : List Bool) : ofBits l = 0 ↔ l.all (fun b => !b) = true := by
  induction l with
  | nil => simp [ofBits]
  | cons b t ih =>
    simp only [ofBits, List.all_cons, Bool.and_eq_true]
    rw [← ih]
    cases b <;> simp <;> omega

theorem or_step (l : List Bool) (b : Bool) (i : Nat) (hi : l.length = i) (h : i < 64) : bits .or .u64 (ofBits l : Int) (IntKind.u64.wrap ((b.toNat : Int) * 2 ^ i)) = (ofBits (l ++ [b]) : Int) := by
  subst hi
  have h2 : 2 ^ l.length ≤ 2 ^ 63 := Nat.pow_le_pow_right (by decide) (by omega)
  have h3 : (2 : Nat) ^ 63 = 9223372036854775808 := by decide
  have e : IntKind.u64.wrap ((b.toNat : Int) * 2 ^ l.length) = ((b.toNat * 2 ^ l.length : Nat) : Int) := by
    rw [IntKind.wrap_u64]
    have : ((b.toNat : Int) * 2 ^ l.length) = ((b.toNat * 2 ^ l.length : Nat) : Int) := by simp
    rw [this]
    have hlt : b.toNat * 2 ^ l.length < 18446744073709551616 := by
      generalize 2 ^ l.length = P at h2 h3
      cases b
      · simp
      · simp; omega
    generalize b.toNat * 2 ^ l.length = M at hlt
    omega
  rw [e, or_shift l b h]

theorem drop_step (s : ByteArray) (k i : Nat) (h : k + i < 8 * s.size) : ((bitsS s).drop k).take (i + 1) = ((bitsS s).drop k).take i ++ [bitS s (k + i)] := by
  rw [take_succ_getD _ _ (by simp; omega)]
  congr 2
  rw [List.getD_eq_getElem?_getD, List.getElem?_drop, ← List.getD_eq_getElem?_getD, getD_bitsS]
  simp [h]

theorem run_ix {P : Program} {T : TypeId} (h : P.underlying T = some .string) (s : ByteArray) (i : Int) (j : Nat) (hij : i = (j : Int)) (hj : j < s.size) (w : World) :
    (Instr.index T (.string s) (.int .i64 i)).run P w = .ok (.int .u8 (byteS s j : Int)) w := by
  subst hij
  rw [run_index_string w T s .i64 (j : Int) h, dif_pos ⟨by omega, by omega⟩, ← byteS_eq s j hj]
  simp
end Go.Proofs.Ytbldocbijihpgaa.Bits

-- ---- Va
/- vint: a number out of bytes: what the calls answer. Conditions: the text is not longer than a million million bytes. -/
namespace Go.Proofs.Ytbldocbijihpgaa.VintH
set_option linter.unusedSimpArgs false
set_option linter.unusedVariables false
open Go.RowKit Mix _root_.Go.Proofs.Ytbldocbijihpgaa.Own Vt Np Bits
attribute [local go_sem] Own.max_int Own.min_int

theorem and127 (b : Nat) (h : b < 256) : bits .and .u8 (b : Int) 127 = ((b % 128 : Nat) : Int) := by
  have e := u8_and (b : Int) 127 (by omega) (by omega) (by decide) (by decide)
  rw [e, Int.toNat_natCast]
  have : (127 : Int).toNat = 2 ^ 7 - 1 := by decide
  rw [this, Nat.and_two_pow_sub_one_eq_mod]
/-- A group is laid above what there is. -/
theorem or_shl (acc b i : Nat) (hi : i ≤ 9) (hacc : acc < 128 ^ i) (hb : b < 128) (h9 : i = 9 → b ≤ 1) :
    bits .or .u64 (acc : Int) (IntKind.u64.wrap ((b : Int) * 2 ^ (7 * i))) = ((acc + 128 ^ i * b : Nat) : Int) := by
  have hp : (128 : Nat) ^ i = 2 ^ (7 * i) := by rw [Nat.pow_mul]
  have hle : b * 2 ^ (7 * i) < 18446744073709551616 := by
    rcases Nat.lt_or_ge i 9 with h | h
    · have h1 : 2 ^ (7 * i) ≤ 2 ^ 56 := Nat.pow_le_pow_right (by decide) (by omega)
      have h2 : b * 2 ^ (7 * i) ≤ 127 * 2 ^ 56 := Nat.mul_le_mul (by omega) h1
      omega
    · have : i = 9 := by omega
      subst this
      have := h9 rfl
      have h2 : b * 2 ^ (7 * 9) ≤ 1 * 2 ^ 63 := Nat.mul_le_mul (by omega) (Nat.le_refl _)
      omega
  have hac : acc < 18446744073709551616 := by
    have h1 : 2 ^ (7 * i) ≤ 2 ^ 63 := Nat.pow_le_pow_right (by decide) (by omega)
    rw [hp] at hacc; omega
  have e : IntKind.u64.wrap ((b : Int) * 2 ^ (7 * i)) = ((b * 2 ^ (7 * i) : Nat) : Int) := by
    have e0 : (b : Int) * 2 ^ (7 * i) = ((b * 2 ^ (7 * i) : Nat) : Int) := by simp
    rw [e0, IntKind.wrap_u64]; omega
  rw [e, u64_or_nat _ _ hac hle, hp, Nat.mul_comm (2 ^ (7 * i)) b]
  congr 1
  rw [Nat.mul_comm b, Nat.add_comm, Nat.or_comm]
  exact (Nat.two_pow_add_eq_or_of_lt (by rw [← hp]; exact hacc) b).symm
theorem bitLen_gt (b i : Nat) (hb : b < 128) (hi : i ≤ 9) : decide ((64 : Int) - 7 * (i : Int) < (Lib.bitLen b : Int)) = decide (i = 9 ∧ 1 < b) := by
  have key : ∀ x : Fin 128, (Lib.bitLen x.val ≤ 7) ∧ (1 < Lib.bitLen x.val ↔ 1 < x.val) := by decide
  have h := key ⟨b, hb⟩
  simp only at h
  rw [decide_eq_decide]
  omega
def comb (i acc : Nat) (r : Nat × Nat × Nat) : Nat × Nat × Nat := if r.2.2 = 0 then (acc + 128 ^ i * r.1, i + r.2.1, 0) else (0, 0, r.2.2)

theorem bsOf_at (s : ByteArray) (i : Nat) (h : i < s.size) : (bsOf s).drop i = byteS s i :: (bsOf s).drop (i + 1) := by
  have hl := length_bsOf s
  rw [List.drop_eq_getElem_cons (by omega)]
  congr 1
  unfold bsOf byteS
  rw [List.getElem_map, List.getD_eq_getElem?_getD, List.getElem?_eq_getElem (by simpa [bsOf] using hl ▸ h)]; rfl
theorem goV_cons (d : Nat) (f : Bool) (b : Nat) (t : List Nat) : goV (d + 1) f (b :: t) = if d = 0 ∧ 1 < b % 128 then (0, 0, 3) else if b < 128 then (if b = 0 ∧ f = false then (0, 0, 3) else (b, 1, 0))
    else if (goV d false t).2.2 = 0 then (b % 128 + 128 * (goV d false t).1, (goV d false t).2.1 + 1, 0) else (0, 0, (goV d false t).2.2) := rfl
/-- One group more. -/
theorem comb_more (bs : List Nat) (i acc b : Nat) (f : Bool) (t : List Nat) (hi : i ≤ 9) (h9 : ¬ (i = 9 ∧ 1 < b % 128)) (hb : 128 ≤ b) :
    comb i acc (goV (10 - i) f (b :: t)) = comb (i + 1) (acc + 128 ^ i * (b % 128)) (goV (10 - (i + 1)) false t) := by
  obtain ⟨d, hd⟩ : ∃ d, 10 - i = d + 1 := ⟨9 - i, by omega⟩
  have hd2 : 10 - (i + 1) = d := by omega
  rw [hd, hd2, goV_cons, if_neg (by omega), if_neg (by omega)]
  unfold comb
  by_cases h : (goV d false t).2.2 = 0
  · rw [if_pos h, if_pos rfl, if_pos h]
    have e : 128 ^ i * (b % 128 + 128 * (goV d false t).1) = 128 ^ i * (b % 128) + 128 ^ (i + 1) * (goV d false t).1 := by rw [Nat.mul_add, Nat.pow_succ, Nat.mul_assoc]
    simp only [e, Prod.mk.injEq]
    exact ⟨by omega, by omega, trivial⟩
  · rw [if_neg h, if_neg h, if_neg h]
theorem comb_bad (i acc b : Nat) (f : Bool) (t : List Nat) (hi : i ≤ 9) (h9 : i = 9 ∧ 1 < b % 128) : comb i acc (goV (10 - i) f (b :: t)) = (0, 0, 3) := by
  obtain ⟨d, hd⟩ : ∃ d, 10 - i = d + 1 := ⟨9 - i, by omega⟩
  rw [hd, goV_cons, if_pos (by omega)]; rfl
theorem comb_last (i acc b : Nat) (f : Bool) (t : List Nat) (hi : i ≤ 9) (h9 : ¬ (i = 9 ∧ 1 < b % 128)) (hb : b < 128) (h0 : ¬ (b = 0 ∧ f = false)) : comb i acc (goV (10 - i) f (b :: t)) = (acc + 128 ^ i * b, i + 1, 0) := by
  obtain ⟨d, hd⟩ : ∃ d, 10 - i = d + 1 := ⟨9 - i, by omega⟩
  rw [hd, goV_cons, if_neg (by omega), if_pos hb, if_neg h0]; rfl
theorem comb_zero (i acc b : Nat) (f : Bool) (t : List Nat) (hi : i ≤ 9) (h9 : ¬ (i = 9 ∧ 1 < b % 128)) (hb : b < 128) (h0 : b = 0 ∧ f = false) : comb i acc (goV (10 - i) f (b :: t)) = (0, 0, 3) := by
  obtain ⟨d, hd⟩ : ∃ d, 10 - i = d + 1 := ⟨9 - i, by omega⟩
  rw [hd, goV_cons, if_neg (by omega), if_pos hb, if_pos h0]; rfl
theorem comb_start (r : Nat × Nat × Nat) (h : r.2.2 = 0 ∨ r = (0, 0, 2) ∨ r = (0, 0, 3)) : comb 0 0 r = r := by
  unfold comb
  rcases h with h | rfl | rfl
  · obtain ⟨a, b, c⟩ := r
    simp only at h; subst h; simp
  · rfl
  · rfl

set_option maxRecDepth 20000 in
set_option maxHeartbeats 4000000 in
theorem vint_calls (s : ByteArray) (w : World) (hs : s.size ≤ 1000000000000) (r : Nat × Nat × Nat) (hr : r = goV 10 true (bsOf s)) :
    Calls Try.prog 43 #[.agg #[.string s]] w fun e w' => e = .returned (.tuple #[.int .u64 (r.1 : Int), .int .i64 (r.2.1 : Int), .int .i64 (r.2.2 : Int)]) ∧ Below w.heap.size w w' := by
  obtain ⟨N, hN⟩ : ∃ N : Nat, N = min s.size 10 := ⟨_, rfl⟩
  have hmin : Own.mn (s.size : Int) 10 = (N : Int) := by rw [hN, Own.mn_eq]; omega
  have hN10 : N ≤ 10 := by omega
  have hNs : N ≤ s.size := by omega
  have hNe : N = 10 ∨ N = s.size := by omega
  have HR := kept hr
  clear hr hN
  go_enter Try.func43, Try.ntmps43
  go_wp2_with fail
  generalize hwa : World.alloc w _ = wa
  have hG : Blk wa w.heap.size #[.string s] 93 := by rw [← hwa]; exact Blk.fresh _ _ _
  have hcell := hG.cell (i := 0) rfl
  have HB := kept (show Below w.heap.size w wa by rw [← hwa]; exact (Below.refl _ _).alloc (Nat.le_refl _) _)
  have HSt := kept (show comb 0 0 (goV (10 - 0) (decide (0 = 0)) ((bsOf s).drop 0)) = r by rw [List.drop_zero]; rw [HR.out]; exact comb_start _ (goV_err 10 true _))
  clear hwa
  go_loopw [2, 11] (fun s2 s11 wr => ∃ i acc : Nat, i ≤ N ∧ s2 = .int .u64 (acc : Int) ∧ s11 = .int .i64 (i : Int) ∧ wr = wa ∧ acc < 128 ^ i ∧ comb i acc (goV (10 - i) (decide (i = 0)) ((bsOf s).drop i)) = r) (fun _ s11 _ => N - (intOf s11).toNat)
  case atStart => exact ⟨0, 0, by omega, rfl, rfl, rfl, by decide, HSt.out⟩
  case round =>
    obtain ⟨i, acc, hiN, rfl, rfl, rfl, hacc, hst⟩ := hrel
    have HAcc := kept hacc
    have HSt2 := kept hst
    clear hacc hst
    by_cases hlt : i < N
    · have his : i < s.size := by omega
      have hat := bsOf_at s i his
      have hbe := byteS_eq s i his
      have hb := byteS_lt s i
      obtain ⟨b, hbb⟩ : ∃ b, b = byteS s i := ⟨_, rfl⟩
      rw [← hbb] at hat hbe hb
      have h3 := HSt2.out
      rw [hat] at h3
      have e127 := and127 b hb
      have hbl := bitLen_gt (b % 128) i (by omega) (by omega)
      have HL8 := kept (len8_calls (b % 128) wr (by omega))
      have HSt3 := kept h3
      clear hat hbb h3
      by_cases h9 : i = 9 ∧ 1 < b % 128
      · have t1 : decide ((64 : Int) - 7 * (i : Int) < (Lib.bitLen (b % 128) : Int)) = true := by rw [hbl]; exact decide_eq_true h9
        have hf := HSt3.out
        rw [comb_bad i acc b _ _ (by omega) h9] at hf
        have HF := kept hf.symm
        clear hf hbl h9
        go_wp2_with (first | (go_at_call 47; refine HL8.out.mono ?_; rintro e w1 ⟨rfl, rfl⟩))
        refine bodyPost_ret (results_tmp3 rfl _ _ _) rfl ⟨?_, HB.out⟩
        rw [HF.out]; rfl
      · have t1 : decide ((64 : Int) - 7 * (i : Int) < (Lib.bitLen (b % 128) : Int)) = false := by rw [hbl]; exact decide_eq_false h9
        have hos := or_shl acc (b % 128) i (by omega) HAcc.out (by omega) (by omega)
        have hbm : ((b : Int) % 128) = ((b % 128 : Nat) : Int) := by omega
        obtain ⟨acc2, hacc2⟩ : ∃ a, a = acc + 128 ^ i * (b % 128) := ⟨_, rfl⟩
        rw [← hacc2, ← hbm] at hos
        clear hbm
        have hA2 : acc2 < 128 ^ (i + 1) := by
          have h1 := HAcc.out
          have h2 := Nat.mul_le_mul_left (128 ^ i) (show b % 128 ≤ 127 by omega)
          rw [hacc2, Nat.pow_succ]; omega
        have HA2 := kept hA2
        clear hA2
        by_cases h128 : b < 128
        · have h3 := HSt3.out
          have e3 : acc + 128 ^ i * b = acc2 := by rw [hacc2, Nat.mod_eq_of_lt h128]
          by_cases h0 : b = 0 ∧ decide (i = 0) = false
          · rw [comb_zero i acc b _ _ (by omega) h9 h128 h0] at h3
            have hi0 : 0 < i := by have := of_decide_eq_false h0.2; omega
            obtain ⟨hb0, _⟩ := h0
            have HF := kept h3.symm
            subst hb0
            clear h3 hbl h9 hacc2 e3
            go_wp2_with (first | (go_at_call 47; refine HL8.out.mono ?_; rintro e w1 ⟨rfl, rfl⟩))
            refine bodyPost_ret (results_tmp3 rfl _ _ _) rfl ⟨?_, HB.out⟩
            rw [HF.out]; rfl
          · rw [comb_last i acc b _ _ (by omega) h9 h128 h0, e3] at h3
            have HF := kept h3.symm
            by_cases hb0 : b = 0
            · have hi0 : i = 0 := by
                apply Classical.byContradiction
                intro hne
                exact h0 ⟨hb0, decide_eq_false hne⟩
              have tb : ((b : Int) == 0) = true := by rw [beq_iff_eq]; omega
              have ti : decide (0 < i) = false := decide_eq_false (by omega)
              clear h3 hbl h9 hacc2 e3 h0 hi0 hb0
              go_wp2_with (first | (go_at_call 47; refine HL8.out.mono ?_; rintro e w1 ⟨rfl, rfl⟩))
              refine bodyPost_ret (results_tmp3 rfl _ _ _) rfl ⟨?_, HB.out⟩
              rw [HF.out]; rfl
            · clear h3 hbl h9 hacc2 e3 h0
              go_wp2_with (first | (go_at_call 47; refine HL8.out.mono ?_; rintro e w1 ⟨rfl, rfl⟩))
              refine bodyPost_ret (results_tmp3 rfl _ _ _) rfl ⟨?_, HB.out⟩
              rw [HF.out]; rfl
        · have h3 := HSt3.out
          rw [comb_more (bsOf s) i acc b _ _ (by omega) h9 (by omega), ← hacc2] at h3
          have HSt4 := kept h3
          clear h3 hbl h9 hacc2
          go_wp2_with (first | (go_at_call 47; refine HL8.out.mono ?_; rintro e w1 ⟨rfl, rfl⟩))
          go_roundw
          case rel => exact ⟨i + 1, acc2, by omega, rfl, by go_num, trivial, HA2.out, by simpa using HSt4.out⟩
          case measure => simp [intOf]; omega
    · have hie : i = N := by omega
      subst hie
      have h3 := HSt2.out
      by_cases h10 : i = 10
      · subst h10
        have HF : Kept (r = (0, 0, 3)) := kept (by rw [← h3]; rfl)
        clear h3 hNe hlt
        go_wp2_with fail
        refine bodyPost_ret (results_tmp3 rfl _ _ _) rfl ⟨?_, HB.out⟩
        rw [HF.out]; rfl
      · have his : i = s.size := by omega
        have hd : (bsOf s).drop i = [] := List.drop_eq_nil_of_le (by rw [length_bsOf]; omega)
        have HF : Kept (r = (0, 0, 2)) := kept (by
          rw [hd, show 10 - i = (9 - i) + 1 by omega] at h3
          rw [← h3]; rfl)
        have hlt10 : s.size < 10 := by omega
        clear h3 hNe hlt hd
        go_wp2_with fail
        refine bodyPost_ret (results_tmp3 rfl _ _ _) rfl ⟨?_, HB.out⟩
        rw [HF.out]; rfl

/-- A number at a place. -/
theorem read_calls (s : ByteArray) (a : Int) (w : World) (hs : s.size ≤ 1000000000000) (r1 r2 r3 : Int) (hr : vgetE s a = (r1, r2, r3)) :
    Calls Try.prog 42 #[.string s, .int .i64 a, .func (.func 43) #[] #[]] w fun e w' => e = .returned (.tuple #[.int .u64 r1, .int .i64 r2, .int .i64 r3]) ∧ Below w.heap.size w w' := by
  by_cases h0 : a < 0
  · have t1 : decide (a < 0) = true := decide_eq_true h0
    have e : vgetE s a = (0, 0, 1) := by unfold vgetE; rw [if_pos (.inl h0)]
    rw [e] at hr
    cases hr
    clear e
    go_enter Try.func42, Try.ntmps42
    go_wp2_with fail
    go_ret3
    exact ⟨rfl, Below.refl _ _⟩
  · have t1 : decide (a < 0) = false := decide_eq_false h0
    by_cases h1 : (s.size : Int) < a
    · have t2 : decide ((s.size : Int) < a) = true := decide_eq_true h1
      have e : vgetE s a = (0, 0, 1) := by unfold vgetE; rw [if_pos (.inr h1)]
      rw [e] at hr
      cases hr
      clear e
      go_enter Try.func42, Try.ntmps42
      go_wp2_with fail
      go_ret3
      exact ⟨rfl, Below.refl _ _⟩
    · have t2 : decide ((s.size : Int) < a) = false := decide_eq_false h1
      obtain ⟨m, rfl⟩ := Int.eq_ofNat_of_zero_le (show 0 ≤ a by omega)
      have hm : m ≤ s.size := by omega
      have hz : (s.extract m s.size).size ≤ 1000000000000 := by simp [ByteArray.size_extract]; omega
      obtain ⟨r, hrr⟩ : ∃ r, r = goV 10 true (bsOf (s.extract m s.size)) := ⟨_, rfl⟩
      have hc := vint_calls (s.extract m s.size) w hz r hrr
      have hbs : bsOf (s.extract m s.size) = (bsOf s).drop m := by
        rw [bsOf_extract, List.take_of_length_le (by rw [length_bsOf]; omega)]
      have he : vgetE s (m : Int) = if r.2.2 = 0 then ((r.1 : Int), (m : Int) + (r.2.1 : Int), 0) else (0, 0, (r.2.2 : Int)) := by
        unfold vgetE
        rw [if_neg (by omega), Int.toNat_natCast, ← hbs, ← hrr]
      rw [hr] at he
      have hsz := goV_size 10 true (bsOf (s.extract m s.size))
      rw [← hrr] at hsz
      obtain ⟨q1, q2, q3⟩ := r
      simp only at hc he hsz
      have HC := kept hc
      have HE := kept he
      clear hc he hrr hbs hz hr h0 h1
      by_cases h3 : q3 = 0
      · subst h3
        obtain ⟨_, _, hq⟩ := hsz rfl
        go_enter Try.func42, Try.ntmps42
        go_wp2_with (first | (go_at_call 43; refine HC.out.mono ?_; rintro e w1 ⟨rfl, hb⟩))
        go_ret3
        have h := HE.out
        rw [if_pos trivial] at h
        simp only [Prod.mk.injEq] at h
        obtain ⟨rfl, rfl, rfl⟩ := h
        exact ⟨by first | rfl | trace_state, hb⟩
      · have t3 : ((q3 : Int) != 0) = true := by rw [bne_iff_ne]; omega
        go_enter Try.func42, Try.ntmps42
        go_wp2_with (first | (go_at_call 43; refine HC.out.mono ?_; rintro e w1 ⟨rfl, hb⟩))
        go_ret3
        have h := HE.out
        rw [if_neg h3] at h
        simp only [Prod.mk.injEq] at h
        obtain ⟨rfl, rfl, rfl⟩ := h
        exact ⟨by first | rfl | trace_state, hb⟩
theorem get_calls (s : ByteArray) (a : Int) (w : World) (hs : s.size ≤ 1000000000000) (r1 r2 r3 : Int) (hr : vgetE s a = (r1, r2, r3)) :
    Calls Try.prog 31 #[.string s, .int .i64 a] w fun e w' => e = .returned (.tuple #[.int .u64 r1, .int .i64 r2, .int .i64 r3]) ∧ Below w.heap.size w w' := by
  have HC := kept (read_calls s a w hs r1 r2 r3 hr)
  clear hr
  go_enter Try.func31, Try.ntmps31
  go_wp2_with (first | (go_at_call 42; refine HC.out.mono ?_; rintro e w1 ⟨rfl, hb⟩))
  go_ret3
  exact ⟨rfl, hb⟩
end Go.Proofs.Ytbldocbijihpgaa.VintH

-- ---- PAx25

namespace Go.Proofs.Ytbldocbijihpgaa.PA
open Go.RowKit Go.Proofs.YtbldocbijihpgaaW.PrintWords Go.Proofs.YtbldocbijihpgaaW.PrintLast Go.Proofs.YtbldocbijihpgaaW.PrintMore
attribute [local go_sem] max2_int min2_int max_two min_two max_three min_three max_four min_four   -- for this text's walks alone
set_option linter.unusedVariables false
set_option linter.unusedSimpArgs false

/-! ### vint_Put: function 34 -/
def vint_Put.l0 : Nat → Int → List Int → Option (ByteArray)
  | 0, _, _ => none
  | k + 1, x0, x3 => if x0 ≥ 128 then (if x3.length < 140737488355328 then (vint_Put.l0 k (x0 / 128) (x3 ++ [Go.bits .or .u8 ((x0) % 256) 128])) else (none)) else (if x3.length < 140737488355328 then (some (strOfNums (x3 ++ [(x0) % 256]))) else (none))
def vint_Put.f (k : Nat) (a0 : Int) : Option (ByteArray) := vint_Put.l0 k a0 ([] : List Int)
theorem vint_Put.mono_l : ∀ k, (∀ y0 y1, LeO (vint_Put.l0 k y0 y1) (vint_Put.l0 (k + 1) y0 y1))
  | 0 => fun _ _ r h => by simp [vint_Put.l0] at h
  | k + 1 => by
    have ih0 := vint_Put.mono_l k
    · intro y0 y1
      unfold vint_Put.l0
      repeat' first
      | (with_reducible exact ih0 _ _)
      | (with_reducible exact LeO.refl _)
      | (with_reducible exact LeO.none _)
      | (with_reducible refine LeO.ite ?_ ?_)
      | (with_reducible refine LeO.bind ?_ (fun _ => ?_))
      | exact ih0 _ _
      | exact LeO.none _
      | refine LeO.ite ?_ ?_
      | refine LeO.bind ?_ (fun _ => ?_)
theorem vint_Put.mono : ∀ a0 k, LeO (vint_Put.f k a0) (vint_Put.f (k + 1) a0) := by
  intro a0 k
  have ih0 := vint_Put.mono_l k
  unfold vint_Put.f
  repeat' first
      | (with_reducible exact ih0 _ _)
      | (with_reducible exact LeO.refl _)
      | (with_reducible exact LeO.none _)
      | (with_reducible refine LeO.ite ?_ ?_)
      | (with_reducible refine LeO.bind ?_ (fun _ => ?_))
      | exact ih0 _ _
      | exact LeO.none _
      | refine LeO.ite ?_ ?_
      | refine LeO.bind ?_ (fun _ => ?_)
set_option maxHeartbeats 8000000 in
set_option maxRecDepth 100000 in
theorem vint_Put.calls (k : Nat) (a0 : Int) (r : ByteArray) (w : World) (h : vint_Put.f k a0 = some r) :
    Calls Try.prog 34 #[.int .u64 a0] w fun e w' => e = .returned (.string r) ∧ Below w.heap.size w w' := by
  have HB := Aside0.mk (Below.refl w.heap.size w)
  have H : (vint_Put.l0 k a0 ([] : List Int)) = some r := h
  clear h
  have H' := Aside0.mk H
  clear H
  go_enter Try.func34, Try.ntmps34
  go_wp2
  go_loopg [0, 3] k (fun kq v0 v3 w' => ∃ (x0_1 : Int) (x3_1 : List Int), v0 = .int .u64 x0_1 ∧ Aside0 (vint_Put.l0 kq x0_1 x3_1 = some r) ∧ Aside0 (kq ≤ k) ∧ Aside0 (Kd.R (Kd.int .u8) 5 w' w.heap.size (fun _ => True) v3 x3_1) ∧ Aside0 (Below w.heap.size w w'))
  case atStart => exact ⟨(a0), (([] : List Int)), (by first | rfl | (simp; done) | (simp [*]; done)), H', ⟨Nat.le_refl _⟩, ⟨by first | exact Kd.R_nil _ _ _ _ _ | exact Kd.N_nil _ _ _ _ _ | exact Kd.V_nil _ _ _ _ _ | exact Kd.Q_nil _ _ _ _ _ | exact Kd.S_nil _ _ _ _ _⟩, ⟨by repeat (first | (with_reducible first | exact HB.out | apply below_alloc | apply pw_below_drewN | apply below_drew1) | exact HB.out)⟩⟩
  case round =>
    clear H'
    obtain ⟨x0_1, x3_1, rfl, HA, HK1, HO_3, HB⟩ := hrel
    cases gk with
    | zero => exact absurd HA.out (by simp [vint_Put.l0])
    | succ k1 =>
      have H := HA.out
      clear HA
      simp only [vint_Put.l0] at H
      by_cases c2 : x0_1 ≥ 128
      · rw [if_pos c2] at H
        have c2b0 : decide (128 ≤ x0_1) = true := decide_eq_true c2
        clear c2
        by_cases c3 : x3_1.length < 140737488355328
        · rw [if_pos c3] at H
          have LMc3 := Aside0.mk c3
          clear c3
          obtain ⟨y145, hy145⟩ : ∃ y_ : List Int, y_ = (x3_1 ++ [Go.bits .or .u8 ((x0_1) % 256) 128]) := ⟨_, rfl⟩
          replace H : (vint_Put.l0 k1 (x0_1 / 128) y145) = some r := by first | (rw [hy145]; with_reducible exact H) | (have H2_ := (Option.bind_some _ _).symm.trans H; rw [hy145]; with_reducible exact H2_) | (have H2_ := (Option.bind_some _ _).symm.trans H; with_reducible exact H2_) | with_reducible exact H | (rw [hy145]; exact H) | exact H
          have Ny145 := Aside0.mk hy145
          clear hy145
          have H' := Aside0.mk H
          clear H
          go_wp2_with (first | ((with_reducible refine gate_builtin (b := .append) (xs := #[.tmp 8, .tmp 12]) rfl ?_); at_builtin; refine Kd.R_append (Kd.int .u8) (w0 := w) w.heap.size rfl (.tmp 8) (.tmp 12) 45 5 (.int .u8 0) 1 rfl Try.underlying45 info5 rfl (by decide) (by omega) u3 x3_1 (Go.bits .or .u8 ((x0_1) % 256) 128) [.int .u8 (Go.bits .or .u8 ((x0_1) % 256) 128)] (fun _ => True) (fun _ => False) rfl rfl ?aP (fun _ hk => hk.elim) ?aF ?aO ?aB ?aS ?aL ?_; (case aP => exact rfl); (case aB => exact (by repeat (first | (with_reducible first | exact HB.out | apply below_alloc | apply pw_below_drewN | apply below_drew1) | exact HB.out))); (case aF => exact (fun _ _ => trivial)); (case aO => exact (by (with_reducible repeat (first | apply Kd.R_alloc | apply Kd.R_drewN | apply Kd.R_drew)); exact HO_3.out)); (case aS => exact (below_size (by repeat (first | (with_reducible first | exact HB.out | apply below_alloc | apply pw_below_drewN | apply below_drew1) | exact HB.out)))); (case aL => have := LMc3.out; omega); intro v146 w4 ho hb hg hat; rw [← Ny145.out] at ho; have n0_ := Aside0.mk (hb); have n1_ := Aside0.mk (ho); clear HB; clear HO_3; have HB := n0_; have HO147 := n1_; clear n0_ n1_; clear ho hb hg hat))
          go_roundg k1
          case measure => have := HK1.out; omega
          case rel => exact ⟨(x0_1 / 128), (y145), (by first | rfl | (simp; done) | (simp [*]; done)), H', ⟨by have := HK1.out; omega⟩, ⟨by (with_reducible repeat (first | apply Kd.R_alloc | apply Kd.R_drewN | apply Kd.R_drew)); exact HO147.out⟩, ⟨by repeat (first | (with_reducible first | exact HB.out | apply below_alloc | apply pw_below_drewN | apply below_drew1) | exact HB.out)⟩⟩
        · rw [if_neg c3] at H
          exact absurd H (by simp)
      · rw [if_neg c2] at H
        have c2b0 : decide (128 ≤ x0_1) = false := decide_eq_false c2
        clear c2
        by_cases c5 : x3_1.length < 140737488355328
        · rw [if_pos c5] at H
          have LMc5 := Aside0.mk c5
          clear c5
          obtain ⟨y148, hy148⟩ : ∃ y_ : List Int, y_ = (x3_1 ++ [(x0_1) % 256]) := ⟨_, rfl⟩
          replace H : (some (strOfNums y148)) = some r := by first | (rw [hy148]; with_reducible exact H) | (have H2_ := (Option.bind_some _ _).symm.trans H; rw [hy148]; with_reducible exact H2_) | (have H2_ := (Option.bind_some _ _).symm.trans H; with_reducible exact H2_) | with_reducible exact H | (rw [hy148]; exact H) | exact H
          have Ny148 := Aside0.mk hy148
          clear hy148
          obtain rfl := Option.some.inj H
          go_wp2_with (first | ((with_reducible refine gate_builtin (b := .append) (xs := #[.tmp 14, .tmp 17]) rfl ?_); at_builtin; refine Kd.R_append (Kd.int .u8) (w0 := w) w.heap.size rfl (.tmp 14) (.tmp 17) 45 5 (.int .u8 0) 1 rfl Try.underlying45 info5 rfl (by decide) (by omega) u3 x3_1 ((x0_1) % 256) [.int .u8 ((x0_1) % 256)] (fun _ => True) (fun _ => False) rfl rfl ?aP (fun _ hk => hk.elim) ?aF ?aO ?aB ?aS ?aL ?_; (case aP => exact rfl); (case aB => exact (by repeat (first | (with_reducible first | exact HB.out | apply below_alloc | apply pw_below_drewN | apply below_drew1) | exact HB.out))); (case aF => exact (fun _ _ => trivial)); (case aO => exact (by (with_reducible repeat (first | apply Kd.R_alloc | apply Kd.R_drewN | apply Kd.R_drew)); exact HO_3.out)); (case aS => exact (below_size (by repeat (first | (with_reducible first | exact HB.out | apply below_alloc | apply pw_below_drewN | apply below_drew1) | exact HB.out)))); (case aL => have := LMc5.out; omega); intro v149 w6 ho hb hg hat; rw [← Ny148.out] at ho; have n0_ := Aside0.mk (hb); have n1_ := Aside0.mk (ho); clear HB; clear HO_3; have HB := n0_; have HO150 := n1_; clear n0_ n1_; clear ho hb hg hat; have hcv7 := own_string (P := Try.prog) Try.underlying45 Try.underlying5 Try.underlying9 (Kd.own_of_R HO150.out)))
          go_ret
          exact ⟨by first | rfl | (simp [errW_none, errW_some] <;> rfl) | (simp [*, errW_none, errW_some] <;> rfl), by repeat (first | (with_reducible first | exact HB.out | apply below_alloc | apply pw_below_drewN | apply below_drew1) | exact HB.out)⟩
        · rw [if_neg c5] at H
          exact absurd H (by simp)

end Go.Proofs.Ytbldocbijihpgaa.PA

-- ---- PAx30

namespace Go.Proofs.Ytbldocbijihpgaa.PA
open Go.RowKit Go.Proofs.YtbldocbijihpgaaW.PrintWords Go.Proofs.YtbldocbijihpgaaW.PrintLast Go.Proofs.YtbldocbijihpgaaW.PrintMore
attribute [local go_sem] max2_int min2_int max_two min_two max_three min_three max_four min_four   -- for this text's walks alone
set_option linter.unusedVariables false
set_option linter.unusedSimpArgs false

/-! ### wringerref1_PutVint: function 36 -/
def wringerref1_PutVint.l0 : Nat → Int → List Int → Option (ByteArray)
  | 0, _, _ => none
  | k + 1, x0, x3 => if x0 ≥ 128 then (if x3.length < 140737488355328 then (wringerref1_PutVint.l0 k (x0 / 128) (x3 ++ [Go.bits .or .u8 ((x0) % 256) 128])) else (none)) else (if x3.length < 140737488355328 then (some (strOfNums (x3 ++ [(x0) % 256]))) else (none))
def wringerref1_PutVint.f (k : Nat) (a0 : Int) : Option (ByteArray) := wringerref1_PutVint.l0 k a0 ([] : List Int)
theorem wringerref1_PutVint.mono_l : ∀ k, (∀ y0 y1, LeO (wringerref1_PutVint.l0 k y0 y1) (wringerref1_PutVint.l0 (k + 1) y0 y1))
  | 0 => fun _ _ r h => by simp [wringerref1_PutVint.l0] at h
  | k + 1 => by
    have ih0 := wringerref1_PutVint.mono_l k
    · intro y0 y1
      unfold wringerref1_PutVint.l0
      repeat' first
      | (with_reducible exact ih0 _ _)
      | (with_reducible exact LeO.refl _)
      | (with_reducible exact LeO.none _)
      | (with_reducible refine LeO.ite ?_ ?_)
      | (with_reducible refine LeO.bind ?_ (fun _ => ?_))
      | exact ih0 _ _
      | exact LeO.none _
      | refine LeO.ite ?_ ?_
      | refine LeO.bind ?_ (fun _ => ?_)
theorem wringerref1_PutVint.mono : ∀ a0 k, LeO (wringerref1_PutVint.f k a0) (wringerref1_PutVint.f (k + 1) a0) := by
  intro a0 k
  have ih0 := wringerref1_PutVint.mono_l k
  unfold wringerref1_PutVint.f
  repeat' first
      | (with_reducible exact ih0 _ _)
      | (with_reducible exact LeO.refl _)
      | (with_reducible exact LeO.none _)
      | (with_reducible refine LeO.ite ?_ ?_)
      | (with_reducible refine LeO.bind ?_ (fun _ => ?_))
      | exact ih0 _ _
      | exact LeO.none _
      | refine LeO.ite ?_ ?_
      | refine LeO.bind ?_ (fun _ => ?_)
set_option maxHeartbeats 8000000 in
set_option maxRecDepth 100000 in
theorem wringerref1_PutVint.calls (k : Nat) (a0 : Int) (r : ByteArray) (w : World) (h : wringerref1_PutVint.f k a0 = some r) :
    Calls Try.prog 36 #[.int .u64 a0] w fun e w' => e = .returned (.string r) ∧ Below w.heap.size w w' := by
  have HB := Aside0.mk (Below.refl w.heap.size w)
  have H : (wringerref1_PutVint.l0 k a0 ([] : List Int)) = some r := h
  clear h
  have H' := Aside0.mk H
  clear H
  go_enter Try.func36, Try.ntmps36
  go_wp2
  go_loopg [0, 3] k (fun kq v0 v3 w' => ∃ (x0_1 : Int) (x3_1 : List Int), v0 = .int .u64 x0_1 ∧ Aside0 (wringerref1_PutVint.l0 kq x0_1 x3_1 = some r) ∧ Aside0 (kq ≤ k) ∧ Aside0 (Kd.R (Kd.int .u8) 5 w' w.heap.size (fun _ => True) v3 x3_1) ∧ Aside0 (Below w.heap.size w w'))
  case atStart => exact ⟨(a0), (([] : List Int)), (by first | rfl | (simp; done) | (simp [*]; done)), H', ⟨Nat.le_refl _⟩, ⟨by first | exact Kd.R_nil _ _ _ _ _ | exact Kd.N_nil _ _ _ _ _ | exact Kd.V_nil _ _ _ _ _ | exact Kd.Q_nil _ _ _ _ _ | exact Kd.S_nil _ _ _ _ _⟩, ⟨by repeat (first | (with_reducible first | exact HB.out | apply below_alloc | apply pw_below_drewN | apply below_drew1) | exact HB.out)⟩⟩
  case round =>
    clear H'
    obtain ⟨x0_1, x3_1, rfl, HA, HK1, HO_3, HB⟩ := hrel
    cases gk with
    | zero => exact absurd HA.out (by simp [wringerref1_PutVint.l0])
    | succ k1 =>
      have H := HA.out
      clear HA
      simp only [wringerref1_PutVint.l0] at H
      by_cases c2 : x0_1 ≥ 128
      · rw [if_pos c2] at H
        have c2b0 : decide (128 ≤ x0_1) = true := decide_eq_true c2
        clear c2
        by_cases c3 : x3_1.length < 140737488355328
        · rw [if_pos c3] at H
          have LMc3 := Aside0.mk c3
          clear c3
          obtain ⟨y164, hy164⟩ : ∃ y_ : List Int, y_ = (x3_1 ++ [Go.bits .or .u8 ((x0_1) % 256) 128]) := ⟨_, rfl⟩
          replace H : (wringerref1_PutVint.l0 k1 (x0_1 / 128) y164) = some r := by first | (rw [hy164]; with_reducible exact H) | (have H2_ := (Option.bind_some _ _).symm.trans H; rw [hy164]; with_reducible exact H2_) | (have H2_ := (Option.bind_some _ _).symm.trans H; with_reducible exact H2_) | with_reducible exact H | (rw [hy164]; exact H) | exact H
          have Ny164 := Aside0.mk hy164
          clear hy164
          have H' := Aside0.mk H
          clear H
          go_wp2_with (first | ((with_reducible refine gate_builtin (b := .append) (xs := #[.tmp 6, .tmp 10]) rfl ?_); at_builtin; refine Kd.R_append (Kd.int .u8) (w0 := w) w.heap.size rfl (.tmp 6) (.tmp 10) 45 5 (.int .u8 0) 1 rfl Try.underlying45 info5 rfl (by decide) (by omega) u3 x3_1 (Go.bits .or .u8 ((x0_1) % 256) 128) [.int .u8 (Go.bits .or .u8 ((x0_1) % 256) 128)] (fun _ => True) (fun _ => False) rfl rfl ?aP (fun _ hk => hk.elim) ?aF ?aO ?aB ?aS ?aL ?_; (case aP => exact rfl); (case aB => exact (by repeat (first | (with_reducible first | exact HB.out | apply below_alloc | apply pw_below_drewN | apply below_drew1) | exact HB.out))); (case aF => exact (fun _ _ => trivial)); (case aO => exact (by (with_reducible repeat (first | apply Kd.R_alloc | apply Kd.R_drewN | apply Kd.R_drew)); exact HO_3.out)); (case aS => exact (below_size (by repeat (first | (with_reducible first | exact HB.out | apply below_alloc | apply pw_below_drewN | apply below_drew1) | exact HB.out)))); (case aL => have := LMc3.out; omega); intro v165 w4 ho hb hg hat; rw [← Ny164.out] at ho; have n0_ := Aside0.mk (hb); have n1_ := Aside0.mk (ho); clear HB; clear HO_3; have HB := n0_; have HO166 := n1_; clear n0_ n1_; clear ho hb hg hat))
          go_roundg k1
          case measure => have := HK1.out; omega
          case rel => exact ⟨(x0_1 / 128), (y164), (by first | rfl | (simp; done) | (simp [*]; done)), H', ⟨by have := HK1.out; omega⟩, ⟨by (with_reducible repeat (first | apply Kd.R_alloc | apply Kd.R_drewN | apply Kd.R_drew)); exact HO166.out⟩, ⟨by repeat (first | (with_reducible first | exact HB.out | apply below_alloc | apply pw_below_drewN | apply below_drew1) | exact HB.out)⟩⟩
        · rw [if_neg c3] at H
          exact absurd H (by simp)
      · rw [if_neg c2] at H
        have c2b0 : decide (128 ≤ x0_1) = false := decide_eq_false c2
        clear c2
        by_cases c5 : x3_1.length < 140737488355328
        · rw [if_pos c5] at H
          have LMc5 := Aside0.mk c5
          clear c5
          obtain ⟨y167, hy167⟩ : ∃ y_ : List Int, y_ = (x3_1 ++ [(x0_1) % 256]) := ⟨_, rfl⟩
          replace H : (some (strOfNums y167)) = some r := by first | (rw [hy167]; with_reducible exact H) | (have H2_ := (Option.bind_some _ _).symm.trans H; rw [hy167]; with_reducible exact H2_) | (have H2_ := (Option.bind_some _ _).symm.trans H; with_reducible exact H2_) | with_reducible exact H | (rw [hy167]; exact H) | exact H
          have Ny167 := Aside0.mk hy167
          clear hy167
          obtain rfl := Option.some.inj H
          go_wp2_with (first | ((with_reducible refine gate_builtin (b := .append) (xs := #[.tmp 14, .tmp 17]) rfl ?_); at_builtin; refine Kd.R_append (Kd.int .u8) (w0 := w) w.heap.size rfl (.tmp 14) (.tmp 17) 45 5 (.int .u8 0) 1 rfl Try.underlying45 info5 rfl (by decide) (by omega) u3 x3_1 ((x0_1) % 256) [.int .u8 ((x0_1) % 256)] (fun _ => True) (fun _ => False) rfl rfl ?aP (fun _ hk => hk.elim) ?aF ?aO ?aB ?aS ?aL ?_; (case aP => exact rfl); (case aB => exact (by repeat (first | (with_reducible first | exact HB.out | apply below_alloc | apply pw_below_drewN | apply below_drew1) | exact HB.out))); (case aF => exact (fun _ _ => trivial)); (case aO => exact (by (with_reducible repeat (first | apply Kd.R_alloc | apply Kd.R_drewN | apply Kd.R_drew)); exact HO_3.out)); (case aS => exact (below_size (by repeat (first | (with_reducible first | exact HB.out | apply below_alloc | apply pw_below_drewN | apply below_drew1) | exact HB.out)))); (case aL => have := LMc5.out; omega); intro v168 w6 ho hb hg hat; rw [← Ny167.out] at ho; have n0_ := Aside0.mk (hb); have n1_ := Aside0.mk (ho); clear HB; clear HO_3; have HB := n0_; have HO169 := n1_; clear n0_ n1_; clear ho hb hg hat; have hcv7 := own_string (P := Try.prog) Try.underlying45 Try.underlying5 Try.underlying9 (Kd.own_of_R HO169.out)))
          go_ret
          exact ⟨by first | rfl | (simp [errW_none, errW_some] <;> rfl) | (simp [*, errW_none, errW_some] <;> rfl), by repeat (first | (with_reducible first | exact HB.out | apply below_alloc | apply pw_below_drewN | apply below_drew1) | exact HB.out)⟩
        · rw [if_neg c5] at H
          exact absurd H (by simp)

end Go.Proofs.Ytbldocbijihpgaa.PA

-- ---- PAx32

namespace Go.Proofs.Ytbldocbijihpgaa.PA
open Go.RowKit Go.Proofs.YtbldocbijihpgaaW.PrintWords Go.Proofs.YtbldocbijihpgaaW.PrintLast Go.Proofs.YtbldocbijihpgaaW.PrintMore
attribute [local go_sem] max2_int min2_int max_two min_two max_three min_three max_four min_four   -- for this text's walks alone
set_option linter.unusedVariables false
set_option linter.unusedSimpArgs false

/-! ### wringerref1_GetVint: function 32 -/
mutual
def wringerref1_GetVint.j0 : Nat → ByteArray → Int → Bool → Option (Int × Int × Int)
  | 0, _, _, _ => none
  | k + 1, x0, x1, x15 => if x15 = true then (some (0, 0, 1)) else (wringerref1_GetVint.l0 k x0 x1 0 0)
def wringerref1_GetVint.l0 : Nat → ByteArray → Int → Int → Int → Option (Int × Int × Int)
  | 0, _, _, _, _ => none
  | k + 1, x0, x1, x5, x6 => if x6 < 10 then (if (wrap64 (x1 + x6)) ≥ (x0.size : Int) then (some (0, 0, 2)) else (if 0 ≤ (wrap64 (x1 + x6)) then (if (wrap64 (x1 + x6)) < (x0.size : Int) then (if 0 ≤ (wrap64 (7 * x6)) then (if (bt x0 (wrap64 (x1 + x6))) < 128 then ((wringerref1_PutVint.f k (Go.bits .or .u64 x5 (shl .u64 (IntKind.u64.wrap (Go.bits .and .u8 (bt x0 (wrap64 (x1 + x6))) 127)) (wrap64 (7 * x6))))).bind fun t177 => (if 0 ≤ x1 then (if x1 ≤ (wrap64 ((wrap64 (x1 + x6)) + 1)) then (if (wrap64 ((wrap64 (x1 + x6)) + 1)) ≤ (x0.size : Int) then (if t177.toList = (x0.extract (x1 : Int).toNat ((wrap64 ((wrap64 (x1 + x6)) + 1)) : Int).toNat).toList then (some (Go.bits .or .u64 x5 (shl .u64 (IntKind.u64.wrap (Go.bits .and .u8 (bt x0 (wrap64 (x1 + x6))) 127)) (wrap64 (7 * x6))), wrap64 ((wrap64 (x1 + x6)) + 1), 0)) else (some (0, 0, 3))) else (none)) else (none)) else (none))) else (wringerref1_GetVint.l0 k x0 x1 (Go.bits .or .u64 x5 (shl .u64 (IntKind.u64.wrap (Go.bits .and .u8 (bt x0 (wrap64 (x1 + x6))) 127)) (wrap64 (7 * x6)))) (wrap64 (x6 + 1)))) else (none)) else (none)) else (none))) else (some (0, 0, 3))
end
def wringerref1_GetVint.f (k : Nat) (a0 : ByteArray) (a1 : Int) : Option (Int × Int × Int) := if a1 < 0 then (wringerref1_GetVint.j0 k a0 a1 true) else (wringerref1_GetVint.j0 k a0 a1 (decide (a1 > (a0.size : Int))))
theorem wringerref1_GetVint.mono_l : ∀ k, (∀ y0 y1 y2, LeO (wringerref1_GetVint.j0 k y0 y1 y2) (wringerref1_GetVint.j0 (k + 1) y0 y1 y2)) ∧ (∀ y0 y1 y2 y3, LeO (wringerref1_GetVint.l0 k y0 y1 y2 y3) (wringerref1_GetVint.l0 (k + 1) y0 y1 y2 y3))
  | 0 => ⟨fun _ _ _ r h => by simp [wringerref1_GetVint.j0] at h, fun _ _ _ _ r h => by simp [wringerref1_GetVint.l0] at h⟩
  | k + 1 => by
    obtain ⟨ih0, ih1⟩ := wringerref1_GetVint.mono_l k
    refine ⟨?_, ?_⟩
    · intro y0 y1 y2
      unfold wringerref1_GetVint.j0
      repeat' first
      | (with_reducible exact ih0 _ _ _)
      | (with_reducible exact ih1 _ _ _ _)
      | (with_reducible exact wringerref1_PutVint.mono _ _)
      | (with_reducible exact LeO.refl _)
      | (with_reducible exact LeO.none _)
      | (with_reducible refine LeO.ite ?_ ?_)
      | (with_reducible refine LeO.bind ?_ (fun _ => ?_))
      | exact ih0 _ _ _
      | exact ih1 _ _ _ _
      | exact wringerref1_PutVint.mono _ _
      | exact LeO.none _
      | refine LeO.ite ?_ ?_
      | refine LeO.bind ?_ (fun _ => ?_)
    · intro y0 y1 y2 y3
      unfold wringerref1_GetVint.l0
      repeat' first
      | (with_reducible exact ih0 _ _ _)
      | (with_reducible exact ih1 _ _ _ _)
      | (with_reducible exact wringerref1_PutVint.mono _ _)
      | (with_reducible exact LeO.refl _)
      | (with_reducible exact LeO.none _)
      | (with_reducible refine LeO.ite ?_ ?_)
      | (with_reducible refine LeO.bind ?_ (fun _ => ?_))
      | exact ih0 _ _ _
      | exact ih1 _ _ _ _
      | exact wringerref1_PutVint.mono _ _
      | exact LeO.none _
      | refine LeO.ite ?_ ?_
      | refine LeO.bind ?_ (fun _ => ?_)
theorem wringerref1_GetVint.mono : ∀ a0 a1 k, LeO (wringerref1_GetVint.f k a0 a1) (wringerref1_GetVint.f (k + 1) a0 a1) := by
  intro a0 a1 k
  obtain ⟨ih0, ih1⟩ := wringerref1_GetVint.mono_l k
  unfold wringerref1_GetVint.f
  repeat' first
      | (with_reducible exact ih0 _ _ _)
      | (with_reducible exact ih1 _ _ _ _)
      | (with_reducible exact wringerref1_PutVint.mono _ _)
      | (with_reducible exact LeO.refl _)
      | (with_reducible exact LeO.none _)
      | (with_reducible refine LeO.ite ?_ ?_)
      | (with_reducible refine LeO.bind ?_ (fun _ => ?_))
      | exact ih0 _ _ _
      | exact ih1 _ _ _ _
      | exact wringerref1_PutVint.mono _ _
      | exact LeO.none _
      | refine LeO.ite ?_ ?_
      | refine LeO.bind ?_ (fun _ => ?_)
def wringerref1_GetVint.T12 : Bool × List (List Nat × List Nat) := (true, [([], []), ([0], [0]), ([], []), ([], []), ([], []), ([], []), ([4, 5], [4, 5]), ([6], [6]), ([2, 3, 7], [2, 3, 7]), ([1, 8], [1, 8])])
def wringerref1_GetVint.B12 : List Nat := [0, 1, 0, 0, 0, 0, 48, 112, 252, 511]
theorem wringerref1_GetVint.tab12 : rtab .any (opsOf Try.f32 12) = wringerref1_GetVint.T12 := by kernel_rfl
theorem wringerref1_GetVint.bits12 : waitsOk wringerref1_GetVint.T12.2 wringerref1_GetVint.B12 = true := by kernel_rfl
set_option maxHeartbeats 8000000 in
set_option maxRecDepth 100000 in
theorem wringerref1_GetVint.calls (k : Nat) (a0 : ByteArray) (a1 : Int) (r1 : Int) (r2 : Int) (r3 : Int) (w : World) (h : wringerref1_GetVint.f k a0 a1 = some (r1, r2, r3)) :
    Calls Try.prog 32 #[.string a0, .int .i64 a1] w fun e w' => e = .returned (.agg #[.int .u64 r1, .int .i64 r2, .int .i64 r3]) ∧ Below w.heap.size w w' := by
  have hu61 := Try.underlying61
  have HB := Aside0.mk (Below.refl w.heap.size w)
  have H : (if a1 < 0 then (wringerref1_GetVint.j0 k a0 a1 true) else (wringerref1_GetVint.j0 k a0 a1 (decide (a1 > (a0.size : Int))))) = some (r1, r2, r3) := h
  clear h
  have HC3 := Aside0.mk H
  clear H
  go_enter Try.func32, Try.ntmps32
  go_upto_region 1 with (first | ((with_reducible refine gate_dst (N := 4) rfl ?_); (try (refine gate_guard (by rfl) ?_; dsimp only)); refine box_event ?hg (N := 4) ?hd (cs := #[.int .u64 0, .int .i64 0, .int .i64 0]) (t := 61) ?hr ?_; (case hd => rfl); (case hg => rfl); (case hr => first | (go_simp; done) | (go_simp; rfl)); intro gb176 hg w4 hbox hb; have n0_ := Aside0.mk (below_step (by repeat (first | (with_reducible first | exact HB.out | apply below_alloc | apply pw_below_drewN | apply below_drew1) | exact HB.out)) hb); have n1_ := Aside0.mk (hbox); have n2_ := Aside0.mk ((by rw [hg]; exact (below_size (by repeat (first | (with_reducible first | exact HB.out | apply below_alloc | apply pw_below_drewN | apply below_drew1) | exact HB.out))) : w.heap.size ≤ gb176)); have n3_ := Aside0.mk ((by rw [hg]; exact (below_size (by repeat (first | (with_reducible first | exact HB.out | apply below_alloc | apply pw_below_drewN | apply below_drew1) | exact HB.out))) : w.heap.size ≤ gb176)); clear HB; have HB := n0_; have BK176 := n1_; have GW176 := n2_; have GE176 := n3_; clear n0_ n1_ n2_ n3_; clear hb hbox hg))
  (try simp only [Act.put, List.setIfInBounds_toArray, List.set_cons_zero, List.set_cons_succ])
  go_cut [15] (fun v15 wc => ∃ (kq : Nat) (x15_2 : Bool), v15 = .bool x15_2 ∧ Aside0 (wringerref1_GetVint.j0 kq a0 a1 x15_2 = some (r1, r2, r3)) ∧ Aside0 (kq ≤ k) ∧ Aside0 (wc.heap[gb176]? = some (.cells #[.int .u64 0, .int .i64 0, .int .i64 0] 61 (0, 0))) ∧ Aside0 (Below w.heap.size w wc))
  case first =>
    have H := HC3.out
    clear HC3
    by_cases c5 : a1 < 0
    · rw [if_pos c5] at H
      have c5b0 : decide (a1 < 0) = true := decide_eq_true c5
      clear c5
      (first | rw [c5b0] | (simp only [i64_w, i32_w]; rw [c5b0]) | skip)
      have H' := Aside0.mk H
      clear H
      go_wp2
      go_meet
      case rel => exact ⟨_, (true), (by first | rfl | (simp; done) | (simp [*]; done)), H', ⟨by first | omega | exact Nat.le_refl _⟩, ⟨by (with_reducible repeat (first | refine blk_drewN ?_ _ | refine blk_drew ?_ | refine blk_alloc ?_ _)); exact BK176.out⟩, ⟨by repeat (first | (with_reducible first | exact HB.out | apply below_alloc | apply pw_below_drewN | apply below_drew1 | refine below_set ?_ GE176.out) | exact HB.out)⟩⟩
    · rw [if_neg c5] at H
      have c5b0 : decide (a1 < 0) = false := decide_eq_false c5
      clear c5
      (first | rw [c5b0] | (simp only [i64_w, i32_w]; rw [c5b0]) | skip)
      have H' := Aside0.mk H
      clear H
      go_wp2
      go_meet
      case rel => exact ⟨_, (decide (a1 > (a0.size : Int))), (by first | rfl | (simp; done) | (simp [*]; done)), H', ⟨by first | omega | exact Nat.le_refl _⟩, ⟨by (with_reducible repeat (first | refine blk_drewN ?_ _ | refine blk_drew ?_ | refine blk_alloc ?_ _)); exact BK176.out⟩, ⟨by repeat (first | (with_reducible first | exact HB.out | apply below_alloc | apply pw_below_drewN | apply below_drew1 | refine below_set ?_ GE176.out) | exact HB.out)⟩⟩
  case rest =>
    clear HC3
    try clear p2
    try clear c3
    try clear c5
    try clear c5b0
    obtain ⟨kq, x15_2, rfl, HA, HJ2, BK176, HB⟩ := hcut
    cases kq with
    | zero => exact absurd HA.out (by simp [wringerref1_GetVint.j0])
    | succ kj2 =>
      have H := HA.out
      clear HA
      simp only [wringerref1_GetVint.j0] at H
      by_cases c6 : x15_2 = true
      · subst c6
        have H1 : (some (0, 0, 1)) = some (r1, r2, r3) := by rw [if_pos rfl] at H; exact H
        clear H
        have H := H1
        clear H1
        simp only [Option.some.injEq, Prod.mk.injEq] at H
        obtain ⟨rfl, rfl, rfl⟩ := H
        have hcz7_0 : wc.cell? ⟨gb176, 0, none⟩ = some (.int .u64 0) := (blk_cell BK176.out 0).trans rfl
        have hcz7_1 : wc.cell? ⟨gb176, 1, none⟩ = some (.int .i64 0) := (blk_cell BK176.out 1).trans rfl
        have hcz7_2 : wc.cell? ⟨gb176, 2, none⟩ = some (.int .i64 0) := (blk_cell BK176.out 2).trans rfl
        have hfz7_0 := blk_frozen BK176.out 0
        have hfz7_1 := blk_frozen BK176.out 1
        have hfz7_2 := blk_frozen BK176.out 2
        go_wp2
        refine bodyPost_ret (results_cell_row rfl _ _ gb176 61 #[.int .u64 0, .int .i64 0, .int .i64 1] (0, 0) _ rfl (by (with_reducible repeat (first | refine blk_drewN ?_ _ | refine blk_drew ?_ | refine blk_alloc ?_ _)); refine blk_put (cs := #[.int .u64 0, .int .i64 0, .int .i64 0]) ?_ 2 _ rfl; (with_reducible repeat (first | refine blk_drewN ?_ _ | refine blk_drew ?_ | refine blk_alloc ?_ _)); refine blk_put (cs := #[.int .u64 0, .int .i64 0, .int .i64 0]) ?_ 1 _ rfl; (with_reducible repeat (first | refine blk_drewN ?_ _ | refine blk_drew ?_ | refine blk_alloc ?_ _)); refine blk_put (cs := #[.int .u64 0, .int .i64 0, .int .i64 0]) ?_ 0 _ rfl; (with_reducible repeat (first | refine blk_drewN ?_ _ | refine blk_drew ?_ | refine blk_alloc ?_ _)); exact BK176.out) Try.underlying61 rfl (by kernel_rfl)) rfl ?_
        exact ⟨by first | rfl | (simp [errW_none, errW_some] <;> rfl) | (simp [*, errW_none, errW_some] <;> rfl), by repeat (first | (with_reducible first | exact HB.out | apply below_alloc | apply pw_below_drewN | apply below_drew1 | refine below_set ?_ GE176.out) | exact HB.out)⟩
      · replace c6 := Bool.eq_false_iff.mpr c6
        subst c6
        have H1 : (wringerref1_GetVint.l0 kj2 a0 a1 0 0) = some (r1, r2, r3) := by rw [if_neg (show ¬ (false = true) by decide)] at H; exact H
        clear H
        have H := H1
        clear H1
        have H' := Aside0.mk H
        clear H
        go_wp2
        go_loopg [5, 6] kj2 (fun kq v5 v6 w' => ∃ (x5_2 : Int) (x6_2 : Int) (x177000_2 : Int) (x177001_2 : Int) (x177002_2 : Int), v5 = .int .u64 x5_2 ∧ v6 = .int .i64 x6_2 ∧ Aside0 (wringerref1_GetVint.l0 kq a0 a1 x5_2 x6_2 = some (r1, r2, r3)) ∧ Aside0 (kq ≤ kj2) ∧ Aside0 (w'.heap[gb176]? = some (.cells #[.int .u64 x177000_2, .int .i64 x177001_2, .int .i64 x177002_2] 61 (0, 0))) ∧ Aside0 (Below w.heap.size w w'))
        case atStart => exact ⟨(0), (0), (0), (0), (0), (by first | rfl | (simp; done) | (simp [*]; done)), (by first | rfl | (simp; done) | (simp [*]; done)), H', ⟨Nat.le_refl _⟩, ⟨by (with_reducible repeat (first | refine blk_drewN ?_ _ | refine blk_drew ?_ | refine blk_alloc ?_ _)); exact BK176.out⟩, ⟨by repeat (first | (with_reducible first | exact HB.out | apply below_alloc | apply pw_below_drewN | apply below_drew1 | refine below_set ?_ GE176.out) | exact HB.out)⟩⟩
        case round =>
          clear H'
          try clear p2
          try clear c3
          try clear c5
          try clear c5b0
          try clear c6
          try clear hcz7_0
          try clear hcz7_1
          try clear hcz7_2
          try clear hfz7_0
          try clear hfz7_1
          try clear hfz7_2
          try clear p2
          obtain ⟨x5_2, x6_2, x177000_2, x177001_2, x177002_2, rfl, rfl, HA, HK2, BK176, HB⟩ := hrel
          cases gk with
          | zero => exact absurd HA.out (by simp [wringerref1_GetVint.l0])
          | succ k2 =>
            have H := HA.out
            clear HA
            simp only [wringerref1_GetVint.l0] at H
            by_cases c8 : x6_2 < 10
            · rw [if_pos c8] at H
              have c8b0 : decide (x6_2 < 10) = true := decide_eq_true c8
              clear c8
              by_cases c9 : (wrap64 (a1 + x6_2)) ≥ (a0.size : Int)
              · rw [if_pos c9] at H
                have c9b0 : decide ((a0.size : Int) ≤ (wrap64 (a1 + x6_2))) = true := decide_eq_true c9
                clear c9
                simp only [Option.some.injEq, Prod.mk.injEq] at H
                obtain ⟨rfl, rfl, rfl⟩ := H
                have hcz10_0 : wr.cell? ⟨gb176, 0, none⟩ = some (.int .u64 x177000_2) := (blk_cell BK176.out 0).trans rfl
                have hcz10_1 : wr.cell? ⟨gb176, 1, none⟩ = some (.int .i64 x177001_2) := (blk_cell BK176.out 1).trans rfl
                have hcz10_2 : wr.cell? ⟨gb176, 2, none⟩ = some (.int .i64 x177002_2) := (blk_cell BK176.out 2).trans rfl
                have hfz10_0 := blk_frozen BK176.out 0
                have hfz10_1 := blk_frozen BK176.out 1
                have hfz10_2 := blk_frozen BK176.out 2
                go_wp2
                refine bodyPost_ret (results_cell_row rfl _ _ gb176 61 #[.int .u64 0, .int .i64 0, .int .i64 2] (0, 0) _ rfl (by (with_reducible repeat (first | refine blk_drewN ?_ _ | refine blk_drew ?_ | refine blk_alloc ?_ _)); refine blk_put (cs := #[.int .u64 0, .int .i64 0, .int .i64 x177002_2]) ?_ 2 _ rfl; (with_reducible repeat (first | refine blk_drewN ?_ _ | refine blk_drew ?_ | refine blk_alloc ?_ _)); refine blk_put (cs := #[.int .u64 0, .int .i64 x177001_2, .int .i64 x177002_2]) ?_ 1 _ rfl; (with_reducible repeat (first | refine blk_drewN ?_ _ | refine blk_drew ?_ | refine blk_alloc ?_ _)); refine blk_put (cs := #[.int .u64 x177000_2, .int .i64 x177001_2, .int .i64 x177002_2]) ?_ 0 _ rfl; (with_reducible repeat (first | refine blk_drewN ?_ _ | refine blk_drew ?_ | refine blk_alloc ?_ _)); exact BK176.out) Try.underlying61 rfl (by kernel_rfl)) rfl ?_
                exact ⟨by first | rfl | (simp [errW_none, errW_some] <;> rfl) | (simp [*, errW_none, errW_some] <;> rfl), by repeat (first | (with_reducible first | exact HB.out | apply below_alloc | apply pw_below_drewN | apply below_drew1 | refine below_set ?_ GE176.out) | exact HB.out)⟩
              · rw [if_neg c9] at H
                have c9b0 : decide ((a0.size : Int) ≤ (wrap64 (a1 + x6_2))) = false := decide_eq_false c9
                clear c9
                obtain ⟨ji11, hji11⟩ : ∃ j_ : Int, (wrap64 (a1 + x6_2)) = j_ := ⟨_, rfl⟩
                replace H : (if 0 ≤ (ji11) then (if (ji11) < (a0.size : Int) then (if 0 ≤ (wrap64 (7 * x6_2)) then (if (bt a0 (ji11)) < 128 then ((wringerref1_PutVint.f k2 (Go.bits .or .u64 x5_2 (shl .u64 (IntKind.u64.wrap (Go.bits .and .u8 (bt a0 (ji11)) 127)) (wrap64 (7 * x6_2))))).bind fun t177 => (if 0 ≤ a1 then (if a1 ≤ (wrap64 ((ji11) + 1)) then (if (wrap64 ((ji11) + 1)) ≤ (a0.size : Int) then (if t177.toList = (a0.extract (a1 : Int).toNat ((wrap64 ((ji11) + 1)) : Int).toNat).toList then (some (Go.bits .or .u64 x5_2 (shl .u64 (IntKind.u64.wrap (Go.bits .and .u8 (bt a0 (ji11)) 127)) (wrap64 (7 * x6_2))), wrap64 ((ji11) + 1), 0)) else (some (0, 0, 3))) else (none)) else (none)) else (none))) else (wringerref1_GetVint.l0 k2 a0 a1 (Go.bits .or .u64 x5_2 (shl .u64 (IntKind.u64.wrap (Go.bits .and .u8 (bt a0 (ji11)) 127)) (wrap64 (7 * x6_2)))) (wrap64 (x6_2 + 1)))) else (none)) else (none)) else (none)) = some (r1, r2, r3) := by first | (rw [hji11] at H; exact H) | (simp only [hji11] at H ⊢; exact H)
                (try rw [hji11] at c9b0)
                have hji11w : (IntKind.i64.wrap (a1 + x6_2)) = ji11 := (i64_w _).trans hji11
                by_cases c12 : 0 ≤ (ji11)
                · rw [if_pos c12] at H
                  have c12b0 : decide (0 ≤ (ji11)) = true := decide_eq_true c12
                  clear c12
                  by_cases c13 : (ji11) < (a0.size : Int)
                  · rw [if_pos c13] at H
                    have c13b0 : decide ((ji11) < (a0.size : Int)) = true := decide_eq_true c13
                    clear c13
                    obtain ⟨ji15, hji15⟩ : ∃ j_ : Int, (wrap64 (7 * x6_2)) = j_ := ⟨_, rfl⟩
                    replace H : (if 0 ≤ (ji15) then (if (bt a0 (ji11)) < 128 then ((wringerref1_PutVint.f k2 (Go.bits .or .u64 x5_2 (shl .u64 (IntKind.u64.wrap (Go.bits .and .u8 (bt a0 (ji11)) 127)) (ji15)))).bind fun t177 => (if 0 ≤ a1 then (if a1 ≤ (wrap64 ((ji11) + 1)) then (if (wrap64 ((ji11) + 1)) ≤ (a0.size : Int) then (if t177.toList = (a0.extract (a1 : Int).toNat ((wrap64 ((ji11) + 1)) : Int).toNat).toList then (some (Go.bits .or .u64 x5_2 (shl .u64 (IntKind.u64.wrap (Go.bits .and .u8 (bt a0 (ji11)) 127)) (ji15)), wrap64 ((ji11) + 1), 0)) else (some (0, 0, 3))) else (none)) else (none)) else (none))) else (wringerref1_GetVint.l0 k2 a0 a1 (Go.bits .or .u64 x5_2 (shl .u64 (IntKind.u64.wrap (Go.bits .and .u8 (bt a0 (ji11)) 127)) (ji15))) (wrap64 (x6_2 + 1)))) else (none)) = some (r1, r2, r3) := by first | (rw [hji15] at H; exact H) | (simp only [hji15] at H ⊢; exact H)
                    have hji15w : (IntKind.i64.wrap (7 * x6_2)) = ji15 := (i64_w _).trans hji15
                    by_cases c16 : 0 ≤ (ji15)
                    · rw [if_pos c16] at H
                      have c16b0 := eq_true c16
                      have c16b1 : decide (0 ≤ (ji15)) = true := decide_eq_true c16
                      clear c16
                      obtain ⟨ji17, hji17⟩ : ∃ j_ : Int, (shl .u64 (IntKind.u64.wrap (Go.bits .and .u8 (bt a0 (ji11)) 127)) (ji15)) = j_ := ⟨_, rfl⟩
                      replace H : (if (bt a0 (ji11)) < 128 then ((wringerref1_PutVint.f k2 (Go.bits .or .u64 x5_2 (ji17))).bind fun t177 => (if 0 ≤ a1 then (if a1 ≤ (wrap64 ((ji11) + 1)) then (if (wrap64 ((ji11) + 1)) ≤ (a0.size : Int) then (if t177.toList = (a0.extract (a1 : Int).toNat ((wrap64 ((ji11) + 1)) : Int).toNat).toList then (some (Go.bits .or .u64 x5_2 (ji17), wrap64 ((ji11) + 1), 0)) else (some (0, 0, 3))) else (none)) else (none)) else (none))) else (wringerref1_GetVint.l0 k2 a0 a1 (Go.bits .or .u64 x5_2 (ji17)) (wrap64 (x6_2 + 1)))) = some (r1, r2, r3) := by first | (rw [hji17] at H; exact H) | (simp only [hji17] at H ⊢; exact H)
                      have hji17_ : (IntKind.u64.wrap ((IntKind.u64.wrap (Go.bits .and .u8 (bt a0 (ji11)) 127)) * 2 ^ min (ji15).toNat 64)) = ji17 := hji17
                      have hji17z : (ji15) ≤ 64 → (IntKind.u64.wrap ((IntKind.u64.wrap (Go.bits .and .u8 (bt a0 (ji11)) 127)) * 2 ^ (ji15).toNat)) = ji17 := shl_small hji17
                      by_cases c18 : (bt a0 (ji11)) < 128
                      · rw [if_pos c18] at H
                        have c18b0 : decide ((bt a0 (ji11)) < 128) = true := decide_eq_true c18
                        clear c18
                        replace H := Option.bind_eq_some_iff.mp H
                        obtain ⟨t177, A190, H⟩ := H
                        replace H : (if 0 ≤ a1 then (if a1 ≤ (wrap64 ((ji11) + 1)) then (if (wrap64 ((ji11) + 1)) ≤ (a0.size : Int) then (if t177.toList = (a0.extract (a1 : Int).toNat ((wrap64 ((ji11) + 1)) : Int).toNat).toList then (some (Go.bits .or .u64 x5_2 (ji17), wrap64 ((ji11) + 1), 0)) else (some (0, 0, 3))) else (none)) else (none)) else (none)) = some (r1, r2, r3) := H
                        have A19 := Aside0.mk A190
                        clear A190
                        by_cases c20 : 0 ≤ a1
                        · rw [if_pos c20] at H
                          have c20b0 := eq_true c20
                          have c20b1 : decide (0 ≤ a1) = true := decide_eq_true c20
                          clear c20
                          by_cases c21 : a1 ≤ (wrap64 ((ji11) + 1))
                          · rw [if_pos c21] at H
                            have c21b0 := eq_true c21
                            have c21b1 : decide (a1 ≤ (wrap64 ((ji11) + 1))) = true := decide_eq_true c21
                            by_cases c22 : (wrap64 ((ji11) + 1)) ≤ (a0.size : Int)
                            · rw [if_pos c22] at H
                              have c22b0 := eq_true c22
                              have c22b1 : decide ((wrap64 ((ji11) + 1)) ≤ (a0.size : Int)) = true := decide_eq_true c22
                              by_cases c23 : t177.toList = (a0.extract (a1 : Int).toNat ((wrap64 ((ji11) + 1)) : Int).toNat).toList
                              · rw [if_pos c23] at H
                                have c23b0 : (t177.toList == (a0.extract (a1 : Int).toNat ((wrap64 ((ji11) + 1)) : Int).toNat).toList) = true := beq_iff_eq.mpr c23
                                have c23b1 : (t177.toList != (a0.extract (a1 : Int).toNat ((wrap64 ((ji11) + 1)) : Int).toNat).toList) = false := bne_eq_false_iff_eq.mpr c23
                                clear c23
                                simp only [Option.some.injEq, Prod.mk.injEq] at H
                                obtain ⟨rfl, rfl, rfl⟩ := H
                                have p14 : 0 ≤ ((ji11) : Int) := of_decide_eq_true (by first | (with_reducible assumption) | assumption)
                                have q14 : (ji11) < (a0.size : Int) := of_decide_eq_true (by first | (with_reducible assumption) | assumption)
                                have hx14 := bt_at a0 (ji11)
                                replace p14 := eq_true p14
                                replace q14 := eq_true q14
                                try go_wp2
                                have n0_ := Aside0.mk (blk_drew BK176.out)
                                have n1_ := Aside0.mk (below_drew1 HB.out)
                                clear BK176
                                clear HB
                                have BK176 := n0_
                                have HB := n1_
                                clear n0_ n1_
                                refine start_ (n := 10) (S := fun w' => True) (ds := []) #[false, false, false, false, false, false, false, false, false, false] (by kernel_rfl) rfl rfl trivial (fun hHeld => ?_); refine with_tabW wringerref1_GetVint.tab12 wringerref1_GetVint.bits12 (fun HT_ HW_ => ?_)
                                generalize wr.drew = w24 at BK176 HB hHeld ⊢
                                refine pure_ (i := 0) (N := some 43) (v := ?_) (a' := ?_) #[true, false, false, false, false, false, false, false, false, false] rfl rfl (any_of HT_.out (by kernel_rfl)) (fun _ _ _ h => h) (Or.inl ⟨by rfl, ?_⟩) ?_ ?_
                                rotate_left
                                · intro w'
                                  go_simp
                                  with_reducible rfl
                                rotate_left
                                · simp only [Act.put, List.setIfInBounds_toArray, List.set_cons_zero, List.set_cons_succ, i64_w, i32_w]
                                  rfl
                                refine pure_ (i := 2) (N := some 45) (v := ?_) (a' := ?_) #[true, false, true, false, false, false, false, false, false, false] rfl rfl (any_of HT_.out (by kernel_rfl)) (fun _ _ _ h => h) (Or.inl ⟨by rfl, ?_⟩) ?_ ?_
                                rotate_left
                                · intro w'
                                  go_simp
                                  with_reducible rfl
                                rotate_left
                                · simp only [Act.put, List.setIfInBounds_toArray, List.set_cons_zero, List.set_cons_succ, i64_w, i32_w]
                                  rfl
                                refine pure_ (i := 3) (N := some 46) (v := ?_) (a' := ?_) #[true, false, true, true, false, false, false, false, false, false] rfl rfl (any_of HT_.out (by kernel_rfl)) (fun _ _ _ h => h) (Or.inl ⟨by rfl, ?_⟩) ?_ ?_
                                rotate_left
                                · intro w'
                                  go_simp
                                  with_reducible rfl
                                rotate_left
                                · simp only [Act.put, List.setIfInBounds_toArray, List.set_cons_zero, List.set_cons_succ, i64_w, i32_w]
                                  rfl
                                refine pure_ (i := 4) (N := some 47) (v := ?_) (a' := ?_) #[true, false, true, true, true, false, false, false, false, false] rfl rfl (any_of HT_.out (by kernel_rfl)) (fun _ _ _ h => h) (Or.inl ⟨by rfl, ?_⟩) ?_ ?_
                                rotate_left
                                · intro w'
                                  go_simp
                                  with_reducible rfl
                                rotate_left
                                · simp only [Act.put, List.setIfInBounds_toArray, List.set_cons_zero, List.set_cons_succ, i64_w, i32_w]
                                  rfl
                                refine pure_ (i := 5) (N := some 48) (v := ?_) (a' := ?_) #[true, false, true, true, true, true, false, false, false, false] rfl rfl (any_of HT_.out (by kernel_rfl)) (fun _ _ _ h => h) (Or.inl ⟨by rfl, ?_⟩) ?_ ?_
                                rotate_left
                                · intro w'
                                  go_simp
                                  with_reducible rfl
                                rotate_left
                                · simp only [Act.put, List.setIfInBounds_toArray, List.set_cons_zero, List.set_cons_succ, i64_w, i32_w]
                                  rfl
                                refine pure_ (i := 6) (N := some 49) (v := ?_) (a' := ?_) #[true, false, true, true, true, true, true, false, false, false] rfl rfl (any_of HT_.out (by kernel_rfl)) (fun _ _ _ h => h) (Or.inl ⟨by rfl, ?_⟩) ?_ ?_
                                rotate_left
                                · intro w'
                                  go_simp
                                  with_reducible rfl
                                rotate_left
                                · simp only [Act.put, List.setIfInBounds_toArray, List.set_cons_zero, List.set_cons_succ, i64_w, i32_w]
                                  rfl
                                refine pure_ (i := 7) (N := some 50) (v := ?_) (a' := ?_) #[true, false, true, true, true, true, true, true, false, false] rfl rfl (any_of HT_.out (by kernel_rfl)) (fun _ _ _ h => h) (Or.inl ⟨by rfl, ?_⟩) ?_ ?_
                                rotate_left
                                · intro w'
                                  go_simp
                                  with_reducible rfl
                                rotate_left
                                · simp only [Act.put, List.setIfInBounds_toArray, List.set_cons_zero, List.set_cons_succ, i64_w, i32_w]
                                  rfl
                                refine pure_ (i := 8) (N := some 51) (v := ?_) (a' := ?_) #[true, false, true, true, true, true, true, true, true, false] rfl rfl (any_of HT_.out (by kernel_rfl)) (fun _ _ _ h => h) (Or.inl ⟨by rfl, ?_⟩) ?_ ?_
                                rotate_left
                                · intro w'
                                  go_simp
                                  with_reducible rfl
                                rotate_left
                                · simp only [Act.put, List.setIfInBounds_toArray, List.set_cons_zero, List.set_cons_succ, i64_w, i32_w]
                                  rfl
                                refine one_ (i := 1) (N := some 44) #[true, true, true, true, true, true, true, true, true, false] rfl rfl (one_of HT_.out (by kernel_rfl)) (by decide) (fun K hK => ?_)
                                refine goes_ Try.func36 (by kernel_rfl) rfl #[.int .u64 (Go.bits .or .u64 x5_2 (ji17))] (by rfl) rfl rfl (by (try simp only [List.map_toArray, List.map_cons, List.map_nil]); first | done | (simp only [hji17]; rfl) | rfl | (simp only [List.length_drop, List.length_take]; rfl)) ?_
                                with_reducible refine (wringerref1_PutVint.calls k2 (Go.bits .or .u64 x5_2 (ji17)) t177 _ A19.out).mono ?_
                                rintro e w25 ⟨rfl, hb⟩
                                refine ⟨_, rfl, ?_⟩
                                have n0_ := Aside0.mk (blk_below (g := gb176) (o := .cells #[.int .u64 x177000_2, .int .i64 x177001_2, .int .i64 x177002_2] 61 (0, 0)) (by (with_reducible repeat (first | refine blk_drewN ?_ _ | refine blk_drew ?_ | refine blk_alloc ?_ _)); exact BK176.out) hb)
                                have n1_ := Aside0.mk (below_step (by repeat (first | (with_reducible first | exact HB.out | apply below_alloc | apply pw_below_drewN | apply below_drew1 | refine below_set ?_ GE176.out) | exact HB.out)) hb)
                                clear BK176
                                clear HB
                                have BK176 := n0_
                                have HB := n1_
                                clear n0_ n1_
                                (try clear hb)
                                (try clear hb2)
                                (try clear hk)
                                (try clear hi)
                                refine hK.out _ _ trivial (fun hHeld => ?_)
                                clear hK K
                                refine norm_ (a' := ?_) ?_ ?_
                                rotate_left
                                · show Act.put _ (some 44) _ = _
                                  simp only [Act.put, List.setIfInBounds_toArray, List.set_cons_zero, List.set_cons_succ, i64_w, i32_w]
                                  rfl
                                refine pure_ (i := 9) (N := some 52) (v := ?_) (a' := ?_) #[true, true, true, true, true, true, true, true, true, true] rfl rfl (any_of HT_.out (by kernel_rfl)) (fun _ _ _ h => h) (Or.inl ⟨by rfl, ?_⟩) ?_ ?_
                                rotate_left
                                · intro w'
                                  go_simp
                                  with_reducible rfl
                                rotate_left
                                · simp only [Act.put, List.setIfInBounds_toArray, List.set_cons_zero, List.set_cons_succ, i64_w, i32_w]
                                  rfl
                                refine done_ (done_of HT_.out (by kernel_rfl)) ?_
                                have hcz26_0 : w25.cell? ⟨gb176, 0, none⟩ = some (.int .u64 x177000_2) := (blk_cell BK176.out 0).trans rfl
                                have hcz26_1 : w25.cell? ⟨gb176, 1, none⟩ = some (.int .i64 x177001_2) := (blk_cell BK176.out 1).trans rfl
                                have hcz26_2 : w25.cell? ⟨gb176, 2, none⟩ = some (.int .i64 x177002_2) := (blk_cell BK176.out 2).trans rfl
                                have hfz26_0 := blk_frozen BK176.out 0
                                have hfz26_1 := blk_frozen BK176.out 1
                                have hfz26_2 := blk_frozen BK176.out 2
                                try go_wp2
                                refine bodyPost_ret (results_cell_row rfl _ _ gb176 61 #[.int .u64 (Go.bits .or .u64 x5_2 (ji17)), .int .i64 (wrap64 ((ji11) + 1)), .int .i64 0] (0, 0) _ rfl (by (with_reducible repeat (first | refine blk_drewN ?_ _ | refine blk_drew ?_ | refine blk_alloc ?_ _)); refine blk_put (cs := #[.int .u64 (Go.bits .or .u64 x5_2 (ji17)), .int .i64 (wrap64 ((ji11) + 1)), .int .i64 x177002_2]) ?_ 2 _ rfl; (with_reducible repeat (first | refine blk_drewN ?_ _ | refine blk_drew ?_ | refine blk_alloc ?_ _)); refine blk_put (cs := #[.int .u64 (Go.bits .or .u64 x5_2 (ji17)), .int .i64 x177001_2, .int .i64 x177002_2]) ?_ 1 _ rfl; (with_reducible repeat (first | refine blk_drewN ?_ _ | refine blk_drew ?_ | refine blk_alloc ?_ _)); refine blk_put (cs := #[.int .u64 x177000_2, .int .i64 x177001_2, .int .i64 x177002_2]) ?_ 0 _ rfl; (with_reducible repeat (first | refine blk_drewN ?_ _ | refine blk_drew ?_ | refine blk_alloc ?_ _)); exact BK176.out) Try.underlying61 rfl (by kernel_rfl)) rfl ?_
                                exact ⟨by first | rfl | (simp [errW_none, errW_some] <;> rfl) | (simp only [← hji11, ← hji15, ← hji17]; first | rfl | (simp [errW_none, errW_some] <;> rfl)) | (simp [*, errW_none, errW_some] <;> rfl), by repeat (first | (with_reducible first | exact HB.out | apply below_alloc | apply pw_below_drewN | apply below_drew1 | refine below_set ?_ GE176.out) | exact HB.out)⟩
                              · rw [if_neg c23] at H
                                have c23b0 : (t177.toList == (a0.extract (a1 : Int).toNat ((wrap64 ((ji11) + 1)) : Int).toNat).toList) = false := beq_eq_false_iff_ne.mpr c23
                                have c23b1 : (t177.toList != (a0.extract (a1 : Int).toNat ((wrap64 ((ji11) + 1)) : Int).toNat).toList) = true := bne_iff_ne.mpr c23
                                simp only [Option.some.injEq, Prod.mk.injEq] at H
                                obtain ⟨rfl, rfl, rfl⟩ := H
                                have p14 : 0 ≤ ((ji11) : Int) := of_decide_eq_true (by first | (with_reducible assumption) | assumption)
                                have q14 : (ji11) < (a0.size : Int) := of_decide_eq_true (by first | (with_reducible assumption) | assumption)
                                have hx14 := bt_at a0 (ji11)
                                replace p14 := eq_true p14
                                replace q14 := eq_true q14
                                try go_wp2
                                have n0_ := Aside0.mk (blk_drew BK176.out)
                                have n1_ := Aside0.mk (below_drew1 HB.out)
                                clear BK176
                                clear HB
                                have BK176 := n0_
                                have HB := n1_
                                clear n0_ n1_
                                refine start_ (n := 10) (S := fun w' => True) (ds := []) #[false, false, false, false, false, false, false, false, false, false] (by kernel_rfl) rfl rfl trivial (fun hHeld => ?_); refine with_tabW wringerref1_GetVint.tab12 wringerref1_GetVint.bits12 (fun HT_ HW_ => ?_)
                                generalize wr.drew = w27 at BK176 HB hHeld ⊢
                                refine pure_ (i := 0) (N := some 43) (v := ?_) (a' := ?_) #[true, false, false, false, false, false, false, false, false, false] rfl rfl (any_of HT_.out (by kernel_rfl)) (fun _ _ _ h => h) (Or.inl ⟨by rfl, ?_⟩) ?_ ?_
                                rotate_left
                                · intro w'
                                  go_simp
                                  with_reducible rfl
                                rotate_left
                                · simp only [Act.put, List.setIfInBounds_toArray, List.set_cons_zero, List.set_cons_succ, i64_w, i32_w]
                                  rfl
                                refine pure_ (i := 2) (N := some 45) (v := ?_) (a' := ?_) #[true, false, true, false, false, false, false, false, false, false] rfl rfl (any_of HT_.out (by kernel_rfl)) (fun _ _ _ h => h) (Or.inl ⟨by rfl, ?_⟩) ?_ ?_
                                rotate_left
                                · intro w'
                                  go_simp
                                  with_reducible rfl
                                rotate_left
                                · simp only [Act.put, List.setIfInBounds_toArray, List.set_cons_zero, List.set_cons_succ, i64_w, i32_w]
                                  rfl
                                refine pure_ (i := 3) (N := some 46) (v := ?_) (a' := ?_) #[true, false, true, true, false, false, false, false, false, false] rfl rfl (any_of HT_.out (by kernel_rfl)) (fun _ _ _ h => h) (Or.inl ⟨by rfl, ?_⟩) ?_ ?_
                                rotate_left
                                · intro w'
                                  go_simp
                                  with_reducible rfl
                                rotate_left
                                · simp only [Act.put, List.setIfInBounds_toArray, List.set_cons_zero, List.set_cons_succ, i64_w, i32_w]
                                  rfl
                                refine pure_ (i := 4) (N := some 47) (v := ?_) (a' := ?_) #[true, false, true, true, true, false, false, false, false, false] rfl rfl (any_of HT_.out (by kernel_rfl)) (fun _ _ _ h => h) (Or.inl ⟨by rfl, ?_⟩) ?_ ?_
                                rotate_left
                                · intro w'
                                  go_simp
                                  with_reducible rfl
                                rotate_left
                                · simp only [Act.put, List.setIfInBounds_toArray, List.set_cons_zero, List.set_cons_succ, i64_w, i32_w]
                                  rfl
                                refine pure_ (i := 5) (N := some 48) (v := ?_) (a' := ?_) #[true, false, true, true, true, true, false, false, false, false] rfl rfl (any_of HT_.out (by kernel_rfl)) (fun _ _ _ h => h) (Or.inl ⟨by rfl, ?_⟩) ?_ ?_
                                rotate_left
                                · intro w'
                                  go_simp
                                  with_reducible rfl
                                rotate_left
                                · simp only [Act.put, List.setIfInBounds_toArray, List.set_cons_zero, List.set_cons_succ, i64_w, i32_w]
                                  rfl
                                refine pure_ (i := 6) (N := some 49) (v := ?_) (a' := ?_) #[true, false, true, true, true, true, true, false, false, false] rfl rfl (any_of HT_.out (by kernel_rfl)) (fun _ _ _ h => h) (Or.inl ⟨by rfl, ?_⟩) ?_ ?_
                                rotate_left
                                · intro w'
                                  go_simp
                                  with_reducible rfl
                                rotate_left
                                · simp only [Act.put, List.setIfInBounds_toArray, List.set_cons_zero, List.set_cons_succ, i64_w, i32_w]
                                  rfl
                                refine pure_ (i := 7) (N := some 50) (v := ?_) (a' := ?_) #[true, false, true, true, true, true, true, true, false, false] rfl rfl (any_of HT_.out (by kernel_rfl)) (fun _ _ _ h => h) (Or.inl ⟨by rfl, ?_⟩) ?_ ?_
                                rotate_left
                                · intro w'
                                  go_simp
                                  with_reducible rfl
                                rotate_left
                                · simp only [Act.put, List.setIfInBounds_toArray, List.set_cons_zero, List.set_cons_succ, i64_w, i32_w]
                                  rfl
                                refine pure_ (i := 8) (N := some 51) (v := ?_) (a' := ?_) #[true, false, true, true, true, true, true, true, true, false] rfl rfl (any_of HT_.out (by kernel_rfl)) (fun _ _ _ h => h) (Or.inl ⟨by rfl, ?_⟩) ?_ ?_
                                rotate_left
                                · intro w'
                                  go_simp
                                  with_reducible rfl
                                rotate_left
                                · simp only [Act.put, List.setIfInBounds_toArray, List.set_cons_zero, List.set_cons_succ, i64_w, i32_w]
                                  rfl
                                refine one_ (i := 1) (N := some 44) #[true, true, true, true, true, true, true, true, true, false] rfl rfl (one_of HT_.out (by kernel_rfl)) (by decide) (fun K hK => ?_)
                                refine goes_ Try.func36 (by kernel_rfl) rfl #[.int .u64 (Go.bits .or .u64 x5_2 (ji17))] (by rfl) rfl rfl (by (try simp only [List.map_toArray, List.map_cons, List.map_nil]); first | done | (simp only [hji17]; rfl) | rfl | (simp only [List.length_drop, List.length_take]; rfl)) ?_
                                with_reducible refine (wringerref1_PutVint.calls k2 (Go.bits .or .u64 x5_2 (ji17)) t177 _ A19.out).mono ?_
                                rintro e w28 ⟨rfl, hb⟩
                                refine ⟨_, rfl, ?_⟩
                                have n0_ := Aside0.mk (blk_below (g := gb176) (o := .cells #[.int .u64 x177000_2, .int .i64 x177001_2, .int .i64 x177002_2] 61 (0, 0)) (by (with_reducible repeat (first | refine blk_drewN ?_ _ | refine blk_drew ?_ | refine blk_alloc ?_ _)); exact BK176.out) hb)
                                have n1_ := Aside0.mk (below_step (by repeat (first | (with_reducible first | exact HB.out | apply below_alloc | apply pw_below_drewN | apply below_drew1 | refine below_set ?_ GE176.out) | exact HB.out)) hb)
                                clear BK176
                                clear HB
                                have BK176 := n0_
                                have HB := n1_
                                clear n0_ n1_
                                (try clear hb)
                                (try clear hb2)
                                (try clear hk)
                                (try clear hi)
                                refine hK.out _ _ trivial (fun hHeld => ?_)
                                clear hK K
                                refine norm_ (a' := ?_) ?_ ?_
                                rotate_left
                                · show Act.put _ (some 44) _ = _
                                  simp only [Act.put, List.setIfInBounds_toArray, List.set_cons_zero, List.set_cons_succ, i64_w, i32_w]
                                  rfl
                                refine pure_ (i := 9) (N := some 52) (v := ?_) (a' := ?_) #[true, true, true, true, true, true, true, true, true, true] rfl rfl (any_of HT_.out (by kernel_rfl)) (fun _ _ _ h => h) (Or.inl ⟨by rfl, ?_⟩) ?_ ?_
                                rotate_left
                                · intro w'
                                  go_simp
                                  with_reducible rfl
                                rotate_left
                                · simp only [Act.put, List.setIfInBounds_toArray, List.set_cons_zero, List.set_cons_succ, i64_w, i32_w]
                                  rfl
                                refine done_ (done_of HT_.out (by kernel_rfl)) ?_
                                have hcz29_0 : w28.cell? ⟨gb176, 0, none⟩ = some (.int .u64 x177000_2) := (blk_cell BK176.out 0).trans rfl
                                have hcz29_1 : w28.cell? ⟨gb176, 1, none⟩ = some (.int .i64 x177001_2) := (blk_cell BK176.out 1).trans rfl
                                have hcz29_2 : w28.cell? ⟨gb176, 2, none⟩ = some (.int .i64 x177002_2) := (blk_cell BK176.out 2).trans rfl
                                have hfz29_0 := blk_frozen BK176.out 0
                                have hfz29_1 := blk_frozen BK176.out 1
                                have hfz29_2 := blk_frozen BK176.out 2
                                try go_wp2
                                refine bodyPost_ret (results_cell_row rfl _ _ gb176 61 #[.int .u64 0, .int .i64 0, .int .i64 3] (0, 0) _ rfl (by (with_reducible repeat (first | refine blk_drewN ?_ _ | refine blk_drew ?_ | refine blk_alloc ?_ _)); refine blk_put (cs := #[.int .u64 0, .int .i64 0, .int .i64 x177002_2]) ?_ 2 _ rfl; (with_reducible repeat (first | refine blk_drewN ?_ _ | refine blk_drew ?_ | refine blk_alloc ?_ _)); refine blk_put (cs := #[.int .u64 0, .int .i64 x177001_2, .int .i64 x177002_2]) ?_ 1 _ rfl; (with_reducible repeat (first | refine blk_drewN ?_ _ | refine blk_drew ?_ | refine blk_alloc ?_ _)); refine blk_put (cs := #[.int .u64 x177000_2, .int .i64 x177001_2, .int .i64 x177002_2]) ?_ 0 _ rfl; (with_reducible repeat (first | refine blk_drewN ?_ _ | refine blk_drew ?_ | refine blk_alloc ?_ _)); exact BK176.out) Try.underlying61 rfl (by kernel_rfl)) rfl ?_
                                exact ⟨by first | rfl | (simp [errW_none, errW_some] <;> rfl) | (simp only [← hji11, ← hji15, ← hji17]; first | rfl | (simp [errW_none, errW_some] <;> rfl)) | (simp [*, errW_none, errW_some] <;> rfl), by repeat (first | (with_reducible first | exact HB.out | apply below_alloc | apply pw_below_drewN | apply below_drew1 | refine below_set ?_ GE176.out) | exact HB.out)⟩
                            · rw [if_neg c22] at H
                              exact absurd H (by simp)
                          · rw [if_neg c21] at H
                            exact absurd H (by simp)
                        · rw [if_neg c20] at H
                          exact absurd H (by simp)
                      · rw [if_neg c18] at H
                        have c18b0 : decide ((bt a0 (ji11)) < 128) = false := decide_eq_false c18
                        clear c18
                        have H' := Aside0.mk H
                        clear H
                        have p14 : 0 ≤ ((ji11) : Int) := of_decide_eq_true (by first | (with_reducible assumption) | assumption)
                        have q14 : (ji11) < (a0.size : Int) := of_decide_eq_true (by first | (with_reducible assumption) | assumption)
                        have hx14 := bt_at a0 (ji11)
                        replace p14 := eq_true p14
                        replace q14 := eq_true q14
                        go_wp2
                        go_roundg k2
                        case measure => have := HJ2.out; have := HK2.out; omega
                        case rel => exact ⟨(Go.bits .or .u64 x5_2 (ji17)), (wrap64 (x6_2 + 1)), (x177000_2), (x177001_2), (x177002_2), (by first | rfl | (simp; done) | (simp only [← hji17] <;> (first | rfl | simp)) | (simp [*]; done)), (by first | rfl | (simp; done) | (simp [*]; done)), H', ⟨by have := HJ2.out; have := HK2.out; omega⟩, ⟨by (with_reducible repeat (first | refine blk_drewN ?_ _ | refine blk_drew ?_ | refine blk_alloc ?_ _)); exact BK176.out⟩, ⟨by repeat (first | (with_reducible first | exact HB.out | apply below_alloc | apply pw_below_drewN | apply below_drew1 | refine below_set ?_ GE176.out) | exact HB.out)⟩⟩
                    · rw [if_neg c16] at H
                      exact absurd H (by simp)
                  · rw [if_neg c13] at H
                    exact absurd H (by simp)
                · rw [if_neg c12] at H
                  exact absurd H (by simp)
            · rw [if_neg c8] at H
              have c8b0 : decide (x6_2 < 10) = false := decide_eq_false c8
              clear c8
              simp only [Option.some.injEq, Prod.mk.injEq] at H
              obtain ⟨rfl, rfl, rfl⟩ := H
              have hcz30_0 : wr.cell? ⟨gb176, 0, none⟩ = some (.int .u64 x177000_2) := (blk_cell BK176.out 0).trans rfl
              have hcz30_1 : wr.cell? ⟨gb176, 1, none⟩ = some (.int .i64 x177001_2) := (blk_cell BK176.out 1).trans rfl
              have hcz30_2 : wr.cell? ⟨gb176, 2, none⟩ = some (.int .i64 x177002_2) := (blk_cell BK176.out 2).trans rfl
              have hfz30_0 := blk_frozen BK176.out 0
              have hfz30_1 := blk_frozen BK176.out 1
              have hfz30_2 := blk_frozen BK176.out 2
              go_wp2
              refine bodyPost_ret (results_cell_row rfl _ _ gb176 61 #[.int .u64 0, .int .i64 0, .int .i64 3] (0, 0) _ rfl (by (with_reducible repeat (first | refine blk_drewN ?_ _ | refine blk_drew ?_ | refine blk_alloc ?_ _)); refine blk_put (cs := #[.int .u64 0, .int .i64 0, .int .i64 x177002_2]) ?_ 2 _ rfl; (with_reducible repeat (first | refine blk_drewN ?_ _ | refine blk_drew ?_ | refine blk_alloc ?_ _)); refine blk_put (cs := #[.int .u64 0, .int .i64 x177001_2, .int .i64 x177002_2]) ?_ 1 _ rfl; (with_reducible repeat (first | refine blk_drewN ?_ _ | refine blk_drew ?_ | refine blk_alloc ?_ _)); refine blk_put (cs := #[.int .u64 x177000_2, .int .i64 x177001_2, .int .i64 x177002_2]) ?_ 0 _ rfl; (with_reducible repeat (first | refine blk_drewN ?_ _ | refine blk_drew ?_ | refine blk_alloc ?_ _)); exact BK176.out) Try.underlying61 rfl (by kernel_rfl)) rfl ?_
              exact ⟨by first | rfl | (simp [errW_none, errW_some] <;> rfl) | (simp [*, errW_none, errW_some] <;> rfl), by repeat (first | (with_reducible first | exact HB.out | apply below_alloc | apply pw_below_drewN | apply below_drew1 | refine below_set ?_ GE176.out) | exact HB.out)⟩

end Go.Proofs.Ytbldocbijihpgaa.PA

-- ---- Ux
/- Whole numbers in bytes: what the print's functions come to. No program in sight. -/
namespace Go.Proofs.Ytbldocbijihpgaa.PA
set_option linter.unusedVariables false
set_option linter.unusedSimpArgs false
open Go.RowKit Go.Proofs.YtbldocbijihpgaaW.PrintWords Go.Proofs.YtbldocbijihpgaaW.PrintLast Go.Proofs.YtbldocbijihpgaaW.PrintMore Vt Np Bits VintH

theorem strOf_txt (l : List Nat) : strOfNums (l.map fun b : Nat => (b : Int)) = txt l := by
  unfold strOfNums txt
  rw [List.map_map]
  congr 2
set_option maxRecDepth 10000 in
theorem or128 (n : Nat) : Go.bits .or .u8 ((n : Int) % 256) 128 = ((n % 128 + 128 : Nat) : Int) := by
  have e : (n : Int) % 256 = ((n % 256 : Nat) : Int) := by omega
  have key : ∀ x : Fin 256, x.val ||| 128 = x.val % 128 + 128 := by decide
  rw [e]
  have h := u8_or_nat (n % 256) 128 (by omega) (by decide)
  rw [show ((128 : Nat) : Int) = 128 from rfl] at h
  have h2 := key ⟨n % 256, by omega⟩
  simp only at h2
  rw [h, h2]
  congr 1; omega
theorem vput_l0 (d : Nat) : ∀ (n : Nat) (acc : List Nat), n < 128 ^ (d + 1) → acc.length + d < 1000 → Ev (fun k => vint_Put.l0 k (n : Int) (acc.map fun b : Nat => (b : Int))) (txt (acc ++ putV n)) := by
  induction d with
  | zero =>
    intro n acc hn hl
    have hn : n < 128 := by simpa using hn
    refine Ev.step (f := fun _ => some (txt (acc ++ [n]))) (fun k => ?_) (Ev.ofSome (by rw [putV_lt hn]))
    simp only [vint_Put.l0, List.length_map]
    rw [if_neg (by omega), if_pos (by omega), show (n : Int) % 256 = (n : Int) by omega]
    have := strOf_txt (acc ++ [n])
    rw [List.map_append] at this
    rw [← this]; rfl
  | succ d ih =>
    intro n acc hn hl
    rcases Nat.lt_or_ge n 128 with h | h
    · refine Ev.step (f := fun _ => some (txt (acc ++ [n]))) (fun k => ?_) (Ev.ofSome (by rw [putV_lt h]))
      simp only [vint_Put.l0, List.length_map]
      rw [if_neg (by omega), if_pos (by omega), show (n : Int) % 256 = (n : Int) by omega]
      have := strOf_txt (acc ++ [n])
      rw [List.map_append] at this
      rw [← this]; rfl
    · have e : txt (acc ++ putV n) = txt ((acc ++ [n % 128 + 128]) ++ putV (n / 128)) := by rw [putV_ge h]; simp
      rw [e]
      refine Ev.step (f := fun k => vint_Put.l0 k ((n / 128 : Nat) : Int) ((acc ++ [n % 128 + 128]).map fun b : Nat => (b : Int))) (fun k => ?_) (ih (n / 128) (acc ++ [n % 128 + 128]) (by rw [Nat.div_lt_iff_lt_mul (by decide)]; rwa [Nat.pow_succ] at hn) (by simp; omega))
      simp only [vint_Put.l0, List.length_map]
      rw [if_pos (by omega), if_pos (by omega), or128, List.map_append]; rfl
theorem vput_is (n : Nat) (h : n < 18446744073709551616) : Ev (fun k => vint_Put.f k (n : Int)) (txt (putV n)) := by
  have := vput_l0 9 n [] (Nat.lt_trans h (by decide)) (by decide)
  simpa [vint_Put.f] using this
theorem rvput_l0 (d : Nat) : ∀ (n : Nat) (acc : List Nat), n < 128 ^ (d + 1) → acc.length + d < 1000 → Ev (fun k => wringerref1_PutVint.l0 k (n : Int) (acc.map fun b : Nat => (b : Int))) (txt (acc ++ putV n)) := by
  induction d with
  | zero =>
    intro n acc hn hl
    have hn : n < 128 := by simpa using hn
    refine Ev.step (f := fun _ => some (txt (acc ++ [n]))) (fun k => ?_) (Ev.ofSome (by rw [putV_lt hn]))
    simp only [wringerref1_PutVint.l0, List.length_map]
    rw [if_neg (by omega), if_pos (by omega), show (n : Int) % 256 = (n : Int) by omega]
    have := strOf_txt (acc ++ [n])
    rw [List.map_append] at this
    rw [← this]; rfl
  | succ d ih =>
    intro n acc hn hl
    rcases Nat.lt_or_ge n 128 with h | h
    · refine Ev.step (f := fun _ => some (txt (acc ++ [n]))) (fun k => ?_) (Ev.ofSome (by rw [putV_lt h]))
      simp only [wringerref1_PutVint.l0, List.length_map]
      rw [if_neg (by omega), if_pos (by omega), show (n : Int) % 256 = (n : Int) by omega]
      have := strOf_txt (acc ++ [n])
      rw [List.map_append] at this
      rw [← this]; rfl
    · have e : txt (acc ++ putV n) = txt ((acc ++ [n % 128 + 128]) ++ putV (n / 128)) := by rw [putV_ge h]; simp
      rw [e]
      refine Ev.step (f := fun k => wringerref1_PutVint.l0 k ((n / 128 : Nat) : Int) ((acc ++ [n % 128 + 128]).map fun b : Nat => (b : Int))) (fun k => ?_) (ih (n / 128) (acc ++ [n % 128 + 128]) (by rw [Nat.div_lt_iff_lt_mul (by decide)]; rwa [Nat.pow_succ] at hn) (by simp; omega))
      simp only [wringerref1_PutVint.l0, List.length_map]
      rw [if_pos (by omega), if_pos (by omega), or128, List.map_append]; rfl
theorem rvput_is (n : Nat) (h : n < 18446744073709551616) : Ev (fun k => wringerref1_PutVint.f k (n : Int)) (txt (putV n)) := by
  have := rvput_l0 9 n [] (Nat.lt_trans h (by decide)) (by decide)
  simpa [wringerref1_PutVint.f] using this

theorem bt_byteV (s : ByteArray) (i : Nat) (h : i < s.size) : bt s (i : Int) = (byteS s i : Int) := by
  unfold bt
  rw [dif_pos (by rw [Int.toNat_natCast]; exact h)]
  congr 1
  exact byteS_eq s i h
theorem toList_injV {a b : ByteArray} : a.toList = b.toList ↔ a = b := by
  constructor
  · intro h
    have : a.data.toList = b.data.toList := by simpa [ByteArray.toList_eq] using h
    exact ByteArray.ext (Array.toList_inj.1 this)
  · rintro rfl; rfl
theorem shl_u64v (x k : Nat) (hk : k ≤ 64) : shl .u64 (x : Int) (k : Int) = IntKind.u64.wrap ((x : Int) * 2 ^ k) := by
  unfold shl
  have e : min ((k : Int).toNat) (IntKind.bits .u64) = k := by simp [IntKind.bits]; omega
  first | rw [e] | (simp only [Int.toNat_natCast]; rw [Nat.min_eq_left (by simpa [IntKind.bits] using hk)])
/-- The number so far, as both reckon it. -/
theorem num_next (acc b i : Nat) (hi9 : i ≤ 9) (haccb : acc < 128 ^ i) : ∃ n : Nat, Go.bits .or .u64 (acc : Int) (IntKind.u64.wrap (((b % 128 : Nat) : Int) * 2 ^ (7 * i))) = (n : Int) ∧ n < 18446744073709551616 ∧ (¬ (i = 9 ∧ 1 < b % 128) → n = acc + 128 ^ i * (b % 128)) := by
  have hacc2 : acc < 18446744073709551616 := by
    have hp63 : (128 : Nat) ^ i ≤ 128 ^ 9 := Nat.pow_le_pow_right (by decide) hi9
    have : (128 : Nat) ^ 9 < 18446744073709551616 := by decide
    omega
  by_cases h9 : i = 9 ∧ 1 < b % 128
  · have hx : (IntKind.u64.wrap (((b % 128 : Nat) : Int) * 2 ^ (7 * i))) = ((((b % 128) * 2 ^ (7 * i)) % 18446744073709551616 : Nat) : Int) := by
      have e0 : ((b % 128 : Nat) : Int) * 2 ^ (7 * i) = (((b % 128) * 2 ^ (7 * i) : Nat) : Int) := by simp
      rw [e0, IntKind.wrap_u64]; rfl
    rw [hx, u64_or_nat _ _ hacc2 (Nat.mod_lt _ (by decide))]
    exact ⟨_, rfl, Nat.or_lt_two_pow (n := 64) hacc2 (Nat.mod_lt _ (by decide)), fun h => absurd h9 h⟩
  · rw [or_shl acc (b % 128) i hi9 haccb (Nat.mod_lt _ (by decide)) (fun h => Nat.not_lt.1 fun h2 => h9 ⟨h, h2⟩)]
    refine ⟨_, rfl, ?_, fun _ => rfl⟩
    by_cases h : i = 9
    · subst h
      have h1 : b % 128 ≤ 1 := Nat.not_lt.1 fun h2 => h9 ⟨rfl, h2⟩
      have h2 := Nat.mul_le_mul_left (128 ^ 9) h1
      have : (128 : Nat) ^ 9 = 9223372036854775808 := by decide
      rw [this] at *
      omega
    · have h2 := Nat.mul_le_mul_left (128 ^ i) (show b % 128 ≤ 127 by have := Nat.mod_lt b (show 0 < 128 by decide); omega)
      have h3 : (128 : Nat) ^ i ≤ 128 ^ 8 := Nat.pow_le_pow_right (by decide) (by omega)
      have : (128 : Nat) ^ 8 = 72057594037927936 := by decide
      omega
def resV (m : Nat) (r : Nat × Nat × Nat) : Int × Int × Int := if r.2.2 = 0 then ((r.1 : Int), (m : Int) + (r.2.1 : Int), 0) else (0, 0, (r.2.2 : Int))
theorem resV_bad (m e : Nat) (h : e ≠ 0) : resV m (0, 0, e) = (0, 0, (e : Int)) := by unfold resV; rw [if_neg h]
theorem goV_nil (d : Nat) (f : Bool) : goV (d + 1) f [] = (0, 0, 2) := by rw [goV]
theorem goV_zero (f : Bool) (l : List Nat) : goV 0 f l = (0, 0, 3) := by rw [goV]
theorem comb_err (i acc e : Nat) (h : e ≠ 0) : comb i acc (0, 0, e) = (0, 0, e) := by unfold comb; rw [if_neg h]
theorem vgetE_res (s : ByteArray) (m : Nat) (h : m ≤ s.size) : vgetE s (m : Int) = resV m (goV 10 true ((bsOf s).drop m)) := by
  unfold vgetE resV
  rw [if_neg (by omega), Int.toNat_natCast]
theorem rgetv_end (s : ByteArray) (m : Int) (x : Int) : Ev (fun k => wringerref1_GetVint.l0 k s m x 10) (0, 0, 3) :=
  Ev.step (f := fun _ => some (0, 0, 3)) (fun k => by simp only [wringerref1_GetVint.l0]; rw [if_neg (by omega)]) (Ev.now _)
theorem w_add (m i : Nat) (h : m + i < 4611686018427387904) : wrap64 ((m : Int) + (i : Int)) = ((m + i : Nat) : Int) := by rw [w64 (by omega) (by omega)]; rfl
theorem w_mul7 (i : Nat) (h : 7 * i < 4611686018427387904) : wrap64 (7 * (i : Int)) = ((7 * i : Nat) : Int) := by rw [w64 (by omega) (by omega)]; omega
theorem w_succ (m : Nat) (h : m + 1 < 4611686018427387904) : wrap64 ((m : Int) + 1) = ((m + 1 : Nat) : Int) := by rw [w64 (by omega) (by omega)]; rfl
theorem rgetv_l0 (s : ByteArray) (m : Nat) (hs : s.size ≤ 1000000000000) : ∀ (d i : Nat) (acc : Nat) (p : List Nat), i + d = 10 → m + i ≤ s.size → p.length = i → (∀ x ∈ p, 128 ≤ x ∧ x < 256) → acc = vval p → ((bsOf s).take (m + i)).drop m = p →
    Ev (fun k => wringerref1_GetVint.l0 k s (m : Int) (acc : Int) (i : Int)) (resV m (comb i acc (goV (10 - i) (decide (i = 0)) ((bsOf s).drop (m + i))))) := by
  intro d
  induction d with
  | zero =>
    intro i acc p hi hmi hp hpb hacc hpre
    have : i = 10 := by omega
    subst this
    refine evq ?_ (rgetv_end s (m : Int) (acc : Int))
    rw [Nat.sub_self, goV_zero, comb_err _ _ _ (by decide), resV_bad _ _ (by decide)]; rfl
  | succ d ih =>
    intro i acc p hi hmi hp hpb hacc hpre
    have hi9 : i ≤ 9 := by omega
    have hb1 : m + i + 1 < 4611686018427387904 := by omega
    have hb2 : m + i < 4611686018427387904 := by omega
    have hb3 : 7 * i < 4611686018427387904 := by omega
    have hb4 : i + 1 < 4611686018427387904 := by omega
    by_cases hend : s.size ≤ m + i
    · have hd : (bsOf s).drop (m + i) = [] := List.drop_eq_nil_of_le (by rw [length_bsOf]; omega)
      rw [hd, show 10 - i = (9 - i) + 1 by omega, goV_nil, comb_err _ _ _ (by decide), resV_bad _ _ (by decide)]
      refine Ev.step (f := fun _ => some (0, 0, 2)) (fun k => ?_) (Ev.ofSome rfl)
      simp only [wringerref1_GetVint.l0, w_add m i hb2]
      rw [if_pos (by omega), if_pos (by omega)]
    · have hlt : m + i < s.size := by omega
      have hat := bsOf_at s (m + i) hlt
      have hbt := bt_byteV s (m + i) hlt
      have hb := byteS_lt s (m + i)
      obtain ⟨b, hbb⟩ : ∃ b, b = byteS s (m + i) := ⟨_, rfl⟩
      rw [← hbb] at hat hbt hb
      have hpos : ¬ s.size ≤ m + i := hend
      have hpre2 : ((bsOf s).take (m + i + 1)).drop m = p ++ [b] := by
        have hl := length_bsOf s
        have e1 : (bsOf s).take (m + i + 1) = (bsOf s).take (m + i) ++ [b] := by
          rw [List.take_succ_eq_append_getElem (by omega)]
          congr 2
          have := List.drop_eq_getElem_cons (l := bsOf s) (i := m + i) (by omega)
          rw [hat] at this
          injection this with h1 _
          exact h1.symm
        rw [e1, List.drop_append_of_le_length (by rw [List.length_take]; omega), hpre]
      have hand : IntKind.u64.wrap (Go.bits .and .u8 (b : Int) 127) = ((b % 128 : Nat) : Int) := by rw [and127 b hb, IntKind.wrap_u64]; omega
      have hv : vval (p ++ [b]) = acc + 128 ^ i * (b % 128) := by rw [vval_append, hp, ← hacc]; simp [vval]
      have haccb : acc < 128 ^ i := by rw [hacc, ← hp]; exact vval_lt p
      -- the number so far
      obtain ⟨n, hn⟩ := num_next acc b i hi9 haccb
      rw [← hv] at hn
      obtain ⟨hn1, hn2, hn3⟩ := hn
      have hsh : shl .u64 ((b % 128 : Nat) : Int) ((7 * i : Nat) : Int) = IntKind.u64.wrap (((b % 128 : Nat) : Int) * 2 ^ (7 * i)) := shl_u64v _ _ (by omega)
      rw [hat]
      by_cases h128 : b < 128
      · -- the last one
        have hres : resV m (comb i acc (goV (10 - i) (decide (i = 0)) (b :: (bsOf s).drop (m + i + 1)))) = if putV n = p ++ [b] then ((n : Int), ((m + i + 1 : Nat) : Int), 0) else (0, 0, 3) := by
          by_cases h9 : i = 9 ∧ 1 < b % 128
          · rw [comb_bad i acc b _ _ hi9 h9, if_neg]
            · rw [resV_bad _ _ (by decide)]; rfl
            · intro h
              have := ((putV_is p b n hpb h128).1 h).1
              rw [hv, h9.1] at this
              have h3 := Nat.mul_le_mul_left (128 ^ 9) (show 2 ≤ b % 128 by omega)
              omega
          · have hnv := hn3 h9
            by_cases h0 : b = 0 ∧ decide (i = 0) = false
            · rw [comb_zero i acc b _ _ hi9 h9 h128 h0, if_neg]
              · rw [resV_bad _ _ (by decide)]; rfl
              · intro h
                rcases ((putV_is p b n hpb h128).1 h).2 with h | h
                · have := of_decide_eq_false h0.2
                  rw [h] at hp; simp at hp; omega
                · exact h h0.1
            · rw [comb_last i acc b _ _ hi9 h9 h128 h0, if_pos]
              · unfold resV
                rw [if_pos rfl, hnv, hv, Nat.mod_eq_of_lt h128]
                simp only [Prod.mk.injEq]
                exact ⟨trivial, by omega, trivial⟩
              · refine (putV_is p b n hpb h128).2 ⟨hnv, ?_⟩
                by_cases hb0 : b = 0
                · left
                  have : i = 0 := by
                    apply Classical.byContradiction
                    intro hne
                    exact h0 ⟨hb0, decide_eq_false hne⟩
                  exact List.length_eq_zero_iff.1 (by omega)
                · exact .inr hb0
        rw [show m + i + 1 = m + i + 1 from rfl, hres]
        refine Ev.step (f := fun k => (wringerref1_PutVint.f k (n : Int)).bind fun t177 => (if t177.toList = (s.extract m (m + i + 1)).toList then some ((n : Int), ((m + i + 1 : Nat) : Int), 0) else some (0, 0, 3))) (fun k => ?_) (Ev.bind (rvput_is n hn2) ?_)
        · simp only [wringerref1_GetVint.l0, w_add m i hb2, w_mul7 i hb3, hbt, hand, hsh, hn1, w_succ (m + i) hb1, Int.toNat_natCast]
          clear hbt hand hsh hn1 hres hpre hpre2 hv hacc
          have g1 : (0 : Int) ≤ (m : Int) := by omega
          have g2 : (m : Int) ≤ ((m + i + 1 : Nat) : Int) := by omega
          have g3 : ((m + i + 1 : Nat) : Int) ≤ (s.size : Int) := by omega
          rw [if_pos (by omega), if_neg (by omega), if_pos (by omega), if_pos (by omega), if_pos (by omega), if_pos (by omega)]
          simp only [g1, g2, g3, if_true]
        · have hq : (txt (putV n)).toList = (s.extract m (m + i + 1)).toList ↔ putV n = p ++ [b] := by
            rw [toList_injV]
            constructor
            · intro h
              have := congrArg bsOf h
              rwa [bsOf_txt _ (putV_byte n), bsOf_extract, hpre2] at this
            · intro h
              apply bsOf_inj
              rw [bsOf_txt _ (putV_byte n), bsOf_extract, hpre2, h]
          by_cases hc : putV n = p ++ [b]
          · rw [if_pos hc]; exact Ev.ite_pos (hq.2 hc) (Ev.now _)
          · rw [if_neg hc]; exact Ev.ite_neg (fun h => hc (hq.1 h)) (Ev.now _)
      · -- one more
        have step : ∀ k, wringerref1_GetVint.l0 (k + 1) s (m : Int) (acc : Int) (i : Int) = wringerref1_GetVint.l0 k s (m : Int) (n : Int) ((i + 1 : Nat) : Int) := fun k => by
          simp only [wringerref1_GetVint.l0, w_add m i hb2, w_mul7 i hb3, hbt, hand, hsh, hn1, w_succ i hb4]
          clear hbt hand hsh hn1 hpre hpre2 hv hacc
          rw [if_pos (by omega), if_neg (by omega), if_pos (by omega), if_pos (by omega), if_pos (by omega), if_neg (by omega)]
        by_cases h9 : i = 9 ∧ 1 < b % 128
        · rw [comb_bad i acc b _ _ hi9 h9, resV_bad _ _ (by decide)]
          obtain ⟨rfl, _⟩ := h9
          exact Ev.step (f := fun k => wringerref1_GetVint.l0 k s (m : Int) (n : Int) ((9 + 1 : Nat) : Int)) step (rgetv_end s (m : Int) (n : Int))
        · have hnv := hn3 h9
          rw [comb_more (bsOf s) i acc b _ _ hi9 h9 (by omega), ← hv, ← hnv]
          refine Ev.step (f := fun k => wringerref1_GetVint.l0 k s (m : Int) (n : Int) ((i + 1 : Nat) : Int)) step ?_
          have := ih (i + 1) n (p ++ [b]) (by omega) (by omega) (by simp; omega) (fun x hx => by
            rcases List.mem_append.1 hx with h | h
            · exact hpb x h
            · have : x = b := by simpa using h
              omega) hnv (by rw [show m + (i + 1) = m + i + 1 by omega]; exact hpre2)
          rw [show decide (i + 1 = 0) = false from rfl, show m + (i + 1) = m + i + 1 by omega] at this
          exact this
theorem rgetv_is (s : ByteArray) (a : Int) (hs : s.size ≤ 1000000000000) : Ev (fun k => wringerref1_GetVint.f k s a) (vgetE s a) := by
  unfold wringerref1_GetVint.f
  have bad : Ev (fun k => wringerref1_GetVint.j0 k s a true) (0, 0, 1) := Ev.step (f := fun _ => some (0, 0, 1)) (fun k => by simp only [wringerref1_GetVint.j0]; rfl) (Ev.now _)
  by_cases h0 : a < 0
  · have e : vgetE s a = (0, 0, 1) := by unfold vgetE; rw [if_pos (.inl h0)]
    rw [e]; exact Ev.ite_pos h0 bad
  · refine Ev.ite_neg h0 ?_
    by_cases h1 : a > (s.size : Int)
    · have e : vgetE s a = (0, 0, 1) := by unfold vgetE; rw [if_pos (.inr h1)]
      rw [e, decide_eq_true h1]; exact bad
    · obtain ⟨m, rfl⟩ := Int.eq_ofNat_of_zero_le (show 0 ≤ a by omega)
      have h := rgetv_l0 s m hs 10 0 0 [] rfl (by omega) rfl (fun x hx => by simp at hx) rfl (by rw [Nat.add_zero]; exact List.drop_eq_nil_of_le (by rw [List.length_take]; omega))
      rw [Nat.add_zero, show decide (0 = 0) = true from rfl, show 10 - 0 = 10 from rfl, comb_start _ (goV_err 10 true _), ← vgetE_res s m (by omega)] at h
      rw [decide_eq_false h1]
      refine Ev.step (f := fun k => wringerref1_GetVint.l0 k s (m : Int) ((0 : Nat) : Int) ((0 : Nat) : Int)) (fun k => ?_) h
      simp only [wringerref1_GetVint.j0]; rfl
end Go.Proofs.Ytbldocbijihpgaa.PA

-- ---- Nj
/- norm.Put: the bytes of numbers. Conditions: no number is below nought; the list is not longer than a hundred thousand. -/
namespace Go.Proofs.Ytbldocbijihpgaa.NormP
set_option linter.unusedSimpArgs false
set_option linter.unusedVariables false
open Go.RowKit Mix _root_.Go.Proofs.Ytbldocbijihpgaa.Own Vt Np PA
open Go.Proofs.YtbldocbijihpgaaW.PrintWords

abbrev IsB (b : Nat) (B : Nat) (done : List Nat) (w : World) : Prop := Lib.IsBuilderF 65 5 B b (Lib.byteCells (done.map UInt8.ofNat)) w
theorem isB_later {b B : Nat} {done : List Nat} {w w' : World} (h : IsB b B done w) (hb : Below w.heap.size w w') : IsB b B done w' := by
  have key : ∀ p, Lib.BuilderAtF 65 5 B b p (Lib.byteCells (done.map UInt8.ofNat)) w → Lib.BuilderAtF 65 5 B b p (Lib.byteCells (done.map UInt8.ofNat)) w' := by
    rintro p ⟨hB, v, hbk, hown, hne⟩
    refine ⟨hB, v, (hb.block b (Array.getElem?_eq_some_iff.1 hbk).1).trans hbk, ?_, hne⟩
    rcases hown.2 with ⟨hv, h0⟩ | ⟨g, cap, cur, fz, hv, hg, hh, rest⟩
    · exact ⟨hown.1, .inl ⟨hv, h0⟩⟩
    · exact ⟨hown.1, .inr ⟨g, cap, cur, fz, hv, hg, (hb.block g (Array.getElem?_eq_some_iff.1 hh).1).trans hh, rest⟩⟩
  exact h.elim (fun h => .inl (key _ h)) (fun h => .inr (key _ h))
theorem strCells_txt (l : List Nat) : Lib.strCells (txt l) = Lib.byteCells (l.map UInt8.ofNat) := rfl
theorem vput_calls (n : Nat) (w : World) (h : n < 18446744073709551616) : Calls Try.prog 34 #[.int .u64 (n : Int)] w fun e w' => e = .returned (.string (txt (putV n))) ∧ Below w.heap.size w w' := by
  obtain ⟨k, hk⟩ := (vput_is n h).rounds
  exact vint_Put.calls k n _ w hk
/-- One number more. -/
theorem write_more (B b : Nat) (done more : List Nat) (w : World) (h : IsB b B done w) (hlen : done.length + more.length ≤ 100000000) (hBw : B ≤ w.heap.size) :
    Calls Try.prog 33 #[.pointer (some ⟨b, 0, none⟩), .string (txt more)] w fun e w' => (∃ n : Int, e = .returned (.tuple #[.int .i64 n, .nilIface])) ∧ IsB b B (done ++ more) w' ∧ Below B w w' := by
  refine (Sb.write_calls B b _ (txt more) w h (by rw [Lib.byteCells_length, List.length_map, size_txt]; omega) hBw).mono ?_
  rintro e w' ⟨rfl, h1, h2⟩
  refine ⟨⟨_, rfl⟩, ?_, h2⟩
  rw [strCells_txt] at h1
  unfold IsB
  rw [List.map_append]
  have : Lib.byteCells (done.map UInt8.ofNat ++ more.map UInt8.ofNat) = Lib.byteCells (done.map UInt8.ofNat) ++ Lib.byteCells (more.map UInt8.ofNat) := by simp [Lib.byteCells]
  rw [this]; exact h1

theorem len_facts (done : List Nat) (R i n : Nat) (h1 : done.length ≤ 30 * i) (h2 : i + R + 1 ≤ n) (h3 : n ≤ 100000) (h4 : (putV R).length ≤ 10) :
    (done ++ putV 0).length + (putV R).length ≤ 100000000 ∧ (done ++ putV 0 ++ putV R).length ≤ 30 * (i + R + 1) ∧ i + R + 1 ≤ n ∧ done.length + (putV 0).length ≤ 100000000 := by
  have h0 := congrArg List.length (putV_lt (show 0 < 128 by decide))
  simp only [List.length_singleton] at h0
  generalize putV 0 = p0 at *
  generalize putV R = pR at *
  simp only [List.length_append]
  omega
theorem cell_add {w : World} {x : Addr} {n : Nat} {v : Value} (h : w.cell? (x.add n) = some v) (hn : n ≠ 0) : w.cell? ⟨x.block, x.off + n, none⟩ = some v := by
  unfold Addr.add at h; rw [if_neg hn] at h; exact h
set_option maxRecDepth 20000 in
set_option maxHeartbeats 8000000 in
theorem nput_calls (A0 : Option Addr) (c0 : Nat) (l : List Int) (w : World) (hr0 : Kd.C (Kd.int .i64) w A0 l.length l) (hc0 : l.length ≤ c0) (hnn : ∀ x ∈ l, 0 ≤ x ∧ x < 9223372036854775808) (hl : l.length ≤ 100000) :
    Calls Try.prog 19 #[.slice A0 l.length c0] w fun e w' => e = .returned (.string (txt (nputL l))) ∧ Below w.heap.size w w' := by
  have hR := Own.rd_of_C hr0
  obtain ⟨n, hn⟩ : ∃ n, n = l.length := ⟨_, rfl⟩
  rw [← hn] at hR hl ⊢
  obtain ⟨B, hB⟩ : ∃ B, B = w.heap.size := ⟨_, rfl⟩
  have HR := kept hR
  have HL := kept hn
  have HN := kept hnn
  have HB := kept hB
  rw [← hB]
  clear hr0 hc0 hR hn hnn hB
  go_enter Try.func19, Try.ntmps19
  go_wp2_with fail
  rw [← HB.out]
  generalize hwa : World.alloc w _ = wa
  have HI := kept (show IsB B B [] wa by rw [← hwa, HB.out]; exact Lib.IsBuilderF.of (Lib.fresh_isBuilder _ _ w))
  have HBa := kept (show Below B w wa by rw [← hwa, HB.out]; exact (Below.refl _ _).alloc (Nat.le_refl _) _)
  have HSa := kept (show B ≤ wa.heap.size by rw [HB.out]; exact (show Below w.heap.size w wa by rw [← HB.out]; exact HBa.out).size)
  clear hwa
  go_loopw [4] (fun s4 wr => ∃ (i : Nat) (done : List Nat), i ≤ n ∧ s4 = .int .i64 (i : Int) ∧ IsB B B done wr ∧ Below B w wr ∧ B ≤ wr.heap.size ∧ done ++ nputL (l.drop i) = nputL l ∧ done.length ≤ 30 * i) (fun s4 _ => n - (intOf s4).toNat)
  case atStart => exact ⟨0, [], by omega, rfl, HI.out, HBa.out, HSa.out, by simp, by simp⟩
  case round =>
    obtain ⟨i, done, hin, rfl, hI, hb, hs, hd, hdl⟩ := hrel
    obtain ⟨wq, rfl⟩ : ∃ wq, wq = wr := ⟨wr, rfl⟩
    have HI1 := kept hI
    have HB1 := kept hb
    have HS1 := kept hs
    have HD1 := kept hd
    clear hI hb hs hd HI HBa HSa
    by_cases hlt : i < n
    · have hil : i < l.length := by rw [← HL.out]; exact hlt
      obtain ⟨x, rfl, hcw⟩ := HR.out.at (Own.ints_at .i64 l i hil)
      have hxB : (x.add i).block < B := by rw [HB.out]; exact World.block_lt_of_cell? w _ hcw
      have hc := (HB1.out.cell hxB).trans hcw
      have hy := HN.out (l.getD i 0) (by simp [List.getD_eq_getElem?_getD, hil])
      have hdr : l.drop i = l.getD i 0 :: l.drop (i + 1) := by rw [List.drop_eq_getElem_cons hil]; simp [List.getD_eq_getElem?_getD, hil]
      obtain ⟨y, hye⟩ : ∃ y : Nat, l.getD i 0 = (y : Int) := ⟨(l.getD i 0).toNat, by omega⟩
      rw [hye] at hc hy hdr hcw
      have hy63 : y < 9223372036854775808 := by omega
      have HYe := kept hye
      have HDr := kept hdr
      have HYl := kept (putV_len64 y (by omega))
      have HVp := kept (vput_calls y wq (by omega))
      have HCw := kept hcw
      have HDl := kept hdl
      clear hye hil hy hdr hcw
      by_cases hy0 : y = 0
      · subst hy0
        obtain ⟨R, hRn⟩ : ∃ R, R = runZ (l.drop (i + 1)) := ⟨_, rfl⟩
        have hR2 := runZ_le (l.drop (i + 1))
        rw [← hRn, List.length_drop, ← HL.out] at hR2
        have hAt : Kept (∀ q, q < R → l.getD (i + 1 + q) 0 = 0) := kept (fun q hq => by
          have h := runZ_at (l.drop (i + 1)) q (by rw [← hRn]; exact hq)
          simpa [List.getD_eq_getElem?_getD] using h)
        have hEnd : Kept (i + 1 + R = n ∨ l.getD (i + 1 + R) 0 ≠ 0) := kept (by
          rcases runZ_end (l.drop (i + 1)) with h | h
          · left; rw [← hRn, List.length_drop, ← HL.out] at h; omega
          · right; rw [← hRn] at h; simpa [List.getD_eq_getElem?_getD] using h)
        have hnb : Kept (done ++ putV 0 ++ putV R ++ nputL (l.drop (i + R + 1)) = nputL l) := kept (by
          have h := HD1.out
          have h2 := nputL_zero (l.drop (i + 1))
          rw [show ((0 : Nat) : Int) = 0 from rfl] at HDr
          rw [← HDr.out, ← hRn, List.drop_drop, show i + 1 + R = i + R + 1 by omega] at h2
          rw [← h, h2, putV_lt (show 0 < 128 by decide)]; simp)
        have HVp2 : Kept (∀ wx, Calls Try.prog 34 #[.int .u64 ((i : Int) + (R : Int) - (i : Int))] wx fun e w' => e = .returned (.string (txt (putV R))) ∧ Below wx.heap.size wx w') := kept (fun wx => by
          rw [show (i : Int) + (R : Int) - (i : Int) = (R : Int) by omega]; exact vput_calls R wx (by omega))
        have HRl := kept (putV_len64 R (by omega))
        have HLen := kept (len_facts done R i n hdl (by omega) hl HRl.out)
        have hR63 : R < 9223372036854775808 := by omega
        clear hRn
        go_upto_block 2 with (first
          | (go_at_call 34; refine HVp.out.mono ?_; rintro e w2 ⟨rfl, hb2⟩; have HI2 := kept (isB_later HI1.out hb2); have HB2 := kept (HB1.out.trans (hb2.mono HS1.out)); have HS2 := kept (Nat.le_trans HS1.out hb2.size); clear hb2 hc)
          | (go_at_call 33; refine (write_more B B done (putV 0) _ HI2.out HLen.out.2.2.2 HS2.out).mono ?_; rintro e w3 ⟨⟨n3, rfl⟩, hI3, hb3⟩; have HI3 := kept hI3; have HB3 := kept (HB2.out.trans hb3); have HS3 := kept (Nat.le_trans HS2.out hb3.size); have hc3 := (HB3.out.cell hxB).trans HCw.out; clear hI3 hb3))
        go_cut [4] from 25 to 39 (fun s4 wx => s4 = .int .i64 ((i : Int) + (R : Int)) ∧ wx = w3)
        case first =>
          go_wp2_with fail
          go_loopw [4] (fun s4 wr => ∃ q : Nat, q ≤ R ∧ s4 = .int .i64 ((i : Int) + (q : Int)) ∧ wr = w3) (fun s4 _ => i + R - (intOf s4).toNat)
          case atStart => exact ⟨0, by omega, by simp, rfl⟩
          case round =>
            obtain ⟨q, hq, rfl, rfl⟩ := hrel
            have cellq : i + 1 + q < n → wr.cell? (x.add (i + 1 + q)) = some (.int .i64 (l.getD (i + 1 + q) 0)) := fun h => by
              obtain ⟨x2, hx2, hcw2⟩ := HR.out.at (Own.ints_at .i64 l (i + 1 + q) (by rw [← HL.out]; exact h))
              cases hx2
              exact (HB3.out.cell (by rw [HB.out]; exact World.block_lt_of_cell? w _ hcw2)).trans hcw2
            rw [show i + 1 + q = i + q + 1 by omega] at cellq
            by_cases hqr : q < R
            · have hiq : i + q + 1 < n := by omega
              have t1 : decide ((i : Int) + (q : Int) + 1 < (n : Int)) = true := decide_eq_true (by omega)
              have hcq := cellq hiq
              rw [show i + q + 1 = i + 1 + q by omega, hAt.out q hqr, show i + 1 + q = i + q + 1 by omega] at hcq
              replace hcq := cell_add hcq (by omega)
              clear cellq hc3
              go_wp2_with fail
              go_roundw
              case rel => exact ⟨q + 1, by omega, by go_num, trivial⟩
              case measure => simp [intOf]; omega
            · have hqe : q = R := by omega
              subst hqe
              by_cases h65 : i + 1 + q = n
              · have t1 : decide ((i : Int) + (q : Int) + 1 < (n : Int)) = false := decide_eq_false (by omega)
                clear cellq hqr hc3
                go_wp2_with fail
                go_meet
                case rel => exact ⟨rfl, by first | trivial | rfl⟩
              · have t1 : decide ((i : Int) + (q : Int) + 1 < (n : Int)) = true := decide_eq_true (by omega)
                have hiq : i + q + 1 < n := by omega
                have hcq := cellq hiq
                obtain ⟨z, hz⟩ : ∃ z, z = l.getD (i + q + 1) 0 := ⟨_, rfl⟩
                have hEz := hEnd.out
                rw [show i + 1 + q = i + q + 1 by omega, ← hz] at hEz
                rw [← hz] at hcq
                have hz0 : z ≠ 0 := by rcases hEz with h | h; exact absurd h (by omega); exact h
                have t2 : (z == 0) = false := by rw [beq_eq_false_iff_ne]; exact hz0
                replace hcq := cell_add hcq (by omega)
                clear cellq hqr hEz hz hz0 hc3
                go_wp2_with fail
                go_meet
                case rel => exact ⟨rfl, by first | trivial | rfl⟩
        case rest =>
          obtain ⟨rfl, rfl⟩ := hcut
          clear hc3
          go_wp2_with (first
            | (go_at_call 34; refine (HVp2.out _).mono ?_; rintro e w4 ⟨rfl, hb4⟩; have HI4 := kept (isB_later HI3.out hb4); have HB4 := kept (HB3.out.trans (hb4.mono HS3.out)); have HS4 := kept (Nat.le_trans HS3.out hb4.size); clear hb4)
            | (go_at_call 33; refine (write_more B B (done ++ putV 0) (putV R) _ HI4.out HLen.out.1 HS4.out).mono ?_; rintro e w5 ⟨⟨n5, rfl⟩, hI5, hb5⟩; have HI5 := kept hI5; have HB5 := kept (HB4.out.trans hb5); have HS5 := kept (Nat.le_trans HS4.out hb5.size); clear hI5 hb5))
          go_roundw
          case rel => exact ⟨i + R + 1, done ++ putV 0 ++ putV R, HLen.out.2.2.1, by go_num, HI5.out, HB5.out, HS5.out, hnb.out, HLen.out.2.1⟩
          case measure => simp [intOf]; omega
      · have HLy : Kept (done.length + (putV y).length ≤ 100000000) := kept (by have := HYl.out; omega)
        have hnb : Kept (done ++ putV y ++ nputL (l.drop (i + 1)) = nputL l) := kept (by
          have h := HD1.out
          rw [HDr.out, nputL_pos _ _ (by omega), Int.toNat_natCast] at h
          rw [← h]; simp)
        go_wp2_with (first
          | (go_at_call 34; refine HVp.out.mono ?_; rintro e w2 ⟨rfl, hb2⟩; have HI2 := kept (isB_later HI1.out hb2); have HB2 := kept (HB1.out.trans (hb2.mono HS1.out)); have HS2 := kept (Nat.le_trans HS1.out hb2.size); clear hb2 hc)
          | (go_at_call 33; refine (write_more B B done (putV y) _ HI2.out HLy.out HS2.out).mono ?_; rintro e w3 ⟨⟨n3, rfl⟩, hI3, hb3⟩; have HI3 := kept hI3; have HB3 := kept (HB2.out.trans hb3); have HS3 := kept (Nat.le_trans HS2.out hb3.size); have hc3 := (HB3.out.cell hxB).trans HCw.out; clear hI3 hb3))
        go_roundw
        case rel => exact ⟨i + 1, done ++ putV y, by omega, by go_num, HI3.out, HB3.out, HS3.out, hnb.out, by have := HYl.out; have := HDl.out; rw [List.length_append]; omega⟩
        case measure => simp [intOf]; omega
    · have hie : i = n := by omega
      subst hie
      have HF : Kept (nputL l = done) := kept (by
        have h := HD1.out
        rw [List.drop_eq_nil_of_le (by rw [← HL.out]; exact Nat.le_refl _), nputL_nil, List.append_nil] at h
        exact h.symm)
      have HStr := kept (Sb.string_calls B B (done.map UInt8.ofNat) wq HI1.out HS1.out)
      clear hlt hdl
      go_wp2_with (first | (go_at_call 35; refine HStr.out.mono ?_; rintro e w2 ⟨rfl, hb2⟩; have HB2 := kept (HB1.out.trans hb2)))
      go_ret
      exact ⟨by rw [HF.out]; rfl, HB2.out⟩
end Go.Proofs.Ytbldocbijihpgaa.NormP

-- ---- My
/- Several rows of one-cell elements that a call owns side by side: each in a block of its own. No program in sight. -/
namespace Go.Proofs.Ytbldocbijihpgaa.Own
set_option linter.unusedSimpArgs false
set_option linter.unusedVariables false
open Go Go.RowKit

/-- In no block both. -/
def Dj (u v : Value) : Prop := ∀ b, u.ownBlock = some b → v.ownBlock ≠ some b
theorem Dj.symm {u v : Value} (h : Dj u v) : Dj v u := fun b h1 h2 => h b h2 h1
/-- These rows, each alone in its block, all from block B on. -/
structure Many (B : Nat) (w : World) (e : TypeId) (R : List (Value × List Value)) : Prop where
  own : ∀ (i : Nat) v xs, R[i]? = some (v, xs) → Owns w e v xs
  new : ∀ (i : Nat) v xs, R[i]? = some (v, xs) → ∀ b, v.ownBlock = some b → B ≤ b
  sep : ∀ (i j : Nat) a xs b ys, i ≠ j → R[i]? = some (a, xs) → R[j]? = some (b, ys) → Dj a b

theorem Many.nil (B : Nat) (w : World) (e : TypeId) : Many B w e [] := ⟨fun i v xs h => by simp at h, fun i v xs h => by simp at h, fun i j a xs b ys _ h => by simp at h⟩
theorem Many.chg {B : Nat} {w w' : World} {S : Nat → Prop} {e : TypeId} {R : List (Value × List Value)} (h : Many B w e R) (hc : Chg S w w') (hn : ∀ (i : Nat) v xs, R[i]? = some (v, xs) → ∀ g, v.ownBlock = some g → ¬ S g) : Many B w' e R :=
  ⟨fun i v xs hi => (h.own i v xs hi).chg hc (hn i v xs hi), h.new, h.sep⟩
theorem Many.later {B : Nat} {w w' : World} {e : TypeId} {R : List (Value × List Value)} (h : Many B w e R) (hb : Below w.heap.size w w') : Many B w' e R :=
  ⟨fun i v xs hi => (h.own i v xs hi).keep fun g hg hl => hb.block g hl, h.new, h.sep⟩
/-- One row has turned. -/
theorem Many.set {B : Nat} {w w' : World} {e : TypeId} {R : List (Value × List Value)} (h : Many B w e R) (i : Nat) {v v' : Value} {xs xs' : List Value} (hi : R[i]? = some (v, xs)) (hc : Chg (fun k => some k = v.ownBlock) w w')
    (ho : Owns w' e v' xs') (hn : ∀ g, v'.ownBlock = some g → some g = v.ownBlock ∨ w.heap.size ≤ g) (hB : B ≤ w.heap.size) : Many B w' e (R.set i (v', xs')) := by
  have hil : i < R.length := (List.getElem?_eq_some_iff.1 hi).1
  refine ⟨fun j u ys hj => ?_, fun j u ys hj b hb => ?_, fun j k a ys b zs hjk hj hk => ?_⟩
  · by_cases e1 : j = i
    · subst e1
      rw [List.getElem?_set_self hil, Option.some.injEq, Prod.mk.injEq] at hj
      obtain ⟨rfl, rfl⟩ := hj; exact ho
    · rw [List.getElem?_set_ne (fun e => e1 e.symm)] at hj
      exact (h.own j u ys hj).chg hc fun g hg hs => h.sep j i u ys v xs e1 hj hi g hg hs.symm
  · by_cases e1 : j = i
    · subst e1
      rw [List.getElem?_set_self hil, Option.some.injEq, Prod.mk.injEq] at hj
      obtain ⟨rfl, rfl⟩ := hj
      rcases hn b hb with h1 | h1
      · exact h.new j v xs hi b h1.symm
      · omega
    · rw [List.getElem?_set_ne (fun e => e1 e.symm)] at hj; exact h.new j u ys hj b hb
  · have other : ∀ (m : Nat) (u : Value) (us : List Value), m ≠ i → R[m]? = some (u, us) → Dj u v' := fun m u us hm hmu g hg hv => by
      rcases hn g hv with h1 | h1
      · exact h.sep m i u us v xs hm hmu hi g hg h1.symm
      · have := (h.own m u us hmu).lt g hg; omega
    by_cases e1 : j = i
    · subst e1
      have e2 : k ≠ j := fun e => hjk e.symm
      rw [List.getElem?_set_self hil, Option.some.injEq, Prod.mk.injEq] at hj
      rw [List.getElem?_set_ne (fun e => e2 e.symm)] at hk
      obtain ⟨rfl, rfl⟩ := hj
      exact (other k b zs e2 hk).symm
    · rw [List.getElem?_set_ne (fun e => e1 e.symm)] at hj
      by_cases e2 : k = i
      · subst e2
        rw [List.getElem?_set_self hil, Option.some.injEq, Prod.mk.injEq] at hk
        obtain ⟨rfl, rfl⟩ := hk
        exact other j a ys e1 hj
      · rw [List.getElem?_set_ne (fun e => e2 e.symm)] at hk
        exact h.sep j k a ys b zs hjk hj hk
/-- A new row. -/
theorem Many.add {B : Nat} {w w' : World} {e : TypeId} {R : List (Value × List Value)} (h : Many B w e R) (hb : Below w.heap.size w w') {v : Value} {xs : List Value} (ho : Owns w' e v xs) (hn : ∀ g, v.ownBlock = some g → w.heap.size ≤ g) (hB : B ≤ w.heap.size) : Many B w' e (R ++ [(v, xs)]) := by
  have h' := h.later hb
  have last : ∀ (j : Nat) u ys, (R ++ [(v, xs)])[j]? = some (u, ys) → R[j]? = some (u, ys) ∨ (j = R.length ∧ u = v ∧ ys = xs) := fun j u ys hj => by
    rcases Nat.lt_trichotomy j R.length with h1 | h1 | h1
    · rw [List.getElem?_append_left h1] at hj; exact .inl hj
    · subst h1
      rw [List.getElem?_append_right (Nat.le_refl _)] at hj
      simp at hj; exact .inr ⟨rfl, hj.1.symm, hj.2.symm⟩
    · rw [List.getElem?_eq_none (by simp; omega)] at hj; cases hj
  have oth : ∀ (j : Nat) u ys, R[j]? = some (u, ys) → Dj u v := fun j u ys hj g hg hv => by
    have := (h.own j u ys hj).lt g hg; have := hn g hv; omega
  refine ⟨fun j u ys hj => ?_, fun j u ys hj b hb => ?_, fun j k a ys b zs hjk hj hk => ?_⟩
  · rcases last j u ys hj with h1 | ⟨_, rfl, rfl⟩
    · exact h'.own j u ys h1
    · exact ho
  · rcases last j u ys hj with h1 | ⟨_, rfl, rfl⟩
    · exact h'.new j u ys h1 b hb
    · have := hn b hb; omega
  · rcases last j a ys hj with h1 | ⟨rfl, rfl, rfl⟩
    · rcases last k b zs hk with h2 | ⟨rfl, rfl, rfl⟩
      · exact h'.sep j k a ys b zs hjk h1 h2
      · exact oth j a ys h1
    · rcases last k b zs hk with h2 | ⟨rfl, rfl, rfl⟩
      · exact (oth k b zs h2).symm
      · exact absurd rfl hjk
/-- A block of another type stays. -/
theorem Many.other {B : Nat} {w w' : World} {e t : TypeId} {R : List (Value × List Value)} (h : Many B w e R) (i : Nat) {v : Value} {xs : List Value} (hi : R[i]? = some (v, xs)) (hc : Chg (fun k => some k = v.ownBlock) w w') {p : Nat} {cs : Array Value} (hp : Blk w p cs t) (hne : e ≠ t) : Blk w' p cs t :=
  hc.keep hp fun hs => (h.own i v xs hi).ne hp hne hs.symm
/-- A block of another type is written. -/
theorem Many.setBlk {B : Nat} {w : World} {e t : TypeId} {R : List (Value × List Value)} (h : Many B w e R) {p : Nat} {cs : Array Value} (hp : Blk w p cs t) (hne : e ≠ t) (j : Nat) (u : Value) : Many B (w.setCell ⟨p, j, none⟩ u) e R :=
  h.chg (Chg.setCell w _ _) fun i v xs hi g hg hs => (h.own i v xs hi).ne hp hne (by rw [hg]; exact congrArg some hs)
theorem Many.below {B : Nat} {w w' : World} {e : TypeId} {R : List (Value × List Value)} (h : Many B w e R) (i : Nat) {v : Value} {xs : List Value} (hi : R[i]? = some (v, xs)) (hc : Chg (fun k => some k = v.ownBlock) w w') (hB : B ≤ w.heap.size) : Below B w w' :=
  hc.below hB fun k hk hs => by have := h.new i v xs hi k hs.symm; omega
/-- One cell of a row is written. -/
theorem Many.store {B : Nat} {w : World} {e : TypeId} {R : List (Value × List Value)} (h : Many B w e R) (i : Nat) {g n cap : Nat} {xs : List Value} (hi : R[i]? = some (.slice (some ⟨g, 0, none⟩) n cap, xs)) (j : Nat) (u : Value) (hB : B ≤ w.heap.size) :
    Many B (w.setCell ⟨g, j, none⟩ u) e (R.set i (.slice (some ⟨g, 0, none⟩) n cap, xs.set j u)) :=
  h.set i hi (by have := Chg.setCell w ⟨g, j, none⟩ u; exact this.mono fun k _ hk => by rw [hk]; rfl) ((h.own i _ _ hi).store j u) (fun b hb => .inl hb.symm) hB
end Go.Proofs.Ytbldocbijihpgaa.Own
namespace Go.Proofs.Ytbldocbijihpgaa
open Go.RowKit _root_.Go.Proofs.Ytbldocbijihpgaa.Own
theorem sliceI {w : World} {e : TypeId} {k : IntKind} {v : Value} {xs : List Int} (h : Owns w e v (ints k xs)) : ∃ a c, v = .slice a xs.length c := by
  obtain ⟨a, c, h, _⟩ := h.slice
  exact ⟨a, c, by rw [h, length_ints]⟩
theorem rowI {w : World} {e : TypeId} {k : IntKind} {v : Value} {xs : List Int} (h : Owns w e v (ints k xs)) (hx : xs ≠ []) : ∃ g c, v = .slice (some ⟨g, 0, none⟩) xs.length c ∧ xs.length ≤ c ∧ g < w.heap.size := by
  obtain ⟨g, c, h1, h2, h3⟩ := h.row (by intro e; exact hx (by have := congrArg List.length e; rw [length_ints] at this; exact List.length_eq_zero_iff.1 this))
  rw [length_ints] at h1 h2
  exact ⟨g, c, h1, h2, h3⟩
theorem ints_set (k : IntKind) (l : List Int) (i : Nat) (v : Int) : ints k (l.set i v) = (ints k l).set i (.int k v) := by simp [ints, List.map_set]
end Go.Proofs.Ytbldocbijihpgaa

-- ---- Nk
/- norm.Get: the numbers that stand at a place: what the call answers. Conditions: the text is not longer than a thousand million bytes. -/
namespace Go.Proofs.Ytbldocbijihpgaa.NormG
open Go.RowKit Go.Proofs.YtbldocbijihpgaaW.PrintWords Go.Proofs.YtbldocbijihpgaaW.PrintLast Go.Proofs.YtbldocbijihpgaaW.PrintMore
open Mix _root_.Go.Proofs.Ytbldocbijihpgaa.Own Vt Np PA
set_option linter.unusedVariables false
set_option linter.unusedSimpArgs false
attribute [local go_sem] Own.max_int Own.min_int

theorem infoIntG : (Try.prog.info? 3).map (fun i => (i.zero, i.size, i.bytes)) = some (some (.int .i64 0), 1, 8) := by kernel_rfl
theorem info_partsG {i : Option TypeInfo} {z : Value} {s b : Nat} (h : i.map (fun i => (i.zero, i.size, i.bytes)) = some (some z, s, b)) : ∃ i0, i = some i0 ∧ i0.zero = some z ∧ i0.size = s ∧ i0.bytes = b := by
  cases i with
  | none => simp at h
  | some i => simp at h; exact ⟨i, rfl, h.1, h.2.1, h.2.2⟩

/-- The middle result lies in a cell. -/
theorem results_tct {fn : Func} {t u v : Tmp} {ty : TypeId} (h : fn.results = #[.tmp t, .cell u ty, .tmp v]) (tmps : Array Value) (P : Program) (w : World) (a : Addr) (x : Value)
    (hp : tmps.getD u undef = .pointer (some a)) (hl : (loadVar ty a).run P w = .ok x w) :
    (results fn tmps).run P w = .ok (.tuple #[tmps.getD t undef, x, tmps.getD v undef]) w := by
  have hp' : tmps[u]?.getD undef = .pointer (some a) := by simpa using hp
  simp [results, h, hp', asAddr, hl, Sem.run_bind, Result.andThen]
theorem load_int (w : World) (a : Addr) (x : Value) (hc : w.cell? a = some x) : (loadVar 3 a).run Try.prog w = .ok x w := by
  go_simp

set_option maxHeartbeats 1000000 in
theorem nread_calls (bs bn : Nat) (s : ByteArray) (m : Nat) (w : World) (hs : s.size ≤ 1000000000) (hm : m ≤ s.size) (h0 : w.cell? ⟨bs, 0, none⟩ = some (.string s)) (h1 : Blk w bn #[.int .i64 (m : Int)] 3) (r : Nat × Nat × Nat) (hr : r = goV 10 true ((bsOf s).drop m)) (m2 : Nat) (hm2 : m2 = if r.2.2 = 0 then m + r.2.1 else m) :
    Calls Try.prog 30 #[.pointer (some ⟨bs, 0, none⟩), .pointer (some ⟨bn, 0, none⟩)] w fun e w' => e = .returned (.tuple #[.int .u64 (r.1 : Int), .int .i64 (r.2.2 : Int)]) ∧
      Blk w' bn #[.int .i64 (m2 : Int)] 3 ∧ Chg (fun k => k = bn) w w' := by
  have he := goV_err 10 true ((bsOf s).drop m)
  rw [← hr] at he
  have hv : vgetE s (m : Int) = resV m r := by rw [vgetE_res s m hm, hr]
  obtain ⟨q1, q2, q3⟩ := r
  simp only at hm2
  have hc := h1.cell (i := 0) rfl
  have H1 := kept h1
  by_cases h3 : q3 = 0
  · subst h3
    rw [if_pos rfl] at hm2
    have hm3 : (m : Int) + (q2 : Int) = (m2 : Int) := by omega
    have hv2 : vgetE s (m : Int) = ((q1 : Int), (m : Int) + (q2 : Int), 0) := by rw [hv]; unfold resV; rw [if_pos rfl]
    have HV := kept (VintH.get_calls s (m : Int) w (by omega) _ _ _ hv2)
    rw [hm3] at HV
    clear hr he hv hv2 h1 hm2 hm3
    go_enter Try.func30, Try.ntmps30
    go_wp2_with (first | (go_at_call 31; refine HV.out.mono ?_; rintro e w2 ⟨rfl, hb2⟩; have HB2 := kept hb2; have H12 : Kept (Blk w2 bn #[.int .i64 (m : Int)] 3) := kept ((HB2.out.block bn H1.out.lt).trans H1.out); have hf2 := H12.out.free 0; have hc2 := H12.out.cell (i := 0) rfl; clear hb2))
    go_ret2
    exact ⟨rfl, H12.out.set 0 _, (Chg.of_below HB2.out).trans (Chg.setCell w2 ⟨bn, 0, none⟩ _) (fun k _ h => h)⟩
  · have hq : q1 = 0 ∧ q2 = 0 := by
      rcases he with h | h | h
      · exact absurd h h3
      · simp only [Prod.mk.injEq] at h; exact ⟨h.1, h.2.1⟩
      · simp only [Prod.mk.injEq] at h; exact ⟨h.1, h.2.1⟩
    obtain ⟨rfl, rfl⟩ := hq
    rw [if_neg h3] at hm2
    rw [hm2]
    clear hm2
    have hv2 : vgetE s (m : Int) = (0, 0, (q3 : Int)) := by rw [hv]; unfold resV; rw [if_neg h3]
    have HV := kept (VintH.get_calls s (m : Int) w (by omega) _ _ _ hv2)
    have t3 : ((q3 : Int) == 0) = false := by rw [beq_eq_false_iff_ne]; omega
    have H3 := kept h3
    clear hr he hv hv2 h1 h3
    go_enter Try.func30, Try.ntmps30
    go_wp2_with (first | (go_at_call 31; refine HV.out.mono ?_; rintro e w2 ⟨rfl, hb2⟩; have HB2 := kept hb2; have H12 : Kept (Blk w2 bn #[.int .i64 (m : Int)] 3) := kept ((HB2.out.block bn H1.out.lt).trans H1.out); clear hb2))
    go_ret2
    exact ⟨rfl, H12.out, Chg.of_below HB2.out⟩

/-- On the way: the text's block, the place's, the numbers' row. -/
structure StN (B : Nat) (w wr : World) (bs bn : Nat) (s : ByteArray) (m : Nat) (v : Value) (acc : List Int) : Prop where
  str : Blk wr bs #[.string s] 9
  nxt : Blk wr bn #[.int .i64 (m : Int)] 3
  own : Owns wr 3 v (ints .i64 acc)
  sB : B ≤ bs
  nB : B ≤ bn
  ne : bs ≠ bn
  new : ∀ g, v.ownBlock = some g → B ≤ g ∧ g ≠ bn ∧ g ≠ bs
  low : Below B w wr
  sz : B ≤ wr.heap.size
theorem StN.got {B : Nat} {w wr w' : World} {bs bn : Nat} {s : ByteArray} {m m' : Nat} {v : Value} {acc : List Int} (hS : StN B w wr bs bn s m v acc) (h1 : Blk w' bn #[.int .i64 (m' : Int)] 3) (h3 : Chg (fun k => k = bn) wr w') : StN B w w' bs bn s m' v acc := by
  have hb : Below B wr w' := h3.below hS.sz fun k hk e => by have := hS.nB; omega
  exact ⟨h3.keep hS.str hS.ne, h1, hS.own.chg h3 fun g hg e => (hS.new g hg).2.1 e, hS.sB, hS.nB, hS.ne, hS.new, hS.low.trans hb, Nat.le_trans hS.sz hb.size⟩
theorem StN.app {B : Nat} {w wr w' : World} {bs bn : Nat} {s : ByteArray} {m : Nat} {v v' : Value} {acc acc' : List Int} (hS : StN B w wr bs bn s m v acc) (ho : Owns w' 3 v' (ints .i64 acc')) (hc : Chg (fun k => some k = v.ownBlock) wr w') (hn : ∀ g, v'.ownBlock = some g → some g = v.ownBlock ∨ wr.heap.size ≤ g) : StN B w w' bs bn s m v' acc' := by
  have hb : Below B wr w' := hc.below hS.sz fun k hk e => by have := (hS.new k e.symm).1; omega
  exact ⟨hc.keep hS.str fun e => (hS.new _ e.symm).2.2 rfl, hc.keep hS.nxt fun e => (hS.new _ e.symm).2.1 rfl, ho, hS.sB, hS.nB, hS.ne, fun g hg => by
    rcases hn g hg with h | h
    · exact hS.new g h.symm
    · have h1 := hS.sz; have h2 := hS.str.lt; have h3 := hS.nxt.lt; omega, hS.low.trans hb, Nat.le_trans hS.sz hb.size⟩

theorem two_new (s : ByteArray) (w : World) (x : Value) : ((w.alloc (.cells #[.string s] 9)).alloc (.cells #[x] 3)).cell? ⟨w.heap.size + 1, 0, none⟩ = some x ∧ Below w.heap.size w ((w.alloc (.cells #[.string s] 9)).alloc (.cells #[x] 3)) := by
  have hb : Blk ((w.alloc (.cells #[.string s] 9)).alloc (.cells #[x] 3)) (w.heap.size + 1) #[x] 3 := Blk.fresh_at _ _ (by simp) _ _
  exact ⟨hb.cell (i := 0) rfl, ((Below.refl _ _).alloc (Nat.le_refl _) _).alloc (by simp) _⟩
set_option maxHeartbeats 2000000 in
theorem nget_arg (s : ByteArray) (a lg : Int) (w : World) (hs : s.size ≤ 1000000000) (ha : a < 0 ∨ (s.size : Int) < a ∨ ¬ (7 ≤ lg ∧ lg ≤ 12)) :
    Calls Try.prog 16 #[.string s, .int .i64 a, .int .i64 lg] w fun e w' => e = .returned (.tuple #[.slice none 0 0, .int .i64 0, .int .i64 1]) ∧ Below w.heap.size w w' := by
  have HT := kept (two_new s w (.int .i64 0))
  by_cases h0 : a < 0
  · have t1 : decide (a < 0) = true := decide_eq_true h0
    clear ha
    go_enter Try.func16, Try.ntmps16
    go_wp2_with fail
    exact bodyPost_ret (results_tct rfl _ _ _ ⟨w.heap.size + 1, 0, none⟩ (.int .i64 0) rfl (load_int _ _ _ (HT.out.1))) rfl ⟨rfl, HT.out.2⟩
  · have t1 : decide (a < 0) = false := decide_eq_false h0
    by_cases h1 : (s.size : Int) < a
    · have t2 : decide ((s.size : Int) < a) = true := decide_eq_true h1
      clear ha
      go_enter Try.func16, Try.ntmps16
      go_wp2_with fail
      exact bodyPost_ret (results_tct rfl _ _ _ ⟨w.heap.size + 1, 0, none⟩ (.int .i64 0) rfl (load_int _ _ _ (HT.out.1))) rfl ⟨rfl, HT.out.2⟩
    · have t2 : decide ((s.size : Int) < a) = false := decide_eq_false h1
      have hlg : ¬ (7 ≤ lg ∧ lg ≤ 12) := by omega
      have hM := fun w1 => NormF.mayLog_calls lg w1
      rw [show (decide (7 ≤ lg) && decide (lg ≤ 12)) = false by rw [← Bool.decide_and]; exact decide_eq_false hlg] at hM
      have HM := kept hM
      clear ha hlg hM
      go_enter Try.func16, Try.ntmps16
      go_wp2_with (first | (go_at_call 23; refine (HM.out _).mono ?_; rintro e w1 ⟨rfl, rfl⟩))
      exact bodyPost_ret (results_tct rfl _ _ _ ⟨w.heap.size + 1, 0, none⟩ (.int .i64 0) rfl (load_int _ _ _ (HT.out.1))) rfl ⟨rfl, HT.out.2⟩
end Go.Proofs.Ytbldocbijihpgaa.NormG

-- ---- Nw
/- norm.Get where numbers may stand: what the call answers. Conditions: the text is not longer than a thousand million bytes. -/
namespace Go.Proofs.Ytbldocbijihpgaa.NormG
open Go.RowKit Go.Proofs.YtbldocbijihpgaaW.PrintWords Go.Proofs.YtbldocbijihpgaaW.PrintLast Go.Proofs.YtbldocbijihpgaaW.PrintMore
open Mix _root_.Go.Proofs.Ytbldocbijihpgaa.Own Vt Np PA
set_option linter.unusedVariables false
set_option linter.unusedSimpArgs false
attribute [local go_sem] Own.max_int Own.min_int

def sLenN : Value → Nat
  | .slice _ n _ => n
  | _ => 0
/-- One round of what stands there. -/
theorem parN_round (bs : List Nat) (f k : Nat) (acc : List Int) (h : acc.length < 65) (r : Nat × Nat × Nat) (hr : r = goV 10 true (bs.drop k)) : parN bs (f + 1) k acc =
    if r.2.2 ≠ 0 then ([], 0, r.2.2) else if 0 < r.1 then parN bs f (k + r.2.1) (acc ++ [(r.1 : Int)])
    else if (goV 10 true (bs.drop (k + r.2.1))).2.2 ≠ 0 then ([], 0, (goV 10 true (bs.drop (k + r.2.1))).2.2)
    else if 65 < acc.length + (goV 10 true (bs.drop (k + r.2.1))).1 + 1 then ([], 0, 3)
    else parN bs f (k + r.2.1 + (goV 10 true (bs.drop (k + r.2.1))).2.1) (acc ++ List.replicate ((goV 10 true (bs.drop (k + r.2.1))).1 + 1) 0) := by
  subst hr
  rw [parN, if_neg (by omega)]
theorem parN_end (bs : List Nat) (f k : Nat) (acc : List Int) (h : 65 ≤ acc.length) : parN bs (f + 1) k acc = (acc, k, 0) := by rw [parN, if_pos h]
theorem fin_err (s : ByteArray) (m : Nat) (a : Int) (e : Nat) (h : e ≠ 0) : finN s m a ([], 0, e) = ([], 0, (e : Int)) := by unfold finN; rw [if_pos h]
theorem getNE_fin (s : ByteArray) (m lg : Nat) (hm : m ≤ s.size) (h7 : 7 ≤ lg) (h12 : lg ≤ 12) : getNE s (m : Int) (lg : Int) = finN s m (lg : Int) (parN (bsOf s) 66 m []) := by
  unfold getNE; rw [if_neg (by omega), Int.toNat_natCast]

set_option maxRecDepth 20000 in
set_option maxHeartbeats 4000000 in
theorem nget_calls (s : ByteArray) (m lg : Nat) (w : World) (hs : s.size ≤ 1000000000) (hm : m ≤ s.size) (h7 : 7 ≤ lg) (h12 : lg ≤ 12) (R : List Int × Int × Int) (hR : R = getNE s (m : Int) (lg : Int)) :
    Calls Try.prog 16 #[.string s, .int .i64 (m : Int), .int .i64 (lg : Int)] w fun e w' => ∃ v, e = .returned (.tuple #[v, .int .i64 R.2.1, .int .i64 R.2.2]) ∧ Owns w' 3 v (ints .i64 R.1) ∧ (∀ g, v.ownBlock = some g → w.heap.size ≤ g) ∧ Below w.heap.size w w' := by
  obtain ⟨i0, hi, hz0, hz1, hz2⟩ := info_partsG infoIntG
  rw [getNE_fin s m lg hm h7 h12] at hR
  obtain ⟨B, hB⟩ : ∃ B, B = w.heap.size := ⟨_, rfl⟩
  have t1 : decide ((m : Int) < 0) = false := decide_eq_false (by omega)
  have t2 : decide (s.size < m) = false := decide_eq_false (by omega)
  have hM := fun w1 => NormF.mayLog_calls (lg : Int) w1
  rw [show (decide (7 ≤ (lg : Int)) && decide ((lg : Int) ≤ 12)) = true by rw [decide_eq_true (show 7 ≤ (lg : Int) by omega), decide_eq_true (show (lg : Int) ≤ 12 by omega)]; rfl] at hM
  have HM := kept hM
  have HB := kept hB
  have HR := kept hR
  have hmn0 : Own.mn 0 4097 = 0 := by rw [Own.mn_eq]; omega
  rw [← hB]
  clear hB hR hM
  go_enter Try.func16, Try.ntmps16
  go_upto_region 3 with (first | (go_at_call 23; refine (HM.out _).mono ?_; rintro e w1 ⟨rfl, rfl⟩))
  generalize hwa : World.alloc (World.alloc w _) _ = wa
  obtain ⟨bs, hbs⟩ : ∃ bs, bs = w.heap.size := ⟨_, rfl⟩
  obtain ⟨bn, hbn⟩ : ∃ bn, bn = w.heap.size + 1 := ⟨_, rfl⟩
  have hba : Below w.heap.size w wa := by rw [← hwa]; exact (two_new s w (.int .i64 0)).2
  have hB1 : Blk wa bs #[.string s] 9 := by
    rw [← hwa, hbs]
    exact (((Below.refl _ _).alloc (Nat.le_refl _) _).block _ (by simp)).trans (Blk.fresh _ _ _)
  have hB2 : Blk wa bn #[.int .i64 0] 3 := by
    rw [← hwa, hbn]
    exact Blk.fresh_at _ _ (by simp) _ _
  rw [← hbn, ← hbs]
  have hSb : B ≤ bs := by rw [HB.out, hbs]; exact Nat.le_refl _
  have hSn : B ≤ bn := by rw [HB.out, hbn]; omega
  have hne : bs ≠ bn := by omega
  have hf0 := hB2.free 0
  have hc0 := hB2.cell (i := 0) rfl
  have HS0 : Kept (StN B w (wa.setCell ⟨bn, 0, none⟩ (.int .i64 (m : Int))) bs bn s m (.slice none 0 0) (capL 4097 [])) := kept (by
    have hc := Chg.setCell wa ⟨bn, 0, none⟩ (.int .i64 (m : Int))
    have hbw := hba.setCell (p := ⟨bn, 0, none⟩) (by show w.heap.size ≤ bn; omega) (.int .i64 (m : Int))
    exact ⟨hc.keep hB1 hne, hB2.set 0 _, Owns.nil _ _, hSb, hSn, hne, fun g hg => by simp [Value.ownBlock] at hg, by rw [HB.out]; exact hbw, by rw [HB.out]; exact hbw.size⟩)
  clear hwa hba hB1 hB2 hbs hbn hSb hSn hne t1 t2
  go_wp2_with fail
  go_loopw [6] (fun s6 wr => ∃ (v : Value) (acc : List Int) (k f : Nat), s6 = v ∧ StN B w wr bs bn s k v (capL 4097 acc) ∧ parN (bsOf s) 66 m [] = parN (bsOf s) f k acc ∧ 66 ≤ f + acc.length ∧ 1 ≤ f ∧ acc.length ≤ 65 ∧ k ≤ s.size ∧ m ≤ k ∧ (∀ x ∈ acc, 0 ≤ x)) (fun s6 _ => 65 - sLenN s6)
  case atStart => exact ⟨_, [], m, 66, rfl, HS0.out, rfl, by simp, by omega, by simp, hm, Nat.le_refl _, fun x hx => by cases hx⟩
  case round =>
    obtain ⟨v, acc, k, f, rfl, hst, hpa, hf, hf1, hal, hks, hmk, hnn⟩ := hrel
    obtain ⟨av, cv, hv⟩ := sliceI hst.own
    subst hv
    rw [capL_length] at hst ⊢
    obtain ⟨wq, rfl⟩ : ∃ wq, wq = wr := ⟨wr, rfl⟩
    obtain ⟨f, rfl⟩ : ∃ f', f = f' + 1 := ⟨f - 1, by omega⟩
    have HNn := kept hnn
    clear hnn HS0
    by_cases h65 : acc.length < 65
    · obtain ⟨r, hr⟩ : ∃ r, r = goV 10 true ((bsOf s).drop k) := ⟨_, rfl⟩
      have hpe := parN_round (bsOf s) f k acc h65 r hr
      have herr := goV_err 10 true ((bsOf s).drop k)
      have hsz := goV_size 10 true ((bsOf s).drop k)
      have hbd := goV_bound 9 true ((bsOf s).drop k)
      rw [← hr] at herr hsz hbd
      rw [List.length_drop, length_bsOf] at hsz
      obtain ⟨k2, hk2⟩ : ∃ k2, k2 = if r.2.2 = 0 then k + r.2.1 else k := ⟨_, rfl⟩
      have HRead := kept (nread_calls bs bn s k wq hs hks (hst.str.cell (i := 0) rfl) hst.nxt r hr k2 hk2)
      have HSt := kept hst
      obtain ⟨q1, q2, q3⟩ := r
      simp only at hpe herr hsz hbd hk2 HRead
      by_cases h3 : q3 = 0
      · subst h3
        obtain ⟨hq21, hq22, hq23⟩ := hsz rfl
        rw [if_neg (by simp)] at hpe
        rw [if_pos rfl] at hk2
        have h128 : 2 * 128 ^ 9 = 18446744073709551616 := by decide
        have hq64 : q1 < 18446744073709551616 := by omega
        clear hr herr hst
        by_cases hq0 : 0 < q1
        · rw [if_pos hq0] at hpe
          obtain ⟨c, hc⟩ : ∃ c : Nat, c = min q1 4097 := ⟨_, rfl⟩
          have hmn : Own.mn (q1 : Int) 4097 = (c : Int) := by rw [Own.mn_eq]; omega
          have hc4 : c ≤ 4097 := by omega
          have hcap : ∀ l : List Int, capL 4097 (l ++ [(q1 : Int)]) = capL 4097 l ++ [(c : Int)] := fun l => by rw [capL_snoc]; congr 2; omega
          have HCap := kept hcap
          have HPa : Kept (parN (bsOf s) 66 m [] = parN (bsOf s) f k2 (acc ++ [(q1 : Int)])) := kept (by rw [hpa, hpe, hk2])
          have hk2s : k2 ≤ s.size := by omega
          have tn : ((q1 : Int) == 0) = false := by rw [beq_eq_false_iff_ne]; omega
          have tq : decide ((65 : Int) - (acc.length : Int) ≤ 0) = false := decide_eq_false (by omega)
          have HK2 := kept hk2
          clear hpe hpa hcap hc hk2 hbd hsz
          go_wp2_with fail
          refine HRead.out.mono ?_
          rintro e w2 ⟨rfl, hR2, hc2⟩
          have HS2 := kept (HSt.out.got hR2 hc2)
          clear hR2 hc2
          go_wp2_with fail
          go_loopw [6, 57] (fun s6 s57 wx => ∃ (vj : Value) (j : Nat), s6 = vj ∧ s57 = .int .u64 (j : Int) ∧ j ≤ 0 + 1 ∧ StN B w wx bs bn s k2 vj (capL 4097 acc ++ List.replicate j (c : Int))) (fun _ s57 _ => 0 + 1 - (intOf s57).toNat)
          case atStart => exact ⟨_, 0, rfl, rfl, by omega, by simpa using HS2.out⟩
          case round =>
            obtain ⟨_, j, rfl, rfl, hj, hst⟩ := hrel
            obtain ⟨aj, cj, hvj⟩ := sliceI hst.own
            subst hvj
            have hlv : (capL 4097 acc ++ List.replicate j (c : Int)).length = acc.length + j := by simp [capL_length]
            rw [hlv] at hst ⊢
            by_cases hjq : j < 0 + 1
            · have HSj := kept hst
              have HLj := kept (show acc.length + j ≤ 200 by omega)
              have HLv := kept hlv
              clear hst hlv
              go_wp2_with (first | (at_builtin; go_loud (refine wpList_app1 rfl _ _ 24 rfl 3 i0 (.int .i64 0) 8 Try.underlying24 hi hz0 hz1 hz2 rfl (.slice aj (acc.length + j) cj) _ (.int .i64 (c : Int)) rfl HSj.out.own rfl rfl ?_ ?_ ?_)))
              · have := HLj.out; rw [length_ints, HLv.out]; simp only [maxLen]; omega
              · have := HLj.out; rw [length_ints, HLv.out]; omega
              intro v5 w5 O5 C5 F5
              have e5 : ints .i64 (capL 4097 acc ++ List.replicate j (c : Int)) ++ [.int .i64 (c : Int)] = ints .i64 (capL 4097 acc ++ List.replicate (j + 1) (c : Int)) := by simp [ints, List.replicate_succ', ← List.append_assoc]
              rw [e5] at O5
              have HS5 := kept (HSj.out.app O5 C5 F5)
              clear O5 C5 F5 e5
              go_wp2_with fail
              go_roundw
              case rel => exact ⟨v5, j + 1, rfl, by go_num, by omega, HS5.out⟩
              case measure => simp [intOf]; omega
            · have hje : j = 0 + 1 := by omega
              subst hje
              have HSj := kept hst
              clear hst hjq hlv
              go_wp2_with fail
              go_roundw
              case rel => exact ⟨_, acc ++ [(q1 : Int)], k2, f, rfl, by rw [HCap.out]; exact HSj.out, HPa.out, by simp; omega, by omega, by simp; omega, hk2s, by have := HK2.out; omega, fun x hx => by
                  rcases List.mem_append.1 hx with hx | hx
                  · exact HNn.out x hx
                  · simp at hx; omega⟩
              case measure => simp [sLenN]; omega
        · have hnz : q1 = 0 := by omega
          subst hnz
          rw [if_neg hq0, ← hk2] at hpe
          have hk2s : k2 ≤ s.size := by omega
          have hmk2 : m ≤ k2 := by omega
          have HPe := kept hpe
          have HPa0 := kept hpa
          clear hpe hpa hk2 hbd hsz hq0
          go_wp2_with fail
          refine HRead.out.mono ?_
          rintro e w2 ⟨rfl, hR2, hc2⟩
          have HS2 := kept (HSt.out.got hR2 hc2)
          clear hR2 hc2
          obtain ⟨r, hr⟩ : ∃ r, r = goV 10 true ((bsOf s).drop k2) := ⟨_, rfl⟩
          have herr := goV_err 10 true ((bsOf s).drop k2)
          have hsz := goV_size 10 true ((bsOf s).drop k2)
          have hbd := goV_bound 9 true ((bsOf s).drop k2)
          rw [← hr] at herr hsz hbd
          rw [List.length_drop, length_bsOf] at hsz
          obtain ⟨k3, hk3⟩ : ∃ k3, k3 = if r.2.2 = 0 then k2 + r.2.1 else k2 := ⟨_, rfl⟩
          have HRead2 := kept (nread_calls bs bn s k2 w2 hs hk2s (HS2.out.str.cell (i := 0) rfl) HS2.out.nxt r hr k3 hk3)
          have hpe := HPe.out
          have hpa := HPa0.out
          rw [← hr] at hpe
          obtain ⟨p1, p2, p3⟩ := r
          simp only at hpe herr hsz hbd hk3 HRead2
          by_cases h3b : p3 = 0
          · subst h3b
            obtain ⟨hp21, hp22, hp23⟩ := hsz rfl
            rw [if_neg (by simp)] at hpe
            rw [if_pos rfl] at hk3
            have hp64 : p1 < 18446744073709551616 := by omega
            rw [← hk3] at hpe
            have hk3s : k3 ≤ s.size := by omega
            have hmk3 : m ≤ k3 := by omega
            clear hr herr hbd hsz hk3
            by_cases hbig : 65 < acc.length + p1 + 1
            · rw [if_pos hbig] at hpe
              have HE : Kept (R = ([], 0, 3)) := kept (by rw [HR.out, hpa, hpe, fin_err _ _ _ _ (by decide)]; rfl)
              have tq : decide ((65 : Int) - (acc.length : Int) ≤ (p1 : Int)) = true := decide_eq_true (by omega)
              clear hpe hpa
              go_wp2_with fail
              refine HRead2.out.mono ?_
              rintro e w3 ⟨rfl, hR3, hc3⟩
              have HS3 := kept (HS2.out.got hR3 hc3)
              have hf3 := HS3.out.nxt.free 0
              have hcc3 := HS3.out.nxt.cell (i := 0) rfl
              clear hR3 hc3
              go_wp2_with fail
              exact bodyPost_ret (results_tct rfl _ _ _ ⟨bn, 0, none⟩ (.int .i64 0) rfl (load_int _ _ _ ((HS3.out.nxt.set 0 _).cell (i := 0) rfl))) rfl ⟨.slice none 0 0, by rw [HE.out]; rfl, by rw [HE.out]; exact Owns.nil _ _, fun g hg => by simp [Value.ownBlock] at hg, HS3.out.low.setCell (p := ⟨bn, 0, none⟩) HS3.out.nB _⟩
            · rw [if_neg hbig] at hpe
              have HPa : Kept (parN (bsOf s) 66 m [] = parN (bsOf s) f k3 (acc ++ List.replicate (p1 + 1) 0)) := kept (by rw [hpa, hpe])
              have HCap : Kept (capL 4097 (acc ++ List.replicate (p1 + 1) 0) = capL 4097 acc ++ List.replicate (p1 + 1) 0) := kept (capL_zeros _ _ _ (by omega))
              have tq : decide ((65 : Int) - (acc.length : Int) ≤ (p1 : Int)) = false := decide_eq_false (by omega)
              have hp65 : p1 < 65 := by omega
              clear hpe hpa
              go_wp2_with fail
              refine HRead2.out.mono ?_
              rintro e w3 ⟨rfl, hR3, hc3⟩
              have HS3 := kept (HS2.out.got hR3 hc3)
              clear hR3 hc3
              go_wp2_with fail
              go_loopw [6, 57] (fun s6 s57 wx => ∃ (vj : Value) (j : Nat), s6 = vj ∧ s57 = .int .u64 (j : Int) ∧ j ≤ p1 + 1 ∧ StN B w wx bs bn s k3 vj (capL 4097 acc ++ List.replicate j 0)) (fun _ s57 _ => p1 + 1 - (intOf s57).toNat)
              case atStart => exact ⟨_, 0, rfl, rfl, by omega, by simpa using HS3.out⟩
              case round =>
                obtain ⟨_, j, rfl, rfl, hj, hst⟩ := hrel
                obtain ⟨aj, cj, hvj⟩ := sliceI hst.own
                subst hvj
                have hlv : (capL 4097 acc ++ List.replicate j (0 : Int)).length = acc.length + j := by simp [capL_length]
                rw [hlv] at hst ⊢
                by_cases hjq : j < p1 + 1
                · have HSj := kept hst
                  have HLj := kept (show acc.length + j ≤ 200 by omega)
                  have HLv := kept hlv
                  clear hst hlv
                  go_wp2_with (first | (at_builtin; go_loud (refine wpList_app1 rfl _ _ 24 rfl 3 i0 (.int .i64 0) 8 Try.underlying24 hi hz0 hz1 hz2 rfl (.slice aj (acc.length + j) cj) _ (.int .i64 0) rfl HSj.out.own rfl rfl ?_ ?_ ?_)))
                  · have := HLj.out; rw [length_ints, HLv.out]; simp only [maxLen]; omega
                  · have := HLj.out; rw [length_ints, HLv.out]; omega
                  intro v5 w5 O5 C5 F5
                  have e5 : ints .i64 (capL 4097 acc ++ List.replicate j 0) ++ [.int .i64 0] = ints .i64 (capL 4097 acc ++ List.replicate (j + 1) 0) := by simp [ints, List.replicate_succ', ← List.append_assoc]
                  rw [e5] at O5
                  have HS5 := kept (HSj.out.app O5 C5 F5)
                  clear O5 C5 F5 e5
                  go_wp2_with fail
                  go_roundw
                  case rel => exact ⟨v5, j + 1, rfl, by go_num, by omega, HS5.out⟩
                  case measure => simp [intOf]; omega
                · have hje : j = p1 + 1 := by omega
                  subst hje
                  have HSj := kept hst
                  clear hst hjq hlv
                  go_wp2_with fail
                  go_roundw
                  case rel => exact ⟨_, acc ++ List.replicate (p1 + 1) 0, k3, f, rfl, by rw [HCap.out]; exact HSj.out, HPa.out, by simp; omega, by omega, by simp; omega, hk3s, hmk3, fun x hx => by
                      rcases List.mem_append.1 hx with hx | hx
                      · exact HNn.out x hx
                      · have := (List.mem_replicate.1 hx).2; omega⟩
                  case measure => simp [sLenN]; omega
          · rw [if_pos (by simpa using h3b)] at hpe
            have HE : Kept (R = ([], 0, (p3 : Int))) := kept (by rw [HR.out, hpa, hpe, fin_err _ _ _ _ h3b])
            have t3 : ((p3 : Int) != 0) = true := by rw [bne_iff_ne]; omega
            clear hr herr hbd hsz hk3 hpe hpa h3b
            go_wp2_with fail
            refine HRead2.out.mono ?_
            rintro e w3 ⟨rfl, hR3, hc3⟩
            have HS3 := kept (HS2.out.got hR3 hc3)
            have hf3 := HS3.out.nxt.free 0
            have hcc3 := HS3.out.nxt.cell (i := 0) rfl
            clear hR3 hc3
            go_wp2_with fail
            exact bodyPost_ret (results_tct rfl _ _ _ ⟨bn, 0, none⟩ (.int .i64 0) rfl (load_int _ _ _ ((HS3.out.nxt.set 0 _).cell (i := 0) rfl))) rfl ⟨.slice none 0 0, by rw [HE.out]; rfl, by rw [HE.out]; exact Owns.nil _ _, fun g hg => by simp [Value.ownBlock] at hg, HS3.out.low.setCell (p := ⟨bn, 0, none⟩) HS3.out.nB _⟩
      · rw [if_pos (by simpa using h3)] at hpe
        have HE : Kept (R = ([], 0, (q3 : Int))) := kept (by rw [HR.out, hpa, hpe, fin_err _ _ _ _ h3])
        have t3 : ((q3 : Int) != 0) = true := by rw [bne_iff_ne]; omega
        clear hr herr hbd hsz hk2 hpe hpa h3 hst
        go_wp2_with fail
        refine HRead.out.mono ?_
        rintro e w3 ⟨rfl, hR3, hc3⟩
        have HS3 := kept (HSt.out.got hR3 hc3)
        have hf3 := HS3.out.nxt.free 0
        have hcc3 := HS3.out.nxt.cell (i := 0) rfl
        clear hR3 hc3
        go_wp2_with fail
        exact bodyPost_ret (results_tct rfl _ _ _ ⟨bn, 0, none⟩ (.int .i64 0) rfl (load_int _ _ _ ((HS3.out.nxt.set 0 _).cell (i := 0) rfl))) rfl ⟨.slice none 0 0, by rw [HE.out]; rfl, by rw [HE.out]; exact Owns.nil _ _, fun g hg => by simp [Value.ownBlock] at hg, HS3.out.low.setCell (p := ⟨bn, 0, none⟩) HS3.out.nB _⟩
    · have hacc65 : acc.length = 65 := by omega
      have hpe := parN_end (bsOf s) f k acc (by omega)
      have HE : Kept (R = finN s m (lg : Int) (acc, k, 0)) := kept (by rw [HR.out, hpa, hpe])
      have hcv : acc.length ≤ cv := by
        obtain ⟨a2, c2, hv2, h1, h2, _⟩ := hst.own.rd
        simp only [Value.slice.injEq, length_ints, capL_length] at hv2 h1
        obtain ⟨_, _, rfl⟩ := hv2; exact h1
      have hcl := capL_length 4097 acc
      have hCn : ∀ n : Lat wq, Kd.C (Kd.int .i64) n.w av acc.length (capL 4097 acc) := fun n => C_of_rd (hst.own.rd.later n.below)
      obtain ⟨km, hkm⟩ := (may_is (capL 4097 acc) (lg : Int)).rounds
      rw [capL_may 4097 acc (lg : Int) (by omega)] at hkm
      have hMay : ∀ n : Lat wq, Calls Try.prog 15 #[.slice av acc.length cv, .int .i64 (lg : Int)] n.w fun e w' => e = .returned (.bool (Sp.mayN acc (lg : Int))) ∧ Below n.w.heap.size n.w w' := fun n => by
        have h := norm_May.calls km av cv (capL 4097 acc) (lg : Int) _ n.w (by rw [hcl]; exact hCn n) (by rw [hcl]; exact hcv) hkm
        rw [hcl] at h
        exact h.mono fun e w' ⟨he, hd⟩ => ⟨he, hd.below⟩
      have HMay := kept hMay
      have HSt := kept hst
      have HCn := kept hCn
      have HCv := kept hcv
      have hs0 := hst.str.cell (i := 0) rfl
      have hn0 := hst.nxt.cell (i := 0) rfl
      have q0 := lat_cell hs0
      have q1 := lat_cell hn0
      have hmk1 : (m : Int) ≤ (k : Int) := by omega
      have hks1 : (k : Int) ≤ (s.size : Int) := by omega
      rw [hacc65] at HMay HSt HCn HCv ⊢
      clear hpe hpa hst hkm hMay hCn hcv hs0 hn0
      go_upto_region 20 with fail
      cases hml : Sp.mayN acc (lg : Int) with
      | false =>
        rw [hml] at HMay
        have HE2 : Kept (R = ([], 0, 3)) := kept (by rw [HE.out]; unfold finN; rw [if_neg (by simp), if_neg (by rw [hml]; simp)])
        clear hml HE
        refine wp_region_quietL (by kernel_rfl) (by kernel_rfl) ?_
        repeat (go_big_quiet_step (first | (go_at_call 15; exact lat_call (HMay.out _))))
        refine wpQuiet_nil ?_
        intro nq
        have hS3 : Blk nq.w bn #[.int .i64 (k : Int)] 3 := (nq.below.block bn HSt.out.nxt.lt).trans HSt.out.nxt
        have HS3 := kept hS3
        have hf3 := hS3.free 0
        have hcc3 := hS3.cell (i := 0) rfl
        have HBq := kept (HSt.out.low.trans (nq.below.mono HSt.out.sz))
        clear hS3
        go_wp2_with fail
        exact bodyPost_ret (results_tct rfl _ _ _ ⟨bn, 0, none⟩ (.int .i64 0) rfl (load_int _ _ _ ((HS3.out.set 0 _).cell (i := 0) rfl))) rfl ⟨.slice none 0 0, by rw [HE2.out]; rfl, by rw [HE2.out]; exact Owns.nil _ _, fun g hg => by simp [Value.ownBlock] at hg, HBq.out.setCell (p := ⟨bn, 0, none⟩) HSt.out.nB _⟩
      | true =>
        rw [hml] at HMay
        have hid := capL_of_may 4097 acc (lg : Int) (by omega) hml
        have hrange : ∀ x ∈ acc, 0 ≤ x ∧ x < 9223372036854775808 := fun x hx => by
          rw [← hid] at hx
          obtain ⟨y, hy, rfl⟩ := List.mem_map.1 hx
          have := HNn.out y hy
          omega
        rw [hid] at HCn HSt
        obtain ⟨T, hT⟩ : ∃ T, T = txt (nputL acc) := ⟨_, rfl⟩
        have hPut : ∀ n : Lat wq, Calls Try.prog 19 #[.slice av 65 cv] n.w fun e w' => e = .returned (.string T) ∧ Below n.w.heap.size n.w w' := fun n => by
          have h := NormP.nput_calls av cv acc n.w (by rw [hacc65]; exact HCn.out n) (by rw [hacc65]; exact HCv.out) hrange (by omega)
          rw [hacc65, ← hT] at h; exact h
        have HPut := kept hPut
        have HML := kept hml
        have HT := kept hT
        clear hml hT hPut hrange hid
        refine wp_region_quietL (by kernel_rfl) (by kernel_rfl) ?_
        repeat (go_big_quiet_step (first | (go_at_call 15; exact lat_call (HMay.out _)) | (go_at_call 19; exact lat_call (HPut.out _))))
        refine wpQuiet_nil ?_
        intro nq
        have hq : T.toList = (s.extract m k).toList ↔ nputL acc = ((bsOf s).take k).drop m := by
          rw [toList_injV, HT.out]
          constructor
          · intro h
            have := congrArg bsOf h
            rwa [bsOf_txt _ (nputL_byte acc), bsOf_extract] at this
          · intro h
            apply bsOf_inj
            rw [bsOf_txt _ (nputL_byte acc), bsOf_extract, h]
        have hS3 : Blk nq.w bn #[.int .i64 (k : Int)] 3 := (nq.below.block bn HSt.out.nxt.lt).trans HSt.out.nxt
        have HS3 := kept hS3
        have HBq := kept (HSt.out.low.trans (nq.below.mono HSt.out.sz))
        by_cases heq : T.toList = (s.extract m k).toList
        · have te : (T.toList == (s.extract m k).toList) = true := by rw [beq_iff_eq]; exact heq
          have HE2 : Kept (R = (acc, (k : Int), 0)) := kept (by rw [HE.out]; unfold finN; rw [if_neg (by simp), if_pos ⟨HML.out, hq.1 heq⟩])
          have HTe := kept te
          have hl := HSt.out.own.keep (w' := nq.w) fun g _ hg => nq.below.block g hg
          have HL := kept hl
          clear heq te hq hS3 hl
          rw [HTe.out]
          go_wp2_with fail
          have g2 : nq.w.cell? ⟨bn, 0, none⟩ = some (.int .i64 (k : Int)) := HS3.out.cell (i := 0) rfl
          have g3 : nq.w.drew.cell? ⟨bn, 0, none⟩ = some (.int .i64 (k : Int)) := g2
          have q2 := lat_cell g2
          have q3 := lat_cell g3
          refine wp_region_mixL [] [0,1,2] [3,4] (by kernel_rfl) (by kernel_rfl) ?_
          intro K2 hK2
          simp only [pick, List.filterMap_cons, List.filterMap_nil, List.getElem?_cons_zero, List.getElem?_cons_succ]
          refine wpQuiet_nil ?_
          repeat (show wpQuiet _ _ _ _ (_ :: _) _; go_big_quiet_step (fail))
          refine wpQuiet_nil ?_
          show wpList _ _ _ [_, _] _ _
          have hS4 : Blk nq.w.drew bn #[.int .i64 (k : Int)] 3 := HS3.out
          have HL4 : Kept (Owns nq.w.drew 3 (.slice av 65 cv) (ints .i64 acc)) := kept HL.out
          have HB4 : Kept (Below B w nq.w.drew) := kept HBq.out.drew
          clear g2 g3 q2 q3
          generalize World.drew nq.w = wd at hS4 HL4 HB4 ⊢
          have HS4 := kept hS4
          have hf4 := hS4.free 0
          have hc4 := hS4.cell (i := 0) rfl
          clear hS4
          go_wp2_with fail
          refine hK2 _ _ ?_
          go_wp2_with fail
          have hcs := Chg.setCell wd ⟨bn, 0, none⟩ (.int .i64 (k : Int))
          exact bodyPost_ret (results_tct rfl _ _ _ ⟨bn, 0, none⟩ (.int .i64 (k : Int)) rfl (load_int _ _ _ ((HS4.out.set 0 _).cell (i := 0) rfl))) rfl ⟨_, by rw [HE2.out]; rfl, by rw [HE2.out]; exact HL4.out.chg hcs (fun g hg e => (HSt.out.new g hg).2.1 e), fun g hg => by exact (HSt.out.new g hg).1, HB4.out.setCell (p := ⟨bn, 0, none⟩) HSt.out.nB _⟩
        · have te : (T.toList == (s.extract m k).toList) = false := by rw [beq_eq_false_iff_ne]; exact heq
          have HE2 : Kept (R = ([], 0, 3)) := kept (by rw [HE.out]; unfold finN; rw [if_neg (by simp), if_neg (fun h => heq (hq.2 h.2))])
          have HTe := kept te
          have hf3 := hS3.free 0
          have hcc3 := hS3.cell (i := 0) rfl
          clear heq te hq hS3
          rw [HTe.out]
          go_wp2_with fail
          exact bodyPost_ret (results_tct rfl _ _ _ ⟨bn, 0, none⟩ (.int .i64 0) rfl (load_int _ _ _ ((HS3.out.set 0 _).cell (i := 0) rfl))) rfl ⟨.slice none 0 0, by rw [HE2.out]; rfl, by rw [HE2.out]; exact Owns.nil _ _, fun g hg => by simp [Value.ownBlock] at hg, HBq.out.setCell (p := ⟨bn, 0, none⟩) HSt.out.nB _⟩
end Go.Proofs.Ytbldocbijihpgaa.NormG

-- ---- PAx28
/- norm.Get: what the call answers, for every text, place and log. Conditions: the text is not longer than a thousand million bytes. -/
namespace Go.Proofs.Ytbldocbijihpgaa.PA
open Go.RowKit Go.Proofs.YtbldocbijihpgaaW.PrintWords Go.Proofs.YtbldocbijihpgaaW.PrintLast Go.Proofs.YtbldocbijihpgaaW.PrintMore
set_option linter.unusedVariables false
set_option linter.unusedSimpArgs false

def norm_Get.f (a0 : ByteArray) (a1 : Int) (a2 : Int) : Option (List Int × Int × Int) := if a0.size ≤ 1000000000 then some (Np.getNE a0 a1 a2) else none
theorem norm_Get.calls (a0 : ByteArray) (a1 : Int) (a2 : Int) (r1 : List Int) (r2 : Int) (r3 : Int) (w : World) (h : norm_Get.f a0 a1 a2 = some (r1, r2, r3)) :
    Calls Try.prog 16 #[.string a0, .int .i64 a1, .int .i64 a2] w fun e w' => ∃ v0_ : Value, e = .returned (.tuple #[v0_, .int .i64 r2, .int .i64 r3]) ∧ Kd.R (Kd.int .i64) 3 w' w.heap.size (fun _ => True) v0_ r1 ∧ Below w.heap.size w w' := by
  unfold norm_Get.f at h
  split at h
  · rename_i hs
    have h := Option.some.inj h
    by_cases ha : a1 < 0 ∨ (a0.size : Int) < a1 ∨ ¬ (7 ≤ a2 ∧ a2 ≤ 12)
    · have e : Np.getNE a0 a1 a2 = ([], 0, 1) := by unfold Np.getNE; rw [if_pos ha]
      rw [e] at h
      cases h
      refine (NormG.nget_arg a0 a1 a2 w hs ha).mono ?_
      rintro e w' ⟨rfl, hb⟩
      exact ⟨_, rfl, Kd.R_nil _ _ _ _ _, hb⟩
    · obtain ⟨m, rfl⟩ := Int.eq_ofNat_of_zero_le (show 0 ≤ a1 by omega)
      obtain ⟨lg, rfl⟩ := Int.eq_ofNat_of_zero_le (show 0 ≤ a2 by omega)
      refine (NormG.nget_calls a0 m lg w hs (by omega) (by omega) (by omega) (r1, r2, r3) h.symm).mono ?_
      rintro e w' ⟨v, rfl, ho, hnew, hb⟩
      exact ⟨v, rfl, Own.R_of_owns ho hnew, hb⟩
  · cases h
end Go.Proofs.Ytbldocbijihpgaa.PA

-- ---- NormRefuses
/- NormRefuses: what may not be asked is told so: what the call answers for every input. Conditions: the numbers are of their kinds. -/
namespace Go.Proofs.Ytbldocbijihpgaa
set_option linter.unusedSimpArgs false
set_option linter.unusedVariables false
open Go.RowKit Mix _root_.Go.Proofs.Ytbldocbijihpgaa.Own PA Nl Sp Go.Proofs.YtbldocbijihpgaaW.PrintWords
attribute [local go_sem] Own.max_int Own.min_int

theorem getnB (lg : Int) (h : lg = 9 ∨ lg = 6 ∨ lg = 13) : norm_Get.f (⟨#[97]⟩ : ByteArray) 0 lg = some ([], 0, if lg = 9 then 2 else 1) := by
  rcases h with rfl | rfl | rfl <;> kernel_rfl
set_option maxRecDepth 20000 in
set_option maxHeartbeats 8000000 in
theorem NormRefuses_walk (a0 a1 : Int) (w : World) (w0 : (Lit.int .u8 a0).wf = true) (w1 : (Lit.int .i64 a1).wf = true) :
    Calls Try.prog 7 #[.int .u8 a0, .int .i64 a1] w fun e w' => e = .returned (.bool true) ∧ Below w.heap.size w w' := by
  obtain ⟨v, rfl, hv⟩ := u8_at w0
  clear w0 w1
  obtain ⟨i0, hi, hz0, hz1, hz2⟩ := info_partsI infoI64
  obtain ⟨ka, hka⟩ := awake12.rounds
  have HA := kept (fun wx => wringerlaw12_awake.calls ka true wx hka)
  have HE := kept (fun x wx => wringerlaw1_Err.calls x x wx rfl)
  have HG1 := kept (fun wx => norm_Get.calls (⟨#[97]⟩ : ByteArray) 2 9 [] 0 1 wx (by kernel_rfl))
  have hr : v % 5 = 0 ∨ v % 5 = 1 ∨ v % 5 = 2 ∨ v % 5 = 3 ∨ v % 5 = 4 := by omega
  obtain ⟨r, hrr⟩ : ∃ r, r = v % 5 := ⟨_, rfl⟩
  have hvr : (v : Int) % 5 = (r : Int) := by omega
  rw [← hrr] at hr
  clear hrr
  go_enter Try.func7, Try.ntmps7
  go_wp2_with (first | (refine wpList_mk1 rfl _ _ 24 rfl 3 i0 (.int .i64 0) 8 Try.underlying24 hi hz0 hz1 hz2 rfl .i64 .i64 _ _ 65 rfl rfl rfl rfl (by decide) (by decide) ?_))
  intro wa hO hb hlt
  obtain ⟨g, hg⟩ : ∃ g, g = w.heap.size := ⟨_, rfl⟩
  rw [← hg] at hO hlt ⊢
  have e0 : List.replicate 65 (Value.int .i64 0) = ints .i64 (List.replicate 65 0) := by unfold ints; rw [List.map_replicate]
  have hO1 : Owns wa 3 (.slice (some ⟨g, 0, none⟩) 65 65) (ints .i64 (List.replicate 65 0)) := by rw [← e0]; exact hO
  have k1 := hO1.cell (j := 1) (Own.ints_at .i64 _ 1 (by decide))
  have f1 := hO1.free 1
  have hO2 := hO1.store 1 (.int .i64 5)
  rw [← ints_set] at hO2
  have hb2 : Below w.heap.size w (wa.setCell ⟨g, 1, none⟩ (.int .i64 5)) := hb.setCell (p := ⟨g, 1, none⟩) (Nat.le_of_eq hg.symm) _
  have HO2 := kept hO2
  have HB2 := kept hb2
  have HG := kept hg
  clear hO hO1 hO2 hb hb2 e0 hlt hg
  go_upto_block 0 with fail
  generalize hwb : World.setCell wa _ _ = wb at *
  have HOb := HO2
  have HBb := HB2
  clear hwb HO2 HB2 k1 f1
  obtain ⟨f0, hf0⟩ : ∃ f0 : List Int, f0 = (List.replicate 65 0).set 1 5 := ⟨_, rfl⟩
  have hl0 : f0.length = 65 := by rw [hf0]; decide
  rw [← hf0] at HOb
  go_cut [5, 6] from 21 to 36 (fun s5 s6 wx => ∃ (f : List Int) (lg : Int), s5 = .slice (some ⟨g, 0, none⟩) f.length 65 ∧ s6 = .int .i64 lg ∧ Kd.C (Kd.int .i64) wx (some ⟨g, 0, none⟩) f.length f ∧ f.length ≤ 65 ∧ ¬ (frB f = true ∧ 7 ≤ lg ∧ lg ≤ 12) ∧ mayN f lg = false ∧ (lg = 9 ∨ lg = 6 ∨ lg = 13) ∧ Below w.heap.size w wx)
  case first =>
    have HF0 := kept hf0
    have HL0 := kept hl0
    have HHi := kept hi
    rcases hr with rfl | rfl | rfl | rfl | rfl
    · clear hf0 hl0
      go_wp2_with fail
      go_meet
      case rel =>
        refine ⟨f0, 6, by rw [HL0.out], rfl, by rw [HL0.out]; exact C_of_rd HOb.out.rd, by rw [HL0.out]; exact Nat.le_refl _, by omega, ?_, by omega, HBb.out⟩
        unfold mayN; rw [decide_eq_false_iff_not]; omega
    · clear hf0 hl0
      go_wp2_with fail
      go_meet
      case rel =>
        refine ⟨f0, 13, by rw [HL0.out], rfl, by rw [HL0.out]; exact C_of_rd HOb.out.rd, by rw [HL0.out]; exact Nat.le_refl _, by omega, ?_, by omega, HBb.out⟩
        unfold mayN; rw [decide_eq_false_iff_not]; omega
    · clear hf0 hl0
      go_wp2_with fail
      go_meet
      case rel =>
        have hl2 : (f0.take 64).length = 64 := by rw [List.length_take, HL0.out]; decide
        refine ⟨f0.take 64, 9, by rw [hl2], rfl, ?_, by omega, fun h => ?_, ?_, by omega, HBb.out⟩
        · rw [hl2]
          have h := HOb.out.rd.take 64 (by decide)
          have e : (ints .i64 f0).take 64 = ints .i64 (f0.take 64) := by unfold ints; rw [List.map_take]
          rw [e] at h
          exact C_of_rd h
        · have := ((frB_iff _).1 h.1).len; omega
        · unfold mayN; rw [decide_eq_false_iff_not]; omega
    · obtain ⟨x, hx⟩ : ∃ x, Own.mn a1 (-1) = x := ⟨_, rfl⟩
      have hneg : x < 0 := by rw [← hx, Own.mn_eq]; omega
      have k7 := HOb.out.cell (j := 7) (Own.ints_at .i64 f0 7 (by omega))
      have f7 := HOb.out.free 7
      have hO := HOb.out.store 7 (.int .i64 x)
      rw [← ints_set] at hO
      have HO := kept hO
      have HX := kept hneg
      have HBc := kept (HBb.out.setCell (p := ⟨g, 7, none⟩) (Nat.le_of_eq HG.out.symm) (.int .i64 x))
      clear hf0 hl0 hO hneg
      go_wp2_with fail
      go_meet
      case rel =>
        have hl2 : (f0.set 7 x).length = 65 := by rw [List.length_set, HL0.out]
        have hmem : x ∈ f0.set 7 x := List.mem_set (by rw [HL0.out]; decide) _
        have hx0 := HX.out
        refine ⟨f0.set 7 x, 9, by rw [hl2], rfl, by rw [hl2]; exact C_of_rd HO.out.rd, by omega, fun h => ?_, ?_, by omega, HBc.out⟩
        · have := ((frB_iff _).1 h.1).nn _ hmem; omega
        · unfold mayN; rw [decide_eq_false_iff_not]
          rintro ⟨_, _, _, h4, _⟩
          have := (h4 _ hmem).1; omega
    · have k1 := HOb.out.cell (j := 1) (Own.ints_at .i64 f0 1 (by omega))
      have f1 := HOb.out.free 1
      have hO := HOb.out.store 1 (.int .i64 0)
      rw [← ints_set] at hO
      have HO := kept hO
      have HBc := kept (HBb.out.setCell (p := ⟨g, 1, none⟩) (Nat.le_of_eq HG.out.symm) (.int .i64 0))
      clear hf0 hl0 hO
      go_wp2_with fail
      go_meet
      case rel =>
        have e : f0.set 1 0 = List.replicate 65 0 := by rw [HF0.out]; decide
        rw [e] at HO
        refine ⟨List.replicate 65 0, 9, by simp, rfl, by simpa using C_of_rd HO.out.rd, by simp, fun h => ?_, by decide, by omega, HBc.out⟩
        have := ((frB_iff _).1 h.1).pos
        simp at this
  case rest =>
    obtain ⟨f, lg, rfl, rfl, hC, hl65, hbad, hmay, hlg, hb⟩ := hcut
    obtain ⟨wq, rfl⟩ : ∃ wq, wq = wc := ⟨wc, rfl⟩
    have HOf := kept (norm_Of.calls (some ⟨g, 0, none⟩) 65 f lg [] 1 wq hC hl65 (of_bad (by omega) hbad))
    obtain ⟨km, hkm⟩ := (may_is f lg).rounds
    rw [hmay] at hkm
    have HMay := kept (fun wx (hbx : Below wq.heap.size wq wx) => norm_May.calls km (some ⟨g, 0, none⟩) 65 f lg false wx (Kd.C_below hC hbx) hl65 hkm)
    have HG2 := kept (fun wx => norm_Get.calls (⟨#[97]⟩ : ByteArray) 0 lg [] 0 (if lg = 9 then 2 else 1) wx (getnB lg hlg))
    have HBq := kept hb
    obtain ⟨n, hn⟩ : ∃ n, n = f.length := ⟨_, rfl⟩
    rw [← hn] at HOf HMay ⊢
    have hlg2 : (lg = 9 ∧ (lg != 9) = false ∧ (if lg = 9 then (2 : Int) else 1) = 2) ∨ ((lg != 9) = true ∧ (if lg = 9 then (2 : Int) else 1) = 1) := by
      rcases hlg with rfl | rfl | rfl
      · left; decide
      · right; decide
      · right; decide
    clear hC hl65 hbad hmay hlg hb hkm hn hi hf0 hl0 hr hvr
    rcases hlg2 with ⟨rfl, hne, hif⟩ | ⟨hne, hif⟩
    · rw [hif] at HG2
      go_wp2_with fail
      refine HOf.out.mono ?_
      rintro e w2 ⟨v1, rfl, hr1, hb1⟩
      obtain ⟨A1, c1, rfl⟩ := Kd.R_slice hr1
      have HBz := kept hb1
      clear hr1 hb1
      simp only [List.length_nil]
      go_wp2_with fail
      refine (HG1.out _).mono ?_
      rintro e w3 ⟨v2, rfl, _, hb2⟩
      have HBy := kept (HBz.out.trans (hb2.mono HBz.out.size))
      clear hb2 HBz
      go_wp2_with fail
      refine (HG2.out _).mono ?_
      rintro e w4 ⟨v3, rfl, _, hb3⟩
      have HBz := kept (HBy.out.trans (hb3.mono HBy.out.size))
      clear hb3 HBy
      go_wp2_with (first
        | (go_at_call 14; refine (HE.out _ _).mono ?_; rintro e wz ⟨rfl, hd⟩; have HBy := kept (HBz.out.trans (hd.below.mono HBz.out.size)); clear hd HBz; have HBz := HBy; clear HBy)
        | (go_at_call 15; refine (HMay.out _ HBz.out).mono ?_; rintro e wz ⟨rfl, hd⟩; have HBy := kept (HBz.out.trans (hd.below.mono HBz.out.size)); clear hd HBz; have HBz := HBy; clear HBy)
        | (go_at_call 9; refine (HA.out _).mono ?_; rintro e wz ⟨rfl, hd⟩; have HBy := kept (HBz.out.trans (hd.mono HBz.out.size)); clear hd HBz; have HBz := HBy; clear HBy))
      go_ret
      exact ⟨rfl, HBq.out.trans (HBz.out.mono HBq.out.size)⟩
    · rw [hif] at HG2
      go_wp2_with fail
      refine HOf.out.mono ?_
      rintro e w2 ⟨v1, rfl, hr1, hb1⟩
      obtain ⟨A1, c1, rfl⟩ := Kd.R_slice hr1
      have HBz := kept hb1
      clear hr1 hb1
      simp only [List.length_nil]
      go_wp2_with fail
      refine (HG1.out _).mono ?_
      rintro e w3 ⟨v2, rfl, _, hb2⟩
      have HBy := kept (HBz.out.trans (hb2.mono HBz.out.size))
      clear hb2 HBz
      go_wp2_with fail
      refine (HG2.out _).mono ?_
      rintro e w4 ⟨v3, rfl, _, hb3⟩
      have HBz := kept (HBy.out.trans (hb3.mono HBy.out.size))
      clear hb3 HBy
      go_wp2_with (first
        | (go_at_call 14; refine (HE.out _ _).mono ?_; rintro e wz ⟨rfl, hd⟩; have HBy := kept (HBz.out.trans (hd.below.mono HBz.out.size)); clear hd HBz; have HBz := HBy; clear HBy)
        | (go_at_call 15; refine (HMay.out _ HBz.out).mono ?_; rintro e wz ⟨rfl, hd⟩; have HBy := kept (HBz.out.trans (hd.below.mono HBz.out.size)); clear hd HBz; have HBz := HBy; clear HBy)
        | (go_at_call 9; refine (HA.out _).mono ?_; rintro e wz ⟨rfl, hd⟩; have HBy := kept (HBz.out.trans (hd.mono HBz.out.size)); clear hd HBz; have HBz := HBy; clear HBy))
      go_ret
      exact ⟨rfl, HBq.out.trans (HBz.out.mono HBq.out.size)⟩
end Go.Proofs.Ytbldocbijihpgaa

-- ---- LawNormRefuses
/- The law NormRefuses holds of the program, for every input; each argument reads behind the call as it read before. Conditions: none. -/
namespace Go.Proofs.Ytbldocbijihpgaa.normRefuses
open Go.ChangeShapes Go.WideShapes Go.ChangeAt Go.RowKit
open Go.ChangeMaps (open_string shut_string)
set_option linter.unusedVariables false
theorem own : ownKnob Try.prog.godebug = none := by kernel_rfl
set_option maxRecDepth 100000 in
theorem lifted (os : Os) (started : os.Started) (H : Type) (enc : TypeId × Value → H) :
    ReturnsInHanded {} Try.checked os 7 .any (Rows.normRefusesSpec.pre6 enc Try.prog Try.f7 Rows.normRefusesRow.domain false) (Rows.normRefusesSpec.post enc Try.prog Try.f7 false true false false) := by
  refine returnsInHanded_of_change_sized (C := Try.checked) own started (by kernel_rfl) Try.func7
    (ChangeSpec.witness6 (enc := enc) (C := Try.checked) false ⟨#[], #[.int .u8 0, .int .i64 0], []⟩ 8 (by kernel_rfl) (by kernel_rfl) (by kernel_rfl) (by kernel_rfl)) ?_
  intro W base args ds gs before hval0 hW hcnd hsz0 _
  have hsz : (DataW.weightsEach Try.prog (Try.f7.params.toList ++ Rows.normRefusesSpec.plain.varTypes Try.prog) (ds ++ gs)).all (· ≤ reachBytes) = true := hsz0
  have hval : ∀ (j : Nat) t v, Try.f7.params[j]? = some t → args[j]? = some v → Value.okWide Try.prog W .any base t v := hval0
  have hW' := hW
  obtain ⟨p, q, hA0, hV, rfl, hfz, hnd⟩ := hW
  have hA : DataW.TrodAll enc Try.prog W 0 (fun _ => true) true Try.f7.params.toList args.toList ds p := hA0
  rw [Try.params7] at hA hval hsz
  obtain ⟨v0, vs0, d0, ds0, p0, q0, hargs, rfl, rfl, h0, r0⟩ := trodAll_cons hA
  obtain ⟨v1, vs1, d1, ds1, p1, q1, rfl, rfl, rfl, h1, r1⟩ := trodAll_cons r0
  obtain ⟨rfl, rfl, rfl⟩ := trodAll_nil r1
  obtain rfl : args = #[v0, v1] := by cases args; simp_all
  obtain ⟨rfl, rfl⟩ := trodVars_none hV
  obtain ⟨a0, rfl, rfl, rfl, w0⟩ := open_int Try.underlying5 (hval 0 5 v0 rfl rfl) h0
  obtain ⟨a1, rfl, rfl, rfl, w1⟩ := open_int Try.underlying3 (hval 1 3 v1 rfl rfl) h1
  clear hA0 hval0 hsz0 hsz
  refine (NormRefuses_walk a0 a1 W w0 w1).mono fun e W' ⟨he, bel⟩ => ?_
  subst he
  exact ⟨_, rfl, _, _, _, [], _, [], hW', trodAll_mk1 (shut_bool Try.underlying4 _), (trodAll_cons_mk (shut_int Try.underlying5 w0) (trodAll_cons_mk (shut_int Try.underlying3 w1) trodAll_mk0)), rfl, bel.frame _, fun h => by cases h⟩
theorem over : Rows.normRefusesRow.holds Try.pinned (OpenSpec.ofChange Rows.normRefusesSpec) :=
  OpenClaim.holds_of_wide 7 Try.f7 rfl rfl rfl rfl rfl rfl rfl ⟨rfl, rfl, rfl, rfl, rfl⟩ rfl rfl rfl rfl rfl (by kernel_rfl) Try.func7 (by kernel_rfl)
    (of_decide_eq_true (by kernel_rfl)) (by unfold Func.isWrapper; first | (rw [if_pos (by decide +kernel)]; kernel_rfl) | (rw [if_neg (by decide +kernel)]; exact ⟨rfl, rfl⟩))
    (fun os started H enc _ => lifted os started H enc)
theorem proved : Rows.NormRefusesSaid := over
#print axioms proved
end Go.Proofs.Ytbldocbijihpgaa.normRefuses
namespace Go.Proofs.Ytbldocbijihpgaa
/-- The row, under a short name. -/
theorem normRefuses_holds : Rows.NormRefusesSaid := normRefuses.proved
end Go.Proofs.Ytbldocbijihpgaa
