/- Part NormRuns1 of what the layer's laws stand on: Nx, By, NormRuns, LawNormRuns. Written by a program (merge.py) out of this session's own texts and of what the kit's print wrote over stand-ins (sp.py). Conditions: those that each theorem names. -/
import Derived.Test.YtbldocbijihpgaaQB2
import Derived.Test.YtbldocbijihpgaaProg
import Derived.Test.YtbldocbijihpgaaQB1
import Derived.Below
import Derived.Laws.IdiomStrings
import Derived.Laws.BitsAllLaws
import Derived.Test.YtbldocbijihpgaaQB4
import Derived.Test.YtbldocbijihpgaaQB3
import Derived.Test.YtbldocbijihpgaaRows
import Derived.WalkKit
import Derived.ProofKit
import Derived.OpenShut
import Derived.ShutString
import Derived.ChangeOld
import Derived.SizedLaws
-- ---- Nx
/- Numbers of a sum: told again out of their bytes; out of fewer more is needed; other bytes tell others. Plain facts. No program in sight. -/
namespace Go.Proofs.Ytbldocbijihpgaa.Np
set_option linter.unusedSimpArgs false
set_option linter.unusedVariables false
open Vt Nl

theorem size_app (a b : ByteArray) : (a ++ b).size = a.size + b.size := ByteArray.size_append
theorem goV_nat (n : Nat) (rest : List Nat) (h : n < 18446744073709551616) : goV 10 true (putV n ++ rest) = (n, (putV n).length, 0) := goV_putV 9 true n rest h (.inl rfl)
theorem goV_short (n k : Nat) (h : n < 18446744073709551616) (hk : k < (putV n).length) : goV 10 true ((putV n).take k) = (0, 0, 2) := goV_cut 9 true n k h hk
theorem goV_nought (rest : List Nat) : goV 10 true (0 :: rest) = (0, 1, 0) := by
  have h := goV_nat 0 rest (by decide)
  rw [putV_lt (by decide)] at h
  simpa using h
theorem cat_runZ (t acc : List Int) : acc ++ List.replicate (runZ t + 1) 0 ++ t.drop (runZ t) = acc ++ 0 :: t := by
  rw [List.replicate_succ, List.append_assoc, List.cons_append, ← runZ_take, List.take_append_drop]
theorem parN_put (bs rest : List Nat) : ∀ (n : Nat) (l acc : List Int) (f k : Nat), l.length ≤ n → (∀ x ∈ l, 0 ≤ x ∧ x < 18446744073709551616) → acc.length + l.length = 65 → bs.drop k = nputL l ++ rest → l.length < f →
    parN bs f k acc = (acc ++ l, k + (nputL l).length, 0) := by
  intro n
  induction n with
  | zero =>
    intro l acc f k hn _ ha _ hf
    have hl : l = [] := List.length_eq_zero_iff.1 (by omega)
    subst hl
    obtain ⟨f, rfl⟩ : ∃ g, f = g + 1 := ⟨f - 1, by simp at hf; omega⟩
    simp only [parN]
    rw [if_pos (by simp at ha; omega)]
    simp [nputL_nil]
  | succ n ih =>
    intro l acc f k hn hr ha hd hf
    obtain ⟨f, rfl⟩ : ∃ g, f = g + 1 := ⟨f - 1, by omega⟩
    cases l with
    | nil =>
      simp only [parN]
      rw [if_pos (by simp at ha; omega)]
      simp [nputL_nil]
    | cons x t =>
      simp only [List.length_cons] at hn ha hf
      have ht : ∀ x ∈ t, 0 ≤ x ∧ x < 18446744073709551616 := fun x hx => hr x (List.mem_cons_of_mem _ hx)
      by_cases hx : x = 0
      · subst hx
        rw [nputL_zero] at hd ⊢
        obtain ⟨r, hrr⟩ : ∃ r, r = runZ t := ⟨_, rfl⟩
        have hrl : r ≤ t.length := by rw [hrr]; exact runZ_le t
        have hc := cat_runZ t acc
        rw [← hrr] at hd hc ⊢
        have e1 : goV 10 true (bs.drop k) = (0, 1, 0) := by rw [hd]; exact goV_nought _
        have hd1 : bs.drop (k + 1) = putV r ++ (nputL (t.drop r) ++ rest) := by
          rw [← List.drop_drop, hd]; simp
        have e2 : goV 10 true (bs.drop (k + 1)) = (r, (putV r).length, 0) := by rw [hd1]; exact goV_nat _ _ (by omega)
        have hd2 : bs.drop (k + 1 + (putV r).length) = nputL (t.drop r) ++ rest := by
          rw [← List.drop_drop, hd1]; simp
        have hi := ih (t.drop r) (acc ++ List.replicate (r + 1) 0) f (k + 1 + (putV r).length) (by rw [List.length_drop]; omega) (fun x hx => ht x (List.mem_of_mem_drop hx)) (by rw [List.length_append, List.length_replicate, List.length_drop]; omega) hd2 (by rw [List.length_drop]; omega)
        simp only [parN, e1, e2]
        rw [if_neg (by omega), if_neg (by simp), if_neg (by omega), if_neg (by simp), if_neg (by omega), hi, hc]
        simp only [List.length_cons, List.length_append, Prod.mk.injEq, true_and, and_true]
        omega
      · have hx2 := hr x (List.mem_cons_self)
        rw [nputL_pos x t hx] at hd ⊢
        have e1 : goV 10 true (bs.drop k) = (x.toNat, (putV x.toNat).length, 0) := by rw [hd, List.append_assoc]; exact goV_nat _ _ (by omega)
        have hd2 : bs.drop (k + (putV x.toNat).length) = nputL t ++ rest := by
          rw [← List.drop_drop, hd, List.append_assoc]; simp
        have hi := ih t (acc ++ [(x.toNat : Int)]) f (k + (putV x.toNat).length) (by omega) ht (by simp; omega) hd2 (by omega)
        simp only [parN, e1]
        rw [if_neg (by omega), if_neg (by simp), if_pos (by omega), hi]
        have ex : (x.toNat : Int) = x := by omega
        rw [ex, List.append_assoc, List.length_append]
        simp only [List.cons_append, List.nil_append, Prod.mk.injEq, true_and, and_true]
        omega
theorem parN_cut (bs : List Nat) : ∀ (n : Nat) (l acc : List Int) (f k c : Nat), l.length ≤ n → (∀ x ∈ l, 0 ≤ x ∧ x < 18446744073709551616) → acc.length + l.length = 65 → bs.drop k = (nputL l).take c → c < (nputL l).length → l.length < f →
    parN bs f k acc = ([], 0, 2) := by
  intro n
  induction n with
  | zero =>
    intro l acc f k c hn _ ha _ hc hf
    have hl : l = [] := List.length_eq_zero_iff.1 (by omega)
    subst hl
    simp [nputL_nil] at hc
  | succ n ih =>
    intro l acc f k c hn hr ha hd hc hf
    obtain ⟨f, rfl⟩ : ∃ g, f = g + 1 := ⟨f - 1, by omega⟩
    cases l with
    | nil => simp [nputL_nil] at hc
    | cons x t =>
      simp only [List.length_cons] at hn ha hf
      have ht : ∀ x ∈ t, 0 ≤ x ∧ x < 18446744073709551616 := fun x hx => hr x (List.mem_cons_of_mem _ hx)
      by_cases hx : x = 0
      · subst hx
        rw [nputL_zero] at hd hc
        obtain ⟨r, hrr⟩ : ∃ r, r = runZ t := ⟨_, rfl⟩
        have hrl : r ≤ t.length := by rw [hrr]; exact runZ_le t
        rw [← hrr] at hd hc
        cases c with
        | zero =>
          have e1 : goV 10 true (bs.drop k) = (0, 0, 2) := by rw [hd]; rfl
          simp only [parN, e1]
          rw [if_neg (by omega), if_pos (by simp)]
        | succ c =>
          rw [List.take_succ_cons] at hd
          have e1 : goV 10 true (bs.drop k) = (0, 1, 0) := by rw [hd]; exact goV_nought _
          have hd1 : bs.drop (k + 1) = (putV r ++ nputL (t.drop r)).take c := by
            rw [← List.drop_drop, hd]; simp
          by_cases h2 : c < (putV r).length
          · have e2 : goV 10 true (bs.drop (k + 1)) = (0, 0, 2) := by
              rw [hd1, List.take_append_of_le_length (by omega)]; exact goV_short _ _ (by omega) h2
            simp only [parN, e1, e2]
            rw [if_neg (by omega), if_neg (by simp), if_neg (by omega), if_pos (by simp)]
          · have e3 : (putV r ++ nputL (t.drop r)).take c = putV r ++ (nputL (t.drop r)).take (c - (putV r).length) := by
              rw [List.take_append, List.take_of_length_le (by omega)]
            have e2 : goV 10 true (bs.drop (k + 1)) = (r, (putV r).length, 0) := by rw [hd1, e3]; exact goV_nat _ _ (by omega)
            have hd2 : bs.drop (k + 1 + (putV r).length) = (nputL (t.drop r)).take (c - (putV r).length) := by
              rw [← List.drop_drop, hd1, e3]; simp
            have hi := ih (t.drop r) (acc ++ List.replicate (r + 1) 0) f (k + 1 + (putV r).length) (c - (putV r).length) (by rw [List.length_drop]; omega) (fun x hx => ht x (List.mem_of_mem_drop hx)) (by rw [List.length_append, List.length_replicate, List.length_drop]; omega) hd2 (by simp only [List.length_cons, List.length_append] at hc; omega) (by rw [List.length_drop]; omega)
            simp only [parN, e1, e2]
            rw [if_neg (by omega), if_neg (by simp), if_neg (by omega), if_neg (by simp), if_neg (by omega), hi]
      · have hx2 := hr x (List.mem_cons_self)
        rw [nputL_pos x t hx] at hd hc
        by_cases h2 : c < (putV x.toNat).length
        · have e2 : goV 10 true (bs.drop k) = (0, 0, 2) := by
            rw [hd, List.take_append_of_le_length (by omega)]; exact goV_short _ _ (by omega) h2
          simp only [parN, e2]
          rw [if_neg (by omega), if_pos (by simp)]
        · have e3 : (putV x.toNat ++ nputL t).take c = putV x.toNat ++ (nputL t).take (c - (putV x.toNat).length) := by
            rw [List.take_append, List.take_of_length_le (by omega)]
          have e1 : goV 10 true (bs.drop k) = (x.toNat, (putV x.toNat).length, 0) := by rw [hd, e3]; exact goV_nat _ _ (by omega)
          have hd2 : bs.drop (k + (putV x.toNat).length) = (nputL t).take (c - (putV x.toNat).length) := by
            rw [← List.drop_drop, hd, e3]; simp
          have hi := ih t (acc ++ [(x.toNat : Int)]) f (k + (putV x.toNat).length) (c - (putV x.toNat).length) (by omega) ht (by simp; omega) hd2 (by simp only [List.length_append] at hc; omega) (by omega)
          simp only [parN, e1]
          rw [if_neg (by omega), if_neg (by simp), if_pos (by omega), hi]

theorem mayN_is {l : List Int} {a : Int} (h : Sp.mayN l a = true) : 7 ≤ a ∧ a ≤ 12 ∧ l.length = 65 ∧ ∀ x ∈ l, 0 ≤ x ∧ x ≤ 4096 := by
  unfold Sp.mayN at h
  rw [decide_eq_true_eq] at h
  obtain ⟨h1, h2, h3, h4, _⟩ := h
  have := (pow_le12 a ⟨h1, h2⟩).1
  exact ⟨h1, h2, h3, fun x hx => by have := h4 x hx; omega⟩
theorem put_size {l : List Int} {a : Int} (h : Sp.mayN l a = true) : (txt (nputL l)).size = (nputL l).length ∧ 1 ≤ (nputL l).length ∧ (nputL l).length ≤ 715 := by
  obtain ⟨_, _, h65, hr⟩ := mayN_is h
  refine ⟨size_txt _, ?_, ?_⟩
  · cases l with
    | nil => simp at h65
    | cons x t =>
      by_cases hx : x = 0
      · subst hx; rw [nputL_zero]; simp
      · rw [nputL_pos x t hx]
        have := putV_len_pos x.toNat
        rw [List.length_append]; omega
  · have := nputL_len l (fun x hx => by have := hr x hx; omega) (by omega)
    omega
theorem get_put {l : List Int} {a : Int} (h : Sp.mayN l a = true) (s2 s3 : ByteArray) : getNE (s2 ++ txt (nputL l) ++ s3) (s2.size : Int) a = (l, ((s2.size + (txt (nputL l)).size : Nat) : Int), 0) := by
  obtain ⟨h7, h12, h65, hr⟩ := mayN_is h
  have hz := size_txt (nputL l)
  have hb := bsOf_txt (nputL l) (nputL_byte l)
  have hbs : bsOf (s2 ++ txt (nputL l) ++ s3) = bsOf s2 ++ (nputL l ++ bsOf s3) := by rw [bsOf_append, bsOf_append, hb, List.append_assoc]
  have hl2 := length_bsOf s2
  unfold getNE
  rw [if_neg (by rw [size_app, size_app]; omega), Int.toNat_natCast]
  have hd : (bsOf (s2 ++ txt (nputL l) ++ s3)).drop s2.size = nputL l ++ bsOf s3 := by
    rw [hbs, ← hl2]; simp
  have hp := parN_put _ _ l.length l [] 66 s2.size (Nat.le_refl _) (fun x hx => by have := hr x hx; omega) (by simpa using h65) hd (by omega)
  rw [hp]
  unfold finN
  rw [if_neg (by simp), if_pos]
  · simp only [List.nil_append, hz]
  · refine ⟨by simpa using h, ?_⟩
    simp only [List.nil_append]
    rw [List.drop_take, hd]
    simp
theorem get_cut {l : List Int} {a : Int} (h : Sp.mayN l a = true) (c : Nat) (hc : c < (txt (nputL l)).size) : getNE ((txt (nputL l)).extract 0 c) 0 a = ([], 0, 2) := by
  obtain ⟨h7, h12, h65, hr⟩ := mayN_is h
  have hz := size_txt (nputL l)
  have hb := bsOf_txt (nputL l) (nputL_byte l)
  unfold getNE
  rw [if_neg (by omega)]
  have hd : (bsOf ((txt (nputL l)).extract 0 c)).drop 0 = (nputL l).take c := by rw [bsOf_extract, hb]; simp
  have hp := parN_cut _ l.length l [] 66 0 c (Nat.le_refl _) (fun x hx => by have := hr x hx; omega) (by simpa using h65) hd (by omega) (by omega)
  rw [show (0 : Int).toNat = 0 from rfl, hp]
  unfold finN
  rw [if_pos (by simp)]
  rfl
theorem getNE_ok {s : ByteArray} {a : Int} {n : List Int} {x : Int} (h : getNE s 0 a = (n, x, 0)) : n.length = 65 ∧ ∃ j, nputL n = (bsOf s).take j := by
  unfold getNE at h
  split at h
  · simp only [Prod.mk.injEq] at h; omega
  · unfold finN at h
    split at h
    · rename_i h2
      simp only [Prod.mk.injEq] at h
      omega
    · split at h
      · rename_i hc
        simp only [Prod.mk.injEq] at h
        obtain ⟨h1, h3, _⟩ := h
        rw [← h1]
        exact ⟨(mayN_is hc.1).2.2.1, _, by rw [hc.2]; rfl⟩
      · simp only [Prod.mk.injEq] at h; omega
theorem get_other {l : List Int} {a : Int} {s : ByteArray} {nx : Int} (hsz : s.size = (txt (nputL l)).size) (hg : getNE s 0 a = (l, nx, 0)) : s = txt (nputL l) := by
  obtain ⟨_, j, hj⟩ := getNE_ok hg
  have hz := size_txt (nputL l)
  have hl := length_bsOf s
  have h2 := congrArg List.length hj
  rw [List.length_take] at h2
  rw [hj, List.take_of_length_le (by omega), txt_bsOf]

/- One class alone. -/
def oneL (k m : Nat) : List Int := (List.replicate 65 0).set k ((2 ^ m : Nat) : Int)
theorem putV_small (n : Nat) (h : n < 128) : putV n = [n] := putV_lt h
theorem putV_two (n : Nat) (h : 128 ≤ n) (h2 : n < 16384) : putV n = [n % 128 + 128, n / 128] := by rw [putV_ge h, putV_lt (by omega)]
theorem runZ_rep (n : Nat) (l : List Int) (h : runZ l = 0) : runZ (List.replicate n 0 ++ l) = n := by
  induction n with
  | zero => simpa using h
  | succ n ih => rw [List.replicate_succ, List.cons_append]; simp only [runZ]; rw [if_pos trivial, ih]
theorem nput_rep (n : Nat) (l : List Int) (h : runZ l = 0) (hn : n < 128) : nputL (List.replicate (n + 1) 0 ++ l) = 0 :: n :: nputL l := by
  rw [List.replicate_succ, List.cons_append, nputL_zero, runZ_rep n l h, putV_small n hn]
  simp
theorem oneL_is (k m : Nat) (hk : k < 65) : oneL k m = List.replicate k 0 ++ ((2 ^ m : Nat) : Int) :: List.replicate (64 - k) 0 := by
  unfold oneL
  apply List.ext_getElem?
  intro i
  rw [List.getElem?_set]
  by_cases h1 : i < k
  · rw [if_neg (by omega), List.getElem?_append_left (by simpa using h1), List.getElem?_replicate, List.getElem?_replicate, if_pos (by omega), if_pos h1]
  · rw [List.getElem?_append_right (by simpa using Nat.le_of_not_lt h1)]
    by_cases h2 : k = i
    · subst h2; simp; omega
    · rw [if_neg h2]
      obtain ⟨j, hj⟩ : ∃ j, i = k + 1 + j := ⟨i - k - 1, by omega⟩
      subst hj
      rw [List.length_replicate, show k + 1 + j - k = j + 1 by omega, List.getElem?_cons_succ, List.getElem?_replicate, List.getElem?_replicate]
      by_cases h3 : k + 1 + j < 65
      · rw [if_pos h3, if_pos (by omega)]
      · rw [if_neg h3, if_neg (by omega)]
def headB (k : Nat) : List Nat := if 0 < k then [0, k - 1] else []
def tailB (k : Nat) : List Nat := if k < 64 then [0, 63 - k] else []
theorem one_put (k m : Nat) (hk : k < 65) (h7 : 7 ≤ m) (h12 : m ≤ 12) : nputL (oneL k m) = headB k ++ [128, 2 ^ (m - 7)] ++ tailB k := by
  have hp : 2 ^ m % 128 = 0 ∧ 2 ^ m / 128 = 2 ^ (m - 7) ∧ 128 ≤ 2 ^ m ∧ 2 ^ m < 16384 := by
    have h1 : m = 7 ∨ m = 8 ∨ m = 9 ∨ m = 10 ∨ m = 11 ∨ m = 12 := by omega
    rcases h1 with h | h | h | h | h | h <;> rw [h] <;> decide
  have hne : ((2 ^ m : Nat) : Int) ≠ 0 := by omega
  have hrz : ∀ t, runZ (((2 ^ m : Nat) : Int) :: t) = 0 := fun t => by simp only [runZ]; rw [if_neg hne]
  have hmid : ∀ t, nputL (((2 ^ m : Nat) : Int) :: t) = 128 :: 2 ^ (m - 7) :: nputL t := fun t => by
    rw [nputL_pos _ _ hne, Int.toNat_natCast, putV_two _ hp.2.2.1 hp.2.2.2, hp.1, hp.2.1]; rfl
  have htail : nputL (List.replicate (64 - k) 0) = tailB k := by
    unfold tailB
    split
    · obtain ⟨j, hj⟩ : ∃ j, 64 - k = j + 1 := ⟨63 - k, by omega⟩
      have := nput_rep j [] rfl (by omega)
      rw [List.append_nil, nputL_nil] at this
      rw [hj, this, show 63 - k = j by omega]
    · rw [show 64 - k = 0 by omega]; rfl
  rw [oneL_is k m hk]
  unfold headB
  split
  · obtain ⟨j, hj⟩ : ∃ j, k = j + 1 := ⟨k - 1, by omega⟩
    rw [hj, nput_rep j _ (hrz _) (by omega), hmid, ← hj, htail, show k - 1 = j by omega]; rfl
  · rw [show k = 0 by omega] at htail ⊢
    rw [List.replicate_zero, List.nil_append, hmid, htail]; rfl
theorem one_may (k m : Nat) (hk : k < 65) (h7 : 7 ≤ m) (h12 : m ≤ 12) : Sp.mayN (oneL k m) (m : Int) = true := by
  have h : ∀ (k : Fin 65) (m : Fin 6), Sp.mayN (oneL k.1 (7 + m.1)) ((7 + m.1 : Nat) : Int) = true := by decide +kernel
  have := h ⟨k, hk⟩ ⟨m - 7, by omega⟩
  simp only [show 7 + (m - 7) = m by omega] at this
  exact this
/-- A row in two parts. -/
theorem odd_get (m : Nat) (h7 : 7 ≤ m) (h12 : m ≤ 12) : getNE (txt [128, 2 ^ (m - 7), 0, 10, 0, 52]) 0 (m : Int) = ([], 0, 3) := by
  have h : ∀ (m : Fin 6), parN [128, 2 ^ m.1, 0, 10, 0, 52] 66 0 [] = (oneL 0 (7 + m.1), 6, 0) := by decide +kernel
  have := h ⟨m - 7, by omega⟩
  simp only [show 7 + (m - 7) = m by omega] at this
  have hb : ∀ x ∈ [128, 2 ^ (m - 7), 0, 10, 0, 52], x < 256 := by
    have h1 : m - 7 = 0 ∨ m - 7 = 1 ∨ m - 7 = 2 ∨ m - 7 = 3 ∨ m - 7 = 4 ∨ m - 7 = 5 := by omega
    rcases h1 with h | h | h | h | h | h <;> rw [h] <;> decide
  unfold getNE
  rw [if_neg (by omega), bsOf_txt _ hb, show (0 : Int).toNat = 0 from rfl, this]
  unfold finN
  rw [if_neg (by simp), if_neg]
  rintro ⟨_, h2⟩
  simp only at h2
  rw [one_put 0 m (by decide) h7 h12, bsOf_txt _ hb] at h2
  have := congrArg List.length h2
  simp [headB, tailB] at this
theorem far_get (m : Nat) (h7 : 7 ≤ m) (h12 : m ≤ 12) : getNE (txt [128, 2 ^ (m - 7), 0, 64]) 0 (m : Int) = ([], 0, 3) := by
  have h : ∀ (m : Fin 6), parN [128, 2 ^ m.1, 0, 64] 66 0 [] = ([], 0, 3) := by decide +kernel
  have := h ⟨m - 7, by omega⟩
  have hb : ∀ x ∈ [128, 2 ^ (m - 7), 0, 64], x < 256 := by
    have h1 : m - 7 = 0 ∨ m - 7 = 1 ∨ m - 7 = 2 ∨ m - 7 = 3 ∨ m - 7 = 4 ∨ m - 7 = 5 := by omega
    rcases h1 with h | h | h | h | h | h <;> rw [h] <;> decide
  unfold getNE
  rw [if_neg (by omega), bsOf_txt _ hb, show (0 : Int).toNat = 0 from rfl]
  simp only at this
  rw [this]
  rfl
end Go.Proofs.Ytbldocbijihpgaa.Np

-- ---- By
/- '[]byte(s)', one byte turned, and the bytes made a text again: what lies in memory on the way. Conditions: those that each theorem names. -/
namespace Go.Proofs.Ytbldocbijihpgaa.By
set_option linter.unusedSimpArgs false
set_option linter.unusedVariables false
open Go.RowKit Mix _root_.Go.Proofs.Ytbldocbijihpgaa.Own

/-- What '[]byte(s)' lays: its bytes from the block's head on. -/
structure Bs (w : World) (g : Nat) (l : List UInt8) : Prop where
  lt : g < w.heap.size
  cell : ∀ j (h : j < l.length), w.cell? ⟨g, j, none⟩ = some (.int .u8 ((l[j]'h).toNat : Int))
  free : ∀ j, j < l.length → w.frozen? ⟨g, j, none⟩ = false
theorem Bs.fresh (w : World) (s : ByteArray) (cap : Nat) : Bs (w.drew.alloc (.cells (bytesRow s cap) 5 ((bytesRow s cap).size, (bytesRow s cap).size + 1))) w.heap.size s.data.toList := by
  have e : w.drew.heap.size = w.heap.size := rfl
  refine ⟨by rw [← e]; simp, fun j h => ?_, fun j h => ?_⟩
  · have h1 := World.cell?_alloc_mark w.drew (bytesRow s cap) 5 ((bytesRow s cap).size, (bytesRow s cap).size + 1) j
    rw [e] at h1
    rw [h1, bytesRow_at s cap j (by simpa using h)]
    simp
  · have h1 := World.frozen?_alloc_mark w.drew (bytesRow s cap) 5 (bytesRow s cap).size ((bytesRow s cap).size + 1) j
    rw [e] at h1
    rw [h1]
    have : j < (bytesRow s cap).size := by unfold bytesRow; simp at h ⊢; omega
    simp; omega
theorem below_fresh (w : World) (s : ByteArray) (cap : Nat) (B : Nat) (hB : B ≤ w.heap.size) : Below B w (w.drew.alloc (.cells (bytesRow s cap) 5 ((bytesRow s cap).size, (bytesRow s cap).size + 1))) :=
  ((Below.refl B w).drew).alloc hB _
theorem Bs.set {w : World} {g : Nat} {l : List UInt8} (h : Bs w g l) (j : Nat) (hj : j < l.length) (b : UInt8) : Bs (w.setCell ⟨g, j, none⟩ (.int .u8 (b.toNat : Int))) g (l.set j b) := by
  refine ⟨by have := h.lt; simp [World.setCell]; exact this, fun i hi => ?_, fun i hi => ?_⟩
  · have hi2 : i < l.length := by simpa using hi
    by_cases e : i = j
    · subst e
      rw [World.cell?_setCell_same (h := h.cell i hi2)]
      simp
    · rw [World.cell?_setCell_other (h := by intro h2; injection h2 with _ h3; exact e h3.symm), h.cell i hi2, List.getElem_set_ne (fun e2 => e e2.symm)]
  · rw [World.frozen?_setCell]
    exact h.free i (by simpa using hi)
/-- The bytes made a text. -/
theorem Bs.text {w : World} {g : Nat} {l : List UInt8} (h : Bs w g l) (n cap : Nat) (hn : n = l.length) : (convert 45 9 (.slice (some ⟨g, 0, none⟩) n cap)).run Try.prog w = .ok (.string ⟨l.toArray⟩) w := by
  subst hn
  refine run_convert_bytes_back w 45 9 5 ⟨g, 0, none⟩ cap l Try.underlying45 Try.underlying5 Try.underlying9 fun j hj => ?_
  have e : (⟨g, 0, none⟩ : Addr).add j = ⟨g, j, none⟩ := by unfold Addr.add; split <;> simp_all
  rw [e]; exact h.cell j hj
theorem bytes_run (w : World) (s : ByteArray) : (convert 9 45 (.string s)).run Try.prog w = .ok (.slice (some ⟨w.heap.size, 0, none⟩) s.size (grownCap w s.size 0 5))
      (w.drew.alloc (.cells (bytesRow s (grownCap w s.size 0 5)) 5 ((bytesRow s (grownCap w s.size 0 5)).size, (bytesRow s (grownCap w s.size 0 5)).size + 1))) :=
  run_bytes_of_string w 9 45 5 s Try.underlying9 Try.underlying45 Try.underlying5
end Go.Proofs.Ytbldocbijihpgaa.By

-- ---- NormRuns
/- NormRuns: noughts are told by one row each, however long; a row in two parts, or one that goes on behind the last class, says nothing: what the call answers, for every input. Conditions: the numbers are of their kinds. -/
namespace Go.Proofs.Ytbldocbijihpgaa
set_option linter.unusedSimpArgs false
set_option linter.unusedVariables false
open Go.RowKit Mix _root_.Go.Proofs.Ytbldocbijihpgaa.Own PA Nl Sp By Np Go.Proofs.YtbldocbijihpgaaW.PrintWords
attribute [local go_sem] Own.max_int Own.min_int

/-- Bytes just built, made a text. -/
theorem conv_u8 {wb w : World} (hB : Below wb.heap.size wb w) (vs : List Int) (hv : ∀ x ∈ vs, 0 ≤ x ∧ x < 256) :
    (convert 45 9 (.slice (some ⟨w.heap.size, 0, none⟩) vs.length vs.length)).run Try.prog (w.alloc (.cells (vs.map fun x => Value.int .u8 x).toArray 5)) = .ok (.string (txt (vs.map Int.toNat))) (w.alloc (.cells (vs.map fun x => Value.int .u8 x).toArray 5)) ∧ Below wb.heap.size wb (w.alloc (.cells (vs.map fun x => Value.int .u8 x).toArray 5)) := by
  refine ⟨?_, hB.alloc hB.size _⟩
  have h := run_convert_bytes_back (P := Try.prog) (w.alloc (.cells (vs.map fun x => Value.int .u8 x).toArray 5)) 45 9 5 ⟨w.heap.size, 0, none⟩ vs.length ((vs.map Int.toNat).map UInt8.ofNat) Try.underlying45 Try.underlying5 Try.underlying9 (fun j hj => by
    have e : (⟨w.heap.size, 0, none⟩ : Addr).add j = ⟨w.heap.size, j, none⟩ := by unfold Addr.add; split <;> simp_all
    have hj2 : j < vs.length := by simpa using hj
    have hx := hv (vs[j]) (List.getElem_mem hj2)
    rw [e, World.cell?_alloc_new]
    simp [hj2]
    omega)
  simpa [txt] using h

set_option maxRecDepth 20000 in
set_option maxHeartbeats 40000000 in
theorem NormRuns_walk (a0 a1 : Int) (w : World) (w0 : (Lit.int .u8 a0).wf = true) (w1 : (Lit.int .u8 a1).wf = true) :
    Calls Try.prog 8 #[.int .u8 a0, .int .u8 a1] w fun e w' => e = .returned (.bool true) ∧ Below w.heap.size w w' := by
  obtain ⟨v, rfl, hv⟩ := u8_at w0
  obtain ⟨u, rfl, hu⟩ := u8_at w1
  clear w0 w1
  obtain ⟨i0, hi, hz0, hz1, hz2⟩ := info_partsI infoI64
  obtain ⟨ka, hka⟩ := awake12.rounds
  have HA := kept (fun wx => wringerlaw12_awake.calls ka true wx hka)
  have HE := kept (fun x wx => wringerlaw1_Err.calls x x wx rfl)
  obtain ⟨k, hk⟩ : ∃ k, k = v % 65 := ⟨_, rfl⟩
  obtain ⟨m, hm⟩ : ∃ m, m = 7 + u % 6 := ⟨_, rfl⟩
  obtain ⟨d, hd⟩ : ∃ d, d = m - 7 := ⟨_, rfl⟩
  have hk65 : k < 65 := by omega
  have h7 : 7 ≤ m := by omega
  have h12 : m ≤ 12 := by omega
  have ek : (v : Int) % 65 = (k : Int) := by omega
  have em : (7 : Int) + (u : Int) % 6 = (m : Int) := by omega
  have ed : (m : Int) - 7 = (d : Int) := by omega
  obtain ⟨P, hP⟩ : ∃ P, P = 2 ^ m := ⟨_, rfl⟩
  obtain ⟨D, hD⟩ : ∃ D, D = 2 ^ d := ⟨_, rfl⟩
  have hshl : wrap64 ((2 : Int) ^ m) = (P : Int) := by rw [hP]; exact shl_int m (by omega)
  have hDb : D ≤ 32 := by
    have h1 : d = 0 ∨ d = 1 ∨ d = 2 ∨ d = 3 ∨ d = 4 ∨ d = 5 := by omega
    rcases h1 with h | h | h | h | h | h <;> rw [hD, h] <;> decide
  have hshd : IntKind.u8.wrap ((2 : Int) ^ d) = (D : Int) := by
    have e : ((2 : Int) ^ d) = ((2 ^ d : Nat) : Int) := by simp
    rw [e, ← hD, IntKind.wrap_u8]; omega
  have hone := one_put k m hk65 h7 h12
  have hmay := one_may k m hk65 h7 h12
  obtain ⟨T, hT⟩ : ∃ T, T = txt (nputL (oneL k m)) := ⟨_, rfl⟩
  have hg1 := get_put hmay ByteArray.empty ByteArray.empty
  rw [← hT] at hg1
  have hTz : T.size ≤ 715 := by rw [hT]; have := put_size hmay; omega
  have hg2 := odd_get m h7 h12
  have hg3 := far_get m h7 h12
  rw [← hd, ← hD] at hg2 hg3
  have hg1' : getNE T 0 (m : Int) = (oneL k m, (T.size : Int), 0) := by
    have e1 : ByteArray.empty ++ T ++ ByteArray.empty = T := by apply bsOf_inj; rw [bsOf_append, bsOf_append]; simp [bsOf]
    have e2 : ByteArray.empty.size = 0 := rfl
    rw [e1, e2, Nat.zero_add] at hg1
    exact hg1
  have hol : (oneL k m).length = 65 := by unfold oneL; simp
  have hok : (oneL k m).getD k 0 = (P : Int) := by unfold oneL; rw [← hP]; simp [List.getD_eq_getElem?_getD, hk65]
  have HG1 := kept (fun wx => norm_Get.calls T 0 (m : Int) _ _ _ wx (by unfold norm_Get.f; rw [if_pos (by omega), hg1']))
  have HOL := kept hol
  have HOK := kept hok
  have HPU := kept (fun A c wx (hC : Kd.C (Kd.int .i64) wx A (oneL k m).length (oneL k m)) (hc : (oneL k m).length ≤ c) => norm_Put.calls A c (oneL k m) T wx hC hc (by
    unfold norm_Put.f
    rw [if_pos, hT]
    have := (mayN_is hmay).2.2.2
    exact ⟨fun x hx => by have := this x hx; omega, by omega⟩))
  rw [hol] at HPU
  have HG2 := kept (fun wx => norm_Get.calls (txt [128, D, 0, 10, 0, 52]) 0 (m : Int) _ _ _ wx (by unfold norm_Get.f; rw [if_pos (by rw [size_txt]; simp), hg2]))
  have HG3 := kept (fun wx => norm_Get.calls (txt [128, D, 0, 64]) 0 (m : Int) _ _ _ wx (by unfold norm_Get.f; rw [if_pos (by rw [size_txt]; simp), hg3]))
  have HONE := kept hone
  have HMAY := kept hmay
  have HT := kept hT
  have HTZ := kept hTz
  have HP := kept hP
  have hD2 : D = 2 ^ (m - 7) := by rw [hD, hd]
  have HD := kept hD2
  clear hol hok hg1' hka hg1 hg2 hg3 hone hmay hT hTz hP hD hD2 hk hm hd
  go_enter Try.func8, Try.ntmps8
  go_wp2_with (first | (refine wpList_mk1 rfl _ _ 24 rfl 3 i0 (.int .i64 0) 8 Try.underlying24 hi hz0 hz1 hz2 rfl .i64 .i64 _ _ 65 rfl rfl rfl rfl (by decide) (by decide) ?_))
  intro wa hO hb hlt
  obtain ⟨g, hg⟩ : ∃ g, g = w.heap.size := ⟨_, rfl⟩
  rw [← hg] at hO hlt ⊢
  have e0 : List.replicate 65 (Value.int .i64 0) = ints .i64 (List.replicate 65 0) := by unfold ints; rw [List.map_replicate]
  have hO1 : Owns wa 3 (.slice (some ⟨g, 0, none⟩) 65 65) (ints .i64 (List.replicate 65 0)) := by rw [← e0]; exact hO
  have k1 := hO1.cell (j := k) (Own.ints_at .i64 _ k (by simpa using hk65))
  have f1 := hO1.free k
  have hO2 := hO1.store k (.int .i64 (P : Int))
  rw [← ints_set] at hO2
  have HB2 := kept (hb.setCell (p := ⟨g, k, none⟩) (Nat.le_of_eq hg.symm) (.int .i64 (P : Int)))
  have HO2 := kept hO2
  have HG := kept hg
  clear hO hO1 hO2 hb e0 hlt hg
  go_upto_if 34 with fail
  generalize hwb : World.setCell wa _ _ = wb at *
  have HOb := HO2
  have HBb := HB2
  have hrf := Below.refl wb.heap.size wb
  clear hwb HO2 HB2 k1 f1
  clear hi hz0 hz1 hz2
  rw [hshl]
  go_cut [8] from 33 to 39 (fun s8 wx => s8 = .string (txt (headB k)) ∧ Below wb.heap.size wb wx)
  case first =>
    by_cases h0 : 0 < k
    · have eh : headB k = [0, k - 1] := by unfold headB; rw [if_pos h0]
      obtain ⟨hc, hb⟩ := conv_u8 hrf [0, (k : Int) - 1] (by intro x hx; simp at hx; omega)
      have hc2 : (convert 45 9 (.slice (some ⟨wb.heap.size, 0, none⟩) 2 2)).run Try.prog (wb.alloc (.cells #[.int .u8 0, .int .u8 ((k : Int) - 1)] 5)) = .ok (.string (txt [0, k - 1])) (wb.alloc (.cells #[.int .u8 0, .int .u8 ((k : Int) - 1)] 5)) := by
        have e : ([0, (k : Int) - 1].map Int.toNat) = [0, k - 1] := by simp
        rw [e] at hc; exact hc
      have HC2 := kept hc2
      have HB := kept hb
      have HEH := kept eh
      clear hc hc2 hb eh
      go_wp2_with fail
      rw [HC2.out]
      simp only [Result.andThen]
      rw [Oper.upon_value]
      go_wp2_with fail
      go_meet
      case rel => exact ⟨by rw [HEH.out], HB.out⟩
    · have eh : headB k = [] := by unfold headB; rw [if_neg h0]
      have HEH := kept eh
      clear eh
      go_wp2_with fail
      go_meet
      case rel => exact ⟨by rw [HEH.out]; rfl, hrf⟩
  case rest =>
    obtain ⟨rfl, hb⟩ := hcut
    obtain ⟨wd, rfl⟩ : ∃ wd, wd = wc := ⟨wc, rfl⟩
    obtain ⟨hc, hb2⟩ := conv_u8 hb [128, (D : Int)] (by intro x hx; simp at hx; omega)
    have hc2 : (convert 45 9 (.slice (some ⟨wd.heap.size, 0, none⟩) 2 2)).run Try.prog (wd.alloc (.cells #[.int .u8 128, .int .u8 (D : Int)] 5)) = .ok (.string (txt [128, D])) (wd.alloc (.cells #[.int .u8 128, .int .u8 (D : Int)] 5)) := hc
    have HC2 := kept hc2
    have HB := kept hb2
    obtain ⟨T0, hT0⟩ : ∃ T0, T0 = txt (headB k) := ⟨_, rfl⟩
    obtain ⟨T1, hT1⟩ : ∃ T1, T1 = txt [128, D] := ⟨_, rfl⟩
    have z0 : T0.size ≤ 2 := by rw [hT0, size_txt]; unfold headB; split <;> simp
    have z1 : T1.size ≤ 2 := by rw [hT1, size_txt]; simp
    rw [← hT1] at HC2
    rw [← hT0]
    have nb : ¬ 9223372036854775807 < T0.size + T1.size := by omega
    have HT0 := kept hT0
    have HT1 := kept hT1
    clear hc hc2 hb hb2 hT0 hT1 hrf
    go_wp2_with fail
    rw [HC2.out]
    simp only [Result.andThen]
    rw [Oper.upon_value]
    have hbk : Below wb.heap.size wb (wd.alloc (.cells #[.int .u8 128, .int .u8 (D : Int)] 5)) := HB.out
    clear HC2 HB
    generalize World.alloc wd _ = wf at hbk ⊢
    go_upto_if 48 with fail
    go_cut [8] from 47 to 55 (fun s8 wx => s8 = .string T ∧ Below wb.heap.size wb wx)
    case first =>
      have hTT : T0 ++ T1 ++ txt (tailB k) = T := by rw [HT.out, HT0.out, HT1.out, HONE.out, ← HD.out, txt_append, txt_append]
      have HTT := kept hTT
      clear hTT
      by_cases h0 : k < 64
      · have eh : tailB k = [0, 63 - k] := by unfold tailB; rw [if_pos h0]
        obtain ⟨hc, hb⟩ := conv_u8 hbk [0, 63 - (k : Int)] (by intro x hx; simp at hx; omega)
        have hc2 : (convert 45 9 (.slice (some ⟨wf.heap.size, 0, none⟩) 2 2)).run Try.prog (wf.alloc (.cells #[.int .u8 0, .int .u8 (63 - (k : Int))] 5)) = .ok (.string (txt [0, 63 - k])) (wf.alloc (.cells #[.int .u8 0, .int .u8 (63 - (k : Int))] 5)) := by
          have e : ([0, 63 - (k : Int)].map Int.toNat) = [0, 63 - k] := by simp
          rw [e] at hc; exact hc
        obtain ⟨T2, hT2⟩ : ∃ T2, T2 = txt [0, 63 - k] := ⟨_, rfl⟩
        have z2 : T2.size ≤ 2 := by rw [hT2, size_txt]; simp
        rw [← hT2] at hc2
        rw [eh, ← hT2] at HTT
        have nb2 : ¬ 9223372036854775807 < T0.size + T1.size + T2.size := by omega
        have HC2 := kept hc2
        have HB := kept hb
        clear hc hc2 hb eh hT2
        go_wp2_with fail
        rw [HC2.out]
        simp only [Result.andThen]
        rw [Oper.upon_value]
        go_wp2_with fail
        go_meet
        case rel => exact ⟨by rw [HTT.out], HB.out⟩
      · have eh : tailB k = [] := by unfold tailB; rw [if_neg h0]
        rw [eh] at HTT
        have e2 : T0 ++ T1 = T := by rw [← HTT.out]; apply bsOf_inj; rw [bsOf_append]; simp [txt, bsOf]
        have HE2 := kept e2
        clear eh e2
        go_wp2_with fail
        go_meet
        case rel => exact ⟨by rw [HE2.out], hbk⟩
    case rest =>
      obtain ⟨rfl, hb⟩ := hcut
      obtain ⟨wg, rfl⟩ : ∃ wg, wg = wc := ⟨wc, rfl⟩
      clear hbk z0 z1 nb HT0 HT1
      obtain ⟨hc, hb2⟩ := conv_u8 hb [128, (D : Int), 0, 10, 0, 52] (by intro x hx; simp at hx; omega)
      have hc2 : (convert 45 9 (.slice (some ⟨wg.heap.size, 0, none⟩) 6 6)).run Try.prog (wg.alloc (.cells #[.int .u8 128, .int .u8 (D : Int), .int .u8 0, .int .u8 10, .int .u8 0, .int .u8 52] 5)) = .ok (.string (txt [128, D, 0, 10, 0, 52])) (wg.alloc (.cells #[.int .u8 128, .int .u8 (D : Int), .int .u8 0, .int .u8 10, .int .u8 0, .int .u8 52] 5)) := hc
      have HC2 := kept hc2
      have HB := kept hb2
      clear hc hc2 hb hb2
      go_wp2_with fail
      rw [HC2.out]
      simp only [Result.andThen]
      rw [Oper.upon_value]
      have hbh : Below wb.heap.size wb (wg.alloc (.cells #[.int .u8 128, .int .u8 (D : Int), .int .u8 0, .int .u8 10, .int .u8 0, .int .u8 52] 5)) := HB.out
      clear HC2 HB
      generalize World.alloc wg _ = wh at hbh ⊢
      obtain ⟨hc, hb2⟩ := conv_u8 hbh [128, (D : Int), 0, 64] (by intro x hx; simp at hx; omega)
      have hc2 : (convert 45 9 (.slice (some ⟨wh.heap.size, 0, none⟩) 4 4)).run Try.prog (wh.alloc (.cells #[.int .u8 128, .int .u8 (D : Int), .int .u8 0, .int .u8 64] 5)) = .ok (.string (txt [128, D, 0, 64])) (wh.alloc (.cells #[.int .u8 128, .int .u8 (D : Int), .int .u8 0, .int .u8 64] 5)) := hc
      have HC2 := kept hc2
      have HB := kept hb2
      clear hc hc2 hb2 hbh
      go_wp2_with fail
      rw [HC2.out]
      simp only [Result.andThen]
      rw [Oper.upon_value]
      have hbh : Below wb.heap.size wb (wh.alloc (.cells #[.int .u8 128, .int .u8 (D : Int), .int .u8 0, .int .u8 64] 5)) := HB.out
      clear HC2 HB
      generalize World.alloc wh _ = wi at hbh ⊢
      have HBi := kept hbh
      clear hbh
      go_wp2_with fail
      refine (HG2.out _).mono ?_
      rintro e w1 ⟨v1, rfl, _, hb1⟩
      have HB1 := kept (HBi.out.trans (hb1.mono HBi.out.size))
      clear hb1
      go_wp2_with fail
      refine (HG3.out _).mono ?_
      rintro e w2 ⟨v2, rfl, _, hb2⟩
      have HB2 := kept (HB1.out.trans (hb2.mono HB1.out.size))
      clear hb2
      go_wp2_with fail
      refine (HG1.out _).mono ?_
      rintro e w3 ⟨v3, rfl, hr3, hb3⟩
      obtain ⟨A3, c3, rfl⟩ := Kd.R_slice hr3
      rw [HOL.out] at hr3 ⊢
      have hq3 := Kd.R_reads' hr3
      rw [HOL.out] at hq3
      have HC3 := kept hq3.2.2
      have HB3 := kept (HB2.out.trans (hb3.mono HB2.out.size))
      clear hb3 hr3 hq3
      go_upto_region 16 with fail
      have hC3 : Kd.C (Kd.int .i64) w3 A3 (oneL k m).length (oneL k m) := by rw [HOL.out]; exact HC3.out
      obtain ⟨x3, rfl, hx3⟩ := (Own.rd_of_C hC3).at (Own.ints_at .i64 (oneL k m) k (by rw [HOL.out]; exact hk65))
      rw [HOK.out] at hx3
      have hCg : Kd.C (Kd.int .i64) wb (some ⟨g, 0, none⟩) 65 (oneL k m) := by
        have h := HOb.out
        have e : (List.replicate 65 (0 : Int)).set k (P : Int) = oneL k m := by unfold oneL; rw [HP.out]
        rw [e] at h
        exact C_of_rd h.rd
      have hlx := lat_cell hx3
      have HLP := kept (fun n : Lat w3 => (HPU.out (some ⟨g, 0, none⟩) 65 n.w (Kd.C_below hCg (HB3.out.trans (n.below.mono HB3.out.size))) (Nat.le_refl _)).mono fun e w' ⟨he, hd⟩ => (⟨he, hd⟩ : _ ∧ Below n.w.heap.size n.w w'))
      have HLE := kept (fun (x : Int) (n : Lat w3) => (HE.out x n.w).mono fun e w' ⟨he, hd⟩ => (⟨he, hd.below⟩ : _ ∧ Below n.w.heap.size n.w w'))
      have HLA := kept (fun n : Lat w3 => HA.out n.w)
      clear hCg hx3 hC3 HC3
      refine wp_region_quietL (by kernel_rfl) (by kernel_rfl) ?_
      repeat (go_big_quiet_step (first | (go_at_call 14; exact lat_call (HLE.out _ _)) | (go_at_call 19; exact lat_call (HLP.out _)) | (go_at_call 9; exact lat_call (HLA.out _))))
      refine wpQuiet_nil ?_
      intro nq
      go_wp2_with fail
      go_ret
      exact ⟨rfl, HBb.out.trans ((HB3.out.trans (nq.below.mono HB3.out.size)).mono HBb.out.size)⟩
end Go.Proofs.Ytbldocbijihpgaa

-- ---- LawNormRuns
/- The law NormRuns holds of the program, for every input; each argument reads behind the call as it read before. Conditions: none. -/
namespace Go.Proofs.Ytbldocbijihpgaa.normRuns
open Go.ChangeShapes Go.WideShapes Go.ChangeAt Go.RowKit
open Go.ChangeMaps (open_string shut_string)
set_option linter.unusedVariables false
theorem own : ownKnob Try.prog.godebug = none := by kernel_rfl
set_option maxRecDepth 100000 in
theorem lifted (os : Os) (started : os.Started) (H : Type) (enc : TypeId × Value → H) :
    ReturnsInHanded {} Try.checked os 8 .any (Rows.normRunsSpec.pre6 enc Try.prog Try.f8 Rows.normRunsRow.domain false) (Rows.normRunsSpec.post enc Try.prog Try.f8 false true false false) := by
  refine returnsInHanded_of_change_sized (C := Try.checked) own started (by kernel_rfl) Try.func8
    (ChangeSpec.witness6 (enc := enc) (C := Try.checked) false ⟨#[], #[.int .u8 0, .int .u8 0], []⟩ 8 (by kernel_rfl) (by kernel_rfl) (by kernel_rfl) (by kernel_rfl)) ?_
  intro W base args ds gs before hval0 hW hcnd hsz0 _
  have hsz : (DataW.weightsEach Try.prog (Try.f8.params.toList ++ Rows.normRunsSpec.plain.varTypes Try.prog) (ds ++ gs)).all (· ≤ reachBytes) = true := hsz0
  have hval : ∀ (j : Nat) t v, Try.f8.params[j]? = some t → args[j]? = some v → Value.okWide Try.prog W .any base t v := hval0
  have hW' := hW
  obtain ⟨p, q, hA0, hV, rfl, hfz, hnd⟩ := hW
  have hA : DataW.TrodAll enc Try.prog W 0 (fun _ => true) true Try.f8.params.toList args.toList ds p := hA0
  rw [Try.params8] at hA hval hsz
  obtain ⟨v0, vs0, d0, ds0, p0, q0, hargs, rfl, rfl, h0, r0⟩ := trodAll_cons hA
  obtain ⟨v1, vs1, d1, ds1, p1, q1, rfl, rfl, rfl, h1, r1⟩ := trodAll_cons r0
  obtain ⟨rfl, rfl, rfl⟩ := trodAll_nil r1
  obtain rfl : args = #[v0, v1] := by cases args; simp_all
  obtain ⟨rfl, rfl⟩ := trodVars_none hV
  obtain ⟨a0, rfl, rfl, rfl, w0⟩ := open_int Try.underlying5 (hval 0 5 v0 rfl rfl) h0
  obtain ⟨a1, rfl, rfl, rfl, w1⟩ := open_int Try.underlying5 (hval 1 5 v1 rfl rfl) h1
  clear hA0 hval0 hsz0 hsz
  refine (NormRuns_walk a0 a1 W w0 w1).mono fun e W' ⟨he, bel⟩ => ?_
  subst he
  exact ⟨_, rfl, _, _, _, [], _, [], hW', trodAll_mk1 (shut_bool Try.underlying4 _), (trodAll_cons_mk (shut_int Try.underlying5 w0) (trodAll_cons_mk (shut_int Try.underlying5 w1) trodAll_mk0)), rfl, bel.frame _, fun h => by cases h⟩
theorem over : Rows.normRunsRow.holds Try.pinned (OpenSpec.ofChange Rows.normRunsSpec) :=
  OpenClaim.holds_of_wide 8 Try.f8 rfl rfl rfl rfl rfl rfl rfl ⟨rfl, rfl, rfl, rfl, rfl⟩ rfl rfl rfl rfl rfl (by kernel_rfl) Try.func8 (by kernel_rfl)
    (of_decide_eq_true (by kernel_rfl)) (by unfold Func.isWrapper; first | (rw [if_pos (by decide +kernel)]; kernel_rfl) | (rw [if_neg (by decide +kernel)]; exact ⟨rfl, rfl⟩))
    (fun os started H enc _ => lifted os started H enc)
theorem proved : Rows.NormRunsSaid := over
#print axioms proved
end Go.Proofs.Ytbldocbijihpgaa.normRuns
namespace Go.Proofs.Ytbldocbijihpgaa
/-- The row, under a short name. -/
theorem normRuns_holds : Rows.NormRunsSaid := normRuns.proved
end Go.Proofs.Ytbldocbijihpgaa
