/- Part B2 of what the layer's laws stand on: Ne, Nf, Ub, Ng, Nm, PAx0, PAx17, PAx18, Uf, Nn, PAx13, PAx14, PAx3, PAx15, PAx16, PAx20, PAx29, PAx35, Sp, Uq, Ua, Um, Uo. Written by a program (merge.py) out of this session's own texts and of what the kit's print wrote over stand-ins (sp.py). Conditions: those that each theorem names. -/
import Derived.Test.YtbldocbijihpgaaQB1
import Derived.Test.YtbldocbijihpgaaWMore
import Derived.Test.YtbldocbijihpgaaWLast
import Derived.WalkKit
import Derived.Test.YtbldocbijihpgaaProg
import Derived.Below
import Derived.Deep.Draws
import Derived.Deep.AppendLies
import Derived.Maps.AppendAt
import Derived.OwnWalk
import Derived.Laws.BytesArg
import Derived.Laws.MakeOwn
import Derived.Laws.OwnMore
import Derived.Deep.OwnRows
import Derived.Tactics
import Derived.Lib.ConvBytes
import Derived.Laws.Slices
import Derived.KernelRfl
import Derived.RowKit3
import Derived.Deep.LoopGhost
import Derived.Deep.QuietTactic
import Derived.BigQuiet
import Derived.WideLaws
import Derived.Deep.DeepCutAuto
import Derived.Deep.CutBlock
import Derived.Deep.RegionHeld3
import Derived.Laws.Rows
import Derived.Lib.AppendStr
import Derived.ArgAppend
import Derived.Laws.IdiomCopy
import Derived.OrdersHeld
import Derived.Laws.BitsLemmas
import Derived.RowKit
import Derived.Test.YtbldocbijihpgaaWWords
import Derived.Test.YtbldocbijihpgaaWTab
import Derived.Test.YtbldocbijihpgaaWFour
import Derived.Test.YtbldocbijihpgaaWQPut
import Derived.Test.YtbldocbijihpgaaWApart
import Derived.Test.YtbldocbijihpgaaWArr
import Derived.Test.YtbldocbijihpgaaWZeros
import Derived.Test.YtbldocbijihpgaaWFoot
import Derived.Test.YtbldocbijihpgaaWKept
import Derived.Test.YtbldocbijihpgaaWShare
import Derived.Test.YtbldocbijihpgaaWN
import Derived.Test.YtbldocbijihpgaaWFootNe
import Derived.Test.YtbldocbijihpgaaWAt
import Derived.Test.YtbldocbijihpgaaWEqStruct
import Derived.Test.YtbldocbijihpgaaWRepsOne
import Derived.Test.YtbldocbijihpgaaWInv
import Derived.Test.YtbldocbijihpgaaWInvWords
import Derived.Test.YtbldocbijihpgaaWGuard
import Derived.Test.YtbldocbijihpgaaWNEv
-- ---- Ne
/- norm.Of's helpers: whether a frequency is none, and a sum. Conditions: the list reads as the argument does. -/
namespace Go.Proofs.Ytbldocbijihpgaa.NormF
set_option linter.unusedSimpArgs false
set_option linter.unusedVariables false
open Go.RowKit Mix _root_.Go.Proofs.Ytbldocbijihpgaa.Own Hp Ol Nl

/-- No frequency. -/
def badF (x : Int) : Bool := decide (x < 0) || decide (16777216 < x)
theorem may1_calls (x : Int) (w : World) : Calls Try.prog 22 #[.int .i64 x] w fun e w' => e = .returned (.bool (badF x)) ∧ w = w' := by
  by_cases h1 : x < 0
  · have t1 : decide (x < 0) = true := decide_eq_true h1
    have HB := kept (show badF x = true by unfold badF; rw [t1]; rfl)
    go_enter Try.func22, Try.ntmps22
    go_wp2_with fail
    go_ret
    exact ⟨by rw [HB.out]; rfl, rfl⟩
  · have t1 : decide (x < 0) = false := decide_eq_false h1
    by_cases h2 : 16777216 < x
    · have t2 : decide (16777216 < x) = true := decide_eq_true h2
      have HB := kept (show badF x = true by unfold badF; rw [t1, t2]; rfl)
      go_enter Try.func22, Try.ntmps22
      go_wp2_with fail
      go_ret
      exact ⟨by rw [HB.out]; rfl, rfl⟩
    · have t2 : decide (16777216 < x) = false := decide_eq_false h2
      have HB := kept (show badF x = false by unfold badF; rw [t1, t2]; rfl)
      go_enter Try.func22, Try.ntmps22
      go_wp2_with fail
      go_ret
      exact ⟨by rw [HB.out]; rfl, rfl⟩

/-- Whether one of them is bad, as an index. -/
def IdxE (l : List Int) (w : World) (e : Ending) (w' : World) : Prop := (∃ r : Int, e = .returned (.int .i64 r) ∧ decide (0 ≤ r) = l.any badF) ∧ w = w'
set_option maxHeartbeats 2000000 in
theorem idxf_calls (A0 : Option Addr) (n0 c0 : Nat) (l0 : List Int) (w : World) (hR : Rd w (.slice A0 n0 n0) (ints .i64 l0)) (hn : n0 < 200000000000000) :
    Calls Try.prog 37 #[.slice A0 n0 c0, .func (.func 22) #[] #[]] w (IdxE l0 w) := by
  have hl : l0.length = n0 := by have := hR.length; rw [length_ints] at this; exact this.symm
  have HR := kept hR
  have HL := kept hl
  clear hR hl
  go_enter Try.func37, Try.ntmps37
  go_wp2_with fail
  go_loop [8] (fun s8 => ∃ i : Nat, i ≤ n0 ∧ s8 = .int .i64 (i : Int) ∧ ∀ j, j < i → badF (l0.getD j 0) = false) (fun s8 => n0 - (intOf s8).toNat)
  case atStart => exact ⟨0, Nat.zero_le _, rfl, fun j h => by omega⟩
  case round =>
    obtain ⟨i, hi, rfl, hall⟩ := hrel
    have HAll := kept hall
    clear hall
    by_cases hlt : i < n0
    · obtain ⟨x, rfl, hc⟩ := HR.out.at (Own.ints_at .i64 l0 i (by rw [HL.out]; exact hlt))
      obtain ⟨y, hy⟩ : ∃ y, y = l0.getD i 0 := ⟨_, rfl⟩
      rw [← hy] at hc
      cases hb : badF y with
      | true =>
        have HY := kept hy
        have HB := kept hb
        clear hy hb
        go_wp2_with (first | (go_at_call 22; refine (may1_calls y _).mono ?_; rw [HB.out]; rintro e w1 ⟨rfl, rfl⟩))
        go_ret
        refine ⟨⟨_, rfl, ?_⟩, rfl⟩
        have h1 : l0.any badF = true := List.any_eq_true.2 ⟨y, by rw [HY.out]; have : i < l0.length := by rw [HL.out]; exact hlt
                                                                  simp [List.getD_eq_getElem?_getD, this], HB.out⟩
        rw [h1]; exact decide_eq_true (by omega)
      | false =>
        have HY := kept hy
        have HB := kept hb
        clear hy hb
        go_wp2_with (first | (go_at_call 22; refine (may1_calls y _).mono ?_; rw [HB.out]; rintro e w1 ⟨rfl, rfl⟩))
        go_round
        case rel => exact ⟨i + 1, by omega, by go_num, fun j hj => by
          by_cases e : j = i
          · rw [e, ← HY.out]; exact HB.out
          · exact HAll.out j (by omega)⟩
        case measure => simp [intOf]; omega
    · have hie : i = n0 := by omega
      subst hie
      go_wp2_with fail
      go_ret
      refine ⟨⟨_, rfl, ?_⟩, rfl⟩
      have h1 : l0.any badF = false := by
        rw [Bool.eq_false_iff]
        intro h
        obtain ⟨y, hy, hb⟩ := List.any_eq_true.1 h
        obtain ⟨j, hj, e⟩ := List.getElem_of_mem hy
        have := HAll.out j (by rw [← HL.out]; exact hj)
        rw [show l0.getD j 0 = y by simp [List.getD_eq_getElem?_getD, hj, e]] at this
        rw [this] at hb; cases hb
      rw [h1]; rfl

theorem contf_calls (A0 : Option Addr) (n0 c0 : Nat) (l0 : List Int) (w : World) (hR : Rd w (.slice A0 n0 n0) (ints .i64 l0)) (hn : n0 < 200000000000000) :
    Calls Try.prog 21 #[.slice A0 n0 c0, .func (.func 22) #[] #[]] w fun e w' => e = .returned (.bool (l0.any badF)) ∧ w = w' := by
  have HC := kept (idxf_calls A0 n0 c0 l0 w hR hn)
  clear hR
  go_enter Try.func21, Try.ntmps21
  go_wp2_with (first | (go_at_call 37; refine HC.out.mono ?_; rintro e w1 ⟨⟨r, rfl, hr⟩, rfl⟩; have HRr := kept hr; clear hr))
  go_ret
  exact ⟨by rw [HRr.out]; rfl, rfl⟩


theorem any_bad (l0 : List Int) : l0.any badF = false ↔ ∀ x ∈ l0, 0 ≤ x ∧ x ≤ 16777216 := by
  rw [Bool.eq_false_iff, Ne, List.any_eq_true]
  constructor
  · intro h x hx
    have h2 : badF x ≠ true := fun e => h ⟨x, hx, e⟩
    unfold badF at h2
    simp at h2
    omega
  · rintro h ⟨x, hx, hb⟩
    have := h x hx
    unfold badF at hb
    simp at hb
    omega

set_option maxHeartbeats 2000000 in
theorem sum_calls (A0 : Option Addr) (n0 c0 : Nat) (l0 : List Int) (w : World) (hR : Rd w (.slice A0 n0 n0) (ints .i64 l0)) (hn : n0 < 200000000000000) (hb : ∀ i, i ≤ n0 → 0 ≤ (l0.take i).sum ∧ (l0.take i).sum ≤ 4000000000000) :
    Calls Try.prog 24 #[.slice A0 n0 c0] w fun e w' => e = .returned (.int .i64 l0.sum) ∧ w = w' := by
  have hl : l0.length = n0 := by have := hR.length; rw [length_ints] at this; exact this.symm
  have HR := kept hR
  have HL := kept hl
  have HBd := kept hb
  clear hR hl hb
  go_enter Try.func24, Try.ntmps24
  go_wp2_with fail
  go_loop [3, 8] (fun s3 s8 => ∃ (i : Nat) (a : Int), i ≤ n0 ∧ s8 = .int .i64 (i : Int) ∧ s3 = .int .i64 a ∧ a = (l0.take i).sum) (fun _ s8 => n0 - (intOf s8).toNat)
  case atStart => exact ⟨0, 0, Nat.zero_le _, rfl, rfl, rfl⟩
  case round =>
    obtain ⟨i, a, hi, rfl, rfl, ha⟩ := hrel
    by_cases hlt : i < n0
    · have hil : i < l0.length := by rw [HL.out]; exact hlt
      obtain ⟨x, rfl, hc⟩ := HR.out.at (Own.ints_at .i64 l0 i hil)
      have hts := take_sum l0 i hil
      have hb1 := HBd.out i hi
      have hb2 := HBd.out (i + 1) (by omega)
      obtain ⟨y, hy⟩ : ∃ y, y = l0.getD i 0 := ⟨_, rfl⟩
      rw [← hy] at hc hts
      obtain ⟨z, hz⟩ : ∃ z, z = a + y := ⟨_, rfl⟩
      have hz2 : z = (l0.take (i + 1)).sum := by rw [hts, hz, ha]
      have hza : 0 ≤ a + y ∧ a + y ≤ 4000000000000 := by rw [← hz, hz2]; exact hb2
      have HZ : Kept (a + y = (l0.take (i + 1)).sum) := kept (by rw [← hz]; exact hz2)
      obtain ⟨hza1, hza2⟩ := hza
      clear hts hb1 hb2 hy hz hz2 ha
      go_wp2_with fail
      go_round
      case rel => exact ⟨i + 1, a + y, by omega, by go_num, by go_num, HZ.out⟩
      case measure => simp [intOf]; omega
    · have hin : i = n0 := by omega
      subst hin
      have HA : Kept (a = l0.sum) := kept (by rw [ha, ← HL.out, List.take_length])
      clear ha
      go_wp2_with fail
      go_ret
      exact ⟨by rw [HA.out]; rfl, rfl⟩
end Go.Proofs.Ytbldocbijihpgaa.NormF

-- ---- Nf
/- norm.Of where nothing may be normed: the error. Conditions: the list reads as the argument does. -/
namespace Go.Proofs.Ytbldocbijihpgaa.NormF
set_option linter.unusedSimpArgs false
set_option linter.unusedVariables false
open Go.RowKit Mix _root_.Go.Proofs.Ytbldocbijihpgaa.Own Hp Ol Nl

theorem mayLog_calls (a : Int) (w : World) : Calls Try.prog 23 #[.int .i64 a] w fun e w' => e = .returned (.bool (decide (7 ≤ a) && decide (a ≤ 12))) ∧ w = w' := by
  by_cases h1 : 7 ≤ a
  · have t1 : decide (7 ≤ a) = true := decide_eq_true h1
    by_cases h2 : a ≤ 12
    · have t2 : decide (a ≤ 12) = true := decide_eq_true h2
      have HE := kept (show (decide (7 ≤ a) && decide (a ≤ 12)) = true by rw [t1, t2]; rfl)
      go_enter Try.func23, Try.ntmps23
      go_wp2_with fail
      go_ret
      exact ⟨by first | rfl | (rw [HE.out]; rfl), rfl⟩
    · have t2 : decide (a ≤ 12) = false := decide_eq_false h2
      have HE := kept (show (decide (7 ≤ a) && decide (a ≤ 12)) = false by rw [t1, t2]; rfl)
      go_enter Try.func23, Try.ntmps23
      go_wp2_with fail
      go_ret
      exact ⟨by first | rfl | (rw [HE.out]; rfl), rfl⟩
  · have t1 : decide (7 ≤ a) = false := decide_eq_false h1
    have HE := kept (show (decide (7 ≤ a) && decide (a ≤ 12)) = false by rw [t1]; rfl)
    go_enter Try.func23, Try.ntmps23
    go_wp2_with fail
    go_ret
    exact ⟨by first | rfl | (rw [HE.out]; rfl), rfl⟩

/-- Sums of what may be asked stay small. -/
theorem take_bd (l0 : List Int) (h : ∀ x ∈ l0, 0 ≤ x ∧ x ≤ 16777216) : ∀ i, i ≤ l0.length → 0 ≤ (l0.take i).sum ∧ (l0.take i).sum ≤ 16777216 * (i : Int) := by
  intro i
  induction i with
  | zero => intro _; simp
  | succ i ih =>
    intro hi
    have h1 := ih (by omega)
    have h2 := take_sum l0 i (by omega)
    have h3 := h (l0.getD i 0) (getD_mem (by omega))
    rw [h2]; omega

set_option maxHeartbeats 2000000 in
theorem norm_bad (A0 : Option Addr) (n0 c0 : Nat) (l0 : List Int) (a1 : Int) (w : World) (hR : Rd w (.slice A0 n0 n0) (ints .i64 l0)) (hn : n0 < 200000000000000) (hb : ¬ (frB l0 = true ∧ 7 ≤ a1 ∧ a1 ≤ 12)) :
    Calls Try.prog 11 #[.slice A0 n0 c0, .int .i64 a1] w fun e w' => e = .returned (.tuple #[.slice none 0 0, .int .i64 1]) ∧ w = w' := by
  have hl : l0.length = n0 := by have := hR.length; rw [length_ints] at this; exact this.symm
  have HC := kept (contf_calls A0 n0 c0 l0 w hR hn)
  by_cases h65 : n0 = 65
  · subst h65
    obtain ⟨b, hbb⟩ : ∃ b, b = l0.any badF := ⟨_, rfl⟩
    rw [← hbb] at HC
    cases b with
    | true =>
      clear hR hl hbb hb
      go_enter Try.func11, Try.ntmps11
      go_wp2_with (first | (go_at_call 21; refine HC.out.mono ?_; rintro e w1 ⟨rfl, rfl⟩))
      exact bodyPost_ret (results_tmp2 rfl _ _ _) rfl ⟨rfl, rfl⟩
    | false =>
      have hall := (any_bad l0).1 hbb.symm
      have hM := mayLog_calls a1 w
      obtain ⟨q, hq⟩ : ∃ q, q = (decide (7 ≤ a1) && decide (a1 ≤ 12)) := ⟨_, rfl⟩
      rw [← hq] at hM
      have HM := kept hM
      cases q with
      | false =>
        clear hR hl hbb hb hall hq hM
        go_enter Try.func11, Try.ntmps11
        go_wp2_with (first | (go_at_call 21; refine HC.out.mono ?_; rintro e w1 ⟨rfl, rfl⟩) | (go_at_call 23; refine HM.out.mono ?_; rintro e w1 ⟨rfl, rfl⟩))
        exact bodyPost_ret (results_tmp2 rfl _ _ _) rfl ⟨rfl, rfl⟩
      | true =>
        have h7 : 7 ≤ a1 ∧ a1 ≤ 12 := by
          rw [eq_comm, Bool.and_eq_true, decide_eq_true_eq, decide_eq_true_eq] at hq; exact hq
        have hbd := take_bd l0 hall
        have h0 : l0.sum = 0 := by
          have h1 := hbd 65 (by omega)
          rw [show (65 : Nat) = l0.length from hl.symm, List.take_length] at h1
          apply Classical.byContradiction
          intro hne
          refine hb ⟨?_, h7⟩
          unfold frB; rw [decide_eq_true_eq]
          exact ⟨hl, hall, by omega⟩
        have HS := kept (sum_calls A0 65 c0 l0 w hR (by decide) (fun i hi => by have := hbd i (by omega); omega))
        rw [h0] at HS
        clear hR hl hbb hb hall hq hM hbd h0 h7
        go_enter Try.func11, Try.ntmps11
        go_wp2_with (first | (go_at_call 21; refine HC.out.mono ?_; rintro e w1 ⟨rfl, rfl⟩) | (go_at_call 23; refine HM.out.mono ?_; rintro e w1 ⟨rfl, rfl⟩) | (go_at_call 24; refine HS.out.mono ?_; rintro e w1 ⟨rfl, rfl⟩))
        exact bodyPost_ret (results_tmp2 rfl _ _ _) rfl ⟨rfl, rfl⟩
  · have t65 : ((n0 : Int) != 65) = true := by rw [bne_iff_ne]; omega
    obtain ⟨b, hbb⟩ : ∃ b, b = l0.any badF := ⟨_, rfl⟩
    rw [← hbb] at HC
    clear hR hl hbb hb h65
    go_enter Try.func11, Try.ntmps11
    go_wp2_with (first | (go_at_call 21; refine HC.out.mono ?_; rintro e w1 ⟨rfl, rfl⟩))
    exact bodyPost_ret (results_tmp2 rfl _ _ _) rfl ⟨rfl, rfl⟩
end Go.Proofs.Ytbldocbijihpgaa.NormF

-- ---- Ub
/- Words of the print's plain functions: small facts. No program in sight. -/
namespace Go.Proofs.Ytbldocbijihpgaa.PA
set_option linter.unusedVariables false
set_option linter.unusedSimpArgs false
open Go.RowKit Go.Proofs.YtbldocbijihpgaaW.PrintWords Go.Proofs.YtbldocbijihpgaaW.PrintLast Go.Proofs.YtbldocbijihpgaaW.PrintMore

theorem w64 {x : Int} (h1 : -9223372036854775808 ≤ x) (h2 : x ≤ 9223372036854775807) : wrap64 x = x := by unfold wrap64; omega
theorem rd_nat (xs : List Int) (i : Nat) : rd xs (i : Int) = xs.getD i 0 := by unfold rd; rw [Int.toNat_natCast]
theorem pow2_le (k m : Nat) (h : k ≤ m) : 2 ^ k ≤ 2 ^ m := Nat.pow_le_pow_right (by decide) h
theorem i64_wrap_nat (n : Nat) (h : n < 9223372036854775808) : IntKind.i64.wrap (n : Int) = (n : Int) := by
  simp [IntKind.wrap, IntKind.bits, IntKind.signed]; omega
theorem shl_nat (x k : Nat) (hk : k ≤ 62) (h : x * 2 ^ k < 9223372036854775808) : shl .i64 (x : Int) (k : Int) = ((x * 2 ^ k : Nat) : Int) := by
  unfold shl
  have e : min ((k : Int).toNat) (IntKind.bits .i64) = k := by simp [IntKind.bits]; omega
  rw [e]
  have e2 : (x : Int) * 2 ^ k = ((x * 2 ^ k : Nat) : Int) := by simp
  rw [e2, i64_wrap_nat _ h]
theorem shl_1 (k : Nat) (hk : k ≤ 62) : shl .i64 1 (k : Int) = ((2 ^ k : Nat) : Int) := by
  have h := shl_nat 1 k hk (by have := pow2_le k 62 hk; rw [Nat.one_mul]; have e : 2 ^ 62 = 4611686018427387904 := by decide
                               omega)
  rw [Nat.one_mul] at h; exact h
theorem shr_nat (x k : Nat) (hk : k ≤ 64) : shr .i64 (x : Int) (k : Int) = ((x / 2 ^ k : Nat) : Int) := by
  unfold shr
  have e : min ((k : Int).toNat) (IntKind.bits .i64) = k := by simp [IntKind.bits]; omega
  rw [e]; simp
theorem tdiv_nat (a b : Nat) : Int.tdiv (a : Int) (b : Int) = ((a / b : Nat) : Int) := by
  rw [Int.tdiv_eq_ediv_of_nonneg (by omega)]; simp
theorem tmod_nat (a b : Nat) : Int.tmod (a : Int) (b : Int) = ((a % b : Nat) : Int) := by
  rw [Int.tmod_eq_emod_of_nonneg (by omega)]; simp

/-- What a loop comes to, from some number of rounds on: by what is left to do. -/
theorem evq {α : Type} {g : Nat → Option α} {r s : α} (e : r = s) (h : Ev g r) : Ev g s := e ▸ h
/-- A call whose answer needs no rounds. -/
theorem Ev.bind0 {α β : Type} {x : Option α} {f : Nat → α → Option β} {a : α} {r : β} (h : x = some a) (k : Ev (fun n => f n a) r) : Ev (fun n => x.bind (f n)) r := by
  subst h; exact k
theorem Ev.ite_pos {α : Type} {c : Prop} [Decidable c] {f g : Nat → Option α} {r : α} (h : c) (k : Ev f r) : Ev (fun n => if c then f n else g n) r := by
  simpa only [if_pos h] using k
theorem Ev.ite_neg {α : Type} {c : Prop} [Decidable c] {f g : Nat → Option α} {r : α} (h : ¬ c) (k : Ev g r) : Ev (fun n => if c then f n else g n) r := by
  simpa only [if_neg h] using k
theorem Ev.ofSome {α : Type} {r s : α} (h : r = s) : Ev (fun _ => some r) s := by subst h; exact Ev.now r
theorem mx_max (x y : Int) : mx x y = max x y := by unfold mx; split <;> omega
theorem mn_min (x y : Int) : mn x y = min x y := by unfold mn; split <;> omega
end Go.Proofs.Ytbldocbijihpgaa.PA

-- ---- Ng
/- norm.Of where it may be normed. Conditions: the list reads as the argument does. -/
namespace Go.Proofs.Ytbldocbijihpgaa.NormF
set_option linter.unusedSimpArgs false
set_option linter.unusedVariables false
open Go.RowKit Mix _root_.Go.Proofs.Ytbldocbijihpgaa.Own Hp Ol Nl
attribute [local go_sem] Own.max_int Own.min_int

/-- The row of the result, on the way; all that was there has stayed. -/
structure StW (B : Nat) (w wr : World) (g : Nat) (xs : List Int) : Prop where
  row : Owns wr 3 (.slice (some ⟨g, 0, none⟩) 65 65) (ints .i64 xs)
  new : B ≤ g
  low : Below B w wr
  sz : B ≤ wr.heap.size
theorem StW.later {B : Nat} {w wr w' : World} {g : Nat} {xs : List Int} (h : StW B w wr g xs) (hb : Below wr.heap.size wr w') : StW B w w' g xs :=
  ⟨h.row.keep fun k _ hk => hb.block k hk, h.new, h.low.trans (hb.mono h.sz), Nat.le_trans h.sz hb.size⟩
theorem StW.store {B : Nat} {w wr : World} {g : Nat} {xs : List Int} (h : StW B w wr g xs) (j : Nat) (x : Int) : StW B w (wr.setCell ⟨g, j, none⟩ (.int .i64 x)) g (xs.set j x) := by
  refine ⟨?_, h.new, h.low.setCell h.new _, by have := h.sz; simp [World.setCell]; exact this⟩
  have := h.row.store j (.int .i64 x)
  have e : ints .i64 (xs.set j x) = (ints .i64 xs).set j (.int .i64 x) := by simp [ints, List.map_set]
  rw [e]; exact this
theorem StW.cell {B : Nat} {w wr : World} {g : Nat} {xs : List Int} (h : StW B w wr g xs) (j : Nat) (hj : j < xs.length) : wr.cell? ⟨g, j, none⟩ = some (.int .i64 (xs.getD j 0)) := h.row.cell (Own.ints_at .i64 xs j hj)

theorem share_mul (y t : Int) (P : Nat) (hy : 0 < y) (hy1 : y ≤ 16777216) (hP1 : P ≤ 4096) (ht : 0 < t) : Own.mx 1 (wrap64 ((wrap64 (y * (P : Int))).tdiv t)) = share (P : Int) t y := by
  have h1 : y * (P : Int) ≤ 16777216 * 4096 := Int.mul_le_mul hy1 (by omega) (by omega) (by omega)
  have h0 : 0 ≤ y * (P : Int) := Int.mul_nonneg (by omega) (by omega)
  have h2 : y * (P : Int) / t ≤ y * (P : Int) := Int.ediv_le_self _ h0
  have h3 : 0 ≤ y * (P : Int) / t := Int.ediv_nonneg h0 (by omega)
  unfold share
  rw [if_pos hy, PA.w64 (x := y * (P : Int)) (by omega) (by omega), Int.tdiv_eq_ediv_of_nonneg h0, PA.w64 (x := y * (P : Int) / t) (by omega) (by omega), Own.mx_eq]

set_option maxHeartbeats 8000000 in
set_option maxRecDepth 20000 in
theorem norm_ok (A0 : Option Addr) (c0 : Nat) (l0 : List Int) (m : Nat) (w : World) (hR : Rd w (.slice A0 65 65) (ints .i64 l0)) (hf : Fr l0) (h7 : 7 ≤ m) (h12 : m ≤ 12) :
    Calls Try.prog 11 #[.slice A0 65 c0, .int .i64 (m : Int)] w fun e w' => ∃ v, e = .returned (.tuple #[v, .int .i64 0]) ∧ Owns w' 3 v (ints .i64 (normL l0 ((2 ^ m : Nat) : Int))) ∧ (∀ g, v.ownBlock = some g → w.heap.size ≤ g) ∧ Below w.heap.size w w' := by
  have h65 := hf.len
  obtain ⟨i0, hi, hz0, hz1, hz2⟩ := info_partsI infoI64
  have hall : ∀ x ∈ l0, 0 ≤ x ∧ x ≤ 16777216 := fun x hx => ⟨hf.nn x hx, hf.le x hx⟩
  have hC := contf_calls A0 65 c0 l0 w hR (by decide)
  rw [(any_bad l0).2 hall] at hC
  have hM := mayLog_calls (m : Int) w
  rw [show (decide (7 ≤ (m : Int)) && decide ((m : Int) ≤ 12)) = true by rw [decide_eq_true (show 7 ≤ (m : Int) by omega), decide_eq_true (show (m : Int) ≤ 12 by omega)]; rfl] at hM
  have hbd := take_bd l0 hall
  have hS := fun (w1 : World) (hb : Below w.heap.size w w1) => sum_calls A0 65 c0 l0 w1 (hR.later hb) (by decide) (fun i hi => by have := hbd i (by omega); omega)
  obtain ⟨t, ht⟩ : ∃ t, t = l0.sum := ⟨_, rfl⟩
  rw [← ht] at hS
  have hpos : 0 < t := by rw [ht]; exact hf.pos
  have hle : t ≤ 1090519040 := by rw [ht]; exact hf.sum_le
  obtain ⟨P, hP⟩ : ∃ P, P = 2 ^ m := ⟨_, rfl⟩
  have hshl : IntKind.i64.wrap ((2 : Int) ^ m) = (P : Int) := by
    rw [IntKind.wrap_i64, hP]
    have h2 : 2 ^ m ≤ 2 ^ 12 := Nat.pow_le_pow_right (by decide) h12
    have e : ((2 : Int) ^ m) = ((2 ^ m : Nat) : Int) := by simp
    rw [e]
    generalize 2 ^ m = q at *
    omega
  have hp12 : P ≤ 4096 := by have h := Nat.pow_le_pow_right (show 0 < 2 by decide) h12; rw [hP]; omega
  have hp7 : 128 ≤ P := by have h := Nat.pow_le_pow_right (show 0 < 2 by decide) h7; rw [hP]; omega
  rw [← hP]
  obtain ⟨B, hB⟩ : ∃ B, B = w.heap.size := ⟨_, rfl⟩
  have HC := kept hC
  have HM := kept hM
  have HS := kept hS
  have HF := kept hf
  have HR := kept hR
  have H65 := kept h65
  have HT := kept ht
  have HB := kept hB
  have t0 : (t == 0) = false := by rw [beq_eq_false_iff_ne]; omega
  clear hC hM hS hf hR h65 ht hB hall hbd hP
  go_enter Try.func11, Try.ntmps11
  go_wp2_with (first | (go_at_call 21; refine HC.out.mono ?_; rintro e w1 ⟨rfl, rfl⟩) | (go_at_call 23; refine HM.out.mono ?_; rintro e w1 ⟨rfl, rfl⟩) | (go_at_call 24; refine (HS.out _ (Below.refl _ _)).mono ?_; rintro e w1 ⟨rfl, rfl⟩))
  refine wp_region_mixL [0,1] [2] [3,4,5] (by kernel_rfl) (by kernel_rfl) ?_
  intro K hK
  simp only [pick, List.filterMap_cons, List.filterMap_nil, List.getElem?_cons_zero, List.getElem?_cons_succ]
  repeat (show wpQuiet _ _ _ _ (_ :: _) _; go_big_quiet_step (fail))
  refine wpQuiet_nil ?_
  show wpList _ _ _ [_, _, _] _ _
  generalize hwd : World.drew w = wd
  have hbd : Below w.heap.size w wd := by rw [← hwd]; exact (Below.refl _ _).drew
  have HBd := kept hbd
  have HSd := kept (HS.out wd hbd)
  clear hwd hbd
  go_wp2_with (first | (go_at_call 24; refine HSd.out.mono ?_; rintro e w1 ⟨rfl, rfl⟩))
  refine hK _ _ ?_
  go_wp2_with (first | (refine wpList_mk1 rfl _ _ 24 rfl 3 i0 (.int .i64 0) 8 Try.underlying24 hi hz0 hz1 hz2 rfl .i64 .i64 _ _ 65 rfl rfl rfl rfl (by decide) (by decide) ?_))
  intro w2 hO hb hlt2
  obtain ⟨g, hg⟩ : ∃ g, g = wd.heap.size := ⟨_, rfl⟩
  have hBs : B ≤ wd.heap.size := by rw [HB.out]; exact HBd.out.size
  have HSt2 : Kept (StW B w w2 g (shN l0 (P : Int) t 0)) := kept ⟨by rw [hg, shN_zero, H65.out]; simpa [ints] using hO, by omega, by rw [HB.out]; exact HBd.out.trans (hb.mono HBd.out.size), by have := hb.size; omega⟩
  rw [← hg]
  clear hO hb hlt2 hg hBs HBd HSd hshl t0 h7 h12
  go_wp2_with fail
  go_loopw [38] (fun s38 wq => ∃ i : Nat, i ≤ 65 ∧ s38 = .int .i64 (i : Int) ∧ StW B w wq g (shN l0 (P : Int) t i)) (fun s38 _ => 65 - (intOf s38).toNat)
  case atStart => exact ⟨0, by omega, rfl, HSt2.out⟩
  case round =>
    obtain ⟨i, hi65, rfl, hst⟩ := hrel
    obtain ⟨wq, rfl⟩ : ∃ wq, wq = wr := ⟨wr, rfl⟩
    have HSt3 := kept hst
    have hrd := HR.out.later (show Below w.heap.size w wq by rw [← HB.out]; exact hst.low)
    clear hst
    by_cases hlt : i < 65
    · have hil : i < l0.length := by rw [H65.out]; exact hlt
      obtain ⟨x, rfl, hc⟩ := hrd.at (Own.ints_at .i64 l0 i hil)
      have hfm := Nl.getD_mem hil
      have hy0 := HF.out.nn _ hfm
      have hy1 := HF.out.le _ hfm
      have hst3 := shN_succ l0 (P : Int) t i hil
      have hsame := shN_same l0 (P : Int) t i hil
      have hat := shN_at l0 (P : Int) t i hil
      clear hfm
      obtain ⟨y, hy⟩ : ∃ y, y = l0.getD i 0 := ⟨_, rfl⟩
      rw [← hy] at hc hy0 hy1 hst3 hsame
      have HSt4 := kept hst3
      have HSame := kept hsame
      by_cases hpos2 : 0 < y
      · have hxl : (shN l0 (P : Int) t i).length = 65 := by rw [length_shN _ _ _ _ (by omega)]; exact H65.out
        obtain ⟨xs, hxs⟩ : ∃ xs, xs = shN l0 (P : Int) t i := ⟨_, rfl⟩
        rw [← hxs] at HSt3 HSt4 HSame hxl hat
        have c1 := HSt3.out.cell i (by omega)
        have f1 : wq.frozen? ⟨g, i, none⟩ = false := HSt3.out.row.free i
        clear hxs hst3 hsame hil hy hrd hat
        have hsw := share_mul y t P hpos2 hy1 hp12 hpos
        obtain ⟨z, hz⟩ : ∃ z, z = share (P : Int) t y := ⟨_, rfl⟩
        rw [← hz] at hsw HSt4
        have HSw := kept hsw
        have HSt5 : Kept (StW B w (wq.setCell ⟨g, i, none⟩ (.int .i64 z)) g (shN l0 (P : Int) t (i + 1))) := kept (by rw [HSt4.out]; exact HSt3.out.store i z)
        clear hsw hz
        go_wp2_with fail
        go_roundw
        case rel => exact ⟨i + 1, by omega, by go_num, by rw [HSw.out]; exact HSt5.out⟩
        case measure => simp [intOf]; omega
      · have hn0 : y ≤ 0 := by omega
        have HSt5 : Kept (StW B w wq g (shN l0 (P : Int) t (i + 1))) := kept (by rw [HSame.out hpos2]; exact HSt3.out)
        clear hst3 hsame hil hy hrd hat
        go_wp2_with fail
        go_roundw
        case rel => exact ⟨i + 1, by omega, by go_num, HSt5.out⟩
        case measure => simp [intOf]; omega
    · have hie : i = 65 := by omega
      subst hie
      obtain ⟨xs, hxs⟩ : ∃ xs, xs = shares l0 (P : Int) t := ⟨_, rfl⟩
      have hxe : shN l0 (P : Int) t 65 = xs := by rw [hxs, ← H65.out]; exact shN_all l0 (P : Int) t
      rw [hxe] at HSt3
      have hxl : xs.length = 65 := by rw [hxs, length_shares]; exact H65.out
      have hok := HF.out.shares_ok (size := (P : Int)) (by omega)
      rw [← HT.out, ← hxs] at hok
      have hxb : ∀ x ∈ xs, 0 ≤ x ∧ x ≤ 16777216 := fun x hx => by
        rw [hxs] at hx
        obtain ⟨z, hz, rfl⟩ := List.mem_map.1 hx
        have := HF.out.share_le (size := (P : Int)) (by omega) hz
        rw [← HT.out] at this
        omega
      have hxt := take_bd xs hxb
      have hq65 := hxt 65 (by omega)
      rw [← hxl, List.take_length] at hq65
      obtain ⟨q, hq⟩ : ∃ q, q = xs.sum := ⟨_, rfl⟩
      have HSq := kept (sum_calls (some ⟨g, 0, none⟩) 65 65 xs wq HSt3.out.row.rd (by decide) (fun i hi => by have := hxt i (by omega); omega))
      rw [← hq] at HSq hq65
      obtain ⟨hq0, hq1⟩ := hq65
      have hq1 : q ≤ 1090519040 := by omega
      have HX := kept hxs
      have HQ := kept hq
      have HXl := kept hxl
      have HXb := kept hxb
      have HOk := kept hok
      clear hxs hq hxe hrd hlt hok hxb hxt hxl
      by_cases hls : q ≤ (P : Int)
      · obtain ⟨tl, htl, hk65⟩ := HF.out.head
        obtain ⟨k, hk⟩ : ∃ k, k = (ordL l0).headD 0 := ⟨_, rfl⟩
        rw [← hk] at htl hk65
        have hk2 : k < xs.length := by have := HXl.out; omega
        have hge := (HXb.out _ (Nl.getD_mem hk2)).1
        have hle := (HXb.out _ (Nl.getD_mem hk2)).2
        obtain ⟨x, hx⟩ : ∃ x, x = xs.getD k 0 := ⟨_, rfl⟩
        have HNorm : Kept (normL l0 (P : Int) = xs.set k (x + ((P : Int) - q))) := kept (by
          unfold normL
          rw [← HT.out, ← HX.out, ← HQ.out, if_pos hls, ← hk]
          unfold bump; rw [← hx])
        rw [← hx] at hge hle
        have HX6 := kept hx
        have HTl := kept htl
        have HC2 := kept (HistH.horder_calls A0 65 c0 l0 wq (HR.out.later (show Below w.heap.size w wq by rw [← HB.out]; exact HSt3.out.low)) (by decide))
        have hls0 : 0 ≤ (P : Int) - q := by omega
        clear hk2 hx htl hk
        go_wp2_with (first | (go_at_call 24; refine HSq.out.mono ?_; rintro e w1 ⟨rfl, rfl⟩))
        refine HC2.out.mono ?_
        rintro e w6 ⟨v6, rfl, hro6⟩
        have HSt7 := kept (HSt3.out.later hro6.low)
        have hrow6 := hro6.own
        rw [HTl.out] at hrow6
        obtain ⟨g6, cap6, rfl, hc6, _⟩ := hrow6.row (by simp [idx])
        have hcell6 : w6.cell? ⟨g6, 0, none⟩ = some (.int .i64 (k : Int)) := hrow6.cell (j := 0) (by simp [idx])
        have hlen6 : (idx (k :: tl)).length = tl.length + 1 := by simp
        rw [hlen6] at hc6
        rw [hlen6]
        have hk2 : k < xs.length := by have := HXl.out; omega
        have hy6 := HSt7.out.cell k hk2
        rw [← HX6.out] at hy6
        have f7 : w6.frozen? ⟨g, k, none⟩ = false := HSt7.out.row.free k
        have HSt9 : Kept (StW B w (w6.setCell ⟨g, k, none⟩ (.int .i64 (x + ((P : Int) - q)))) g (normL l0 (P : Int))) := kept (by rw [HNorm.out]; exact HSt7.out.store k _)
        clear hro6 hrow6 hlen6 hk2
        go_wp2_with fail
        refine bodyPost_ret (results_tmp2 rfl _ _ _) rfl ⟨_, rfl, HSt9.out.row, fun g' hg' => ?_, ?_⟩
        · simp only [Value.ownBlock, Option.map_some, Option.some.injEq] at hg'
          have := HSt9.out.new
          rw [← HB.out]; omega
        · rw [← HB.out]
          exact HSt9.out.low
      · have hls2 : (P : Int) < q := by omega
        have hss := HF.out.shares_sum (size := (P : Int)) (by omega)
        rw [← HT.out, ← HX.out, ← HQ.out] at hss
        have hq2 : q ≤ 266240 := by omega
        have hmz : ((((q - (P : Int)).toNat) : Nat) : Int) = -((P : Int) - q) := by omega
        have HTk := kept (NormH.taken_calls g 65 65 (q - (P : Int)).toNat l0 xs wq HSt3.out.row HXl.out HOk.out (by rw [← HQ.out]; omega) (by rw [← HQ.out]; omega) (by decide) (by decide))
        have HNorm : Kept (normL l0 (P : Int) = decTop (q - (P : Int)).toNat xs) := kept (by
          unfold normL
          rw [← HT.out, ← HX.out, ← HQ.out, if_neg (by omega)])
        rw [← HNorm.out, hmz] at HTk
        have n1 : ¬ (0 ≤ (P : Int) - q) := by omega
        clear hss hmz
        go_wp2_with (first | (go_at_call 24; refine HSq.out.mono ?_; rintro e w1 ⟨rfl, rfl⟩))
        refine HTk.out.mono ?_
        rintro e w3 ⟨rfl, ho3, hc3⟩
        have HO3 := kept ho3
        have HC3 := kept hc3
        clear ho3 hc3
        go_wp2_with fail
        refine bodyPost_ret (results_tmp2 rfl _ _ _) rfl ⟨_, rfl, HO3.out, fun g' hg' => ?_, ?_⟩
        · simp only [Value.ownBlock, Option.map_some, Option.some.injEq] at hg'
          have := HSt3.out.new
          rw [← HB.out]; omega
        · rw [← HB.out]
          exact HSt3.out.low.trans (HC3.out.below HSt3.out.sz (fun k hk e => by have := HSt3.out.new; omega))
end Go.Proofs.Ytbldocbijihpgaa.NormF

-- ---- Nm
/- Powers of two as the walk spells them. No program in sight. -/
namespace Go.Proofs.Ytbldocbijihpgaa
set_option linter.unusedSimpArgs false
set_option linter.unusedVariables false
open Go Go.RowKit

theorem shl_int (k : Nat) (h : k ≤ 62) : wrap64 ((2 : Int) ^ k) = ((2 ^ k : Nat) : Int) := by
  have h2 : 2 ^ k ≤ 2 ^ 62 := Nat.pow_le_pow_right (by decide) h
  have e : ((2 : Int) ^ k) = ((2 ^ k : Nat) : Int) := by simp
  have e3 : (2 : Nat) ^ 62 = 4611686018427387904 := by decide
  rw [e]
  generalize 2 ^ k = P at h2
  unfold wrap64
  omega
theorem pow12 (k : Nat) (h : k ≤ 12) : 2 ^ k ≤ 4096 := by
  have : 2 ^ k ≤ 2 ^ 12 := Nat.pow_le_pow_right (by decide) h
  omega
end Go.Proofs.Ytbldocbijihpgaa

-- ---- PAx0

namespace Go.Proofs.Ytbldocbijihpgaa.PA
open Go.RowKit Go.Proofs.YtbldocbijihpgaaW.PrintWords Go.Proofs.YtbldocbijihpgaaW.PrintLast Go.Proofs.YtbldocbijihpgaaW.PrintMore
attribute [local go_sem] max2_int min2_int max_two min_two max_three min_three max_four min_four   -- for this text's walks alone
set_option linter.unusedVariables false
set_option linter.unusedSimpArgs false



def errW : Option Int → Value
  | none => .nilIface
  | some c => .iface 0 (.int .i64 c)
theorem errW_none : errW none = .nilIface := rfl
theorem errW_some (c : Int) : errW (some c) = .iface 0 (.int .i64 c) := rfl

theorem info3 : (Try.prog.info? 3).map (fun i => (i.zero, i.size, i.bytes)) = some (some (.int .i64 0), 1, 8) := by kernel_rfl
theorem info5 : (Try.prog.info? 5).map (fun i => (i.zero, i.size, i.bytes)) = some (some (.int .u8 0), 1, 1) := by kernel_rfl
-- the values' own types
/-! #### struct type 78 -/
structure S78 where
  f0 : Int
  f1 : Int
def z78 : S78 := ⟨(0 : Int), (0 : Int)⟩
def k78 : Kd S78 := Kd.iso (Kd.pair (Kd.int .i64) (Kd.int .i64)) (fun x : S78 => (x.f0, x.f1))
theorem k78_open {w : World} {x : S78} {cs : List Value} (h : k78.K w x cs) : cs = [.int .i64 x.f0, .int .i64 x.f1] := by
  obtain ⟨_, _, rfl, rfl, rfl⟩ := h
  exact rfl
theorem k78_openM {w : World} {base : Nat} {ok : Nat → Prop} {x : S78} {cs : List Value} (h : k78.M w base ok x cs) : cs = [.int .i64 x.f0, .int .i64 x.f1] := by
  obtain ⟨_, _, rfl, rfl, rfl⟩ := h
  exact rfl
theorem k78_mk (w : World) (x : S78)  : k78.K w x [.int .i64 x.f0, .int .i64 x.f1] := ⟨[.int .i64 x.f0], [.int .i64 x.f1], rfl, rfl, rfl⟩
theorem k78_mkM (w : World) (base : Nat) (ok : Nat → Prop) (x : S78)  : k78.M w base ok x [.int .i64 x.f0, .int .i64 x.f1] := ⟨[.int .i64 x.f0], [.int .i64 x.f1], rfl, rfl, rfl⟩
def rd_T78 (xs : List S78) (i : Int) : S78 := xs.getD i.toNat z78
theorem at_T78 {w : World} {A : Option Addr} {n : Nat} {xs : List S78} (h : Kd.C k78 w A n xs) (i : Int) (h0 : 0 ≤ i) (h1 : i < n) : ∃ ad , A = some ad ∧ w.cell? (ad.add (i.toNat * 2)) = some (.int .i64 (rd_T78 xs i).f0) ∧ w.cell? ⟨(ad.add (i.toNat * 2)).block, (ad.add (i.toNat * 2)).off + 1, none⟩ = some (.int .i64 (rd_T78 xs i).f1) := by
  obtain ⟨ad, c, e, _, hK, hc0⟩ := Kd.C_get h z78 i h0 h1
  have hc : ∀ j u, c[j]? = some u → w.cell? (ad.add (i.toNat * 2 + j)) = some u := hc0
  obtain rfl := k78_open hK
  exact ⟨ad, e, hc 0 _ rfl, by rw [← add_field _ _ 1 (by omega)]; exact hc 1 _ rfl⟩

end Go.Proofs.Ytbldocbijihpgaa.PA

-- ---- PAx17

namespace Go.Proofs.Ytbldocbijihpgaa.PA
open Go.RowKit Go.Proofs.YtbldocbijihpgaaW.PrintWords Go.Proofs.YtbldocbijihpgaaW.PrintLast Go.Proofs.YtbldocbijihpgaaW.PrintMore
attribute [local go_sem] max2_int min2_int max_two min_two max_three min_three max_four min_four   -- for this text's walks alone
set_option linter.unusedVariables false
set_option linter.unusedSimpArgs false

/-! ### wringerref7_freqs: function 27 -/
def wringerref7_freqs.l0 : Nat → List Int → Int → Int → Option (Bool)
  | 0, _, _, _ => none
  | k + 1, x0, x3, x4 => if x4 < (x0.length : Int) then (if 0 ≤ x4 then (if (rd x0 x4) < 0 then (some false) else (if (rd x0 x4) > 16777216 then (some false) else (wringerref7_freqs.l0 k x0 (wrap64 (x3 + (rd x0 x4))) (wrap64 (x4 + 1))))) else (none)) else (if (x0.length : Int) = 65 then (some (decide (x3 > 0))) else (some false))
def wringerref7_freqs.f (k : Nat) (l0 : List Int) : Option (Bool) := wringerref7_freqs.l0 k l0 0 0
theorem wringerref7_freqs.mono_l : ∀ k, (∀ y0 y1 y2, LeO (wringerref7_freqs.l0 k y0 y1 y2) (wringerref7_freqs.l0 (k + 1) y0 y1 y2))
  | 0 => fun _ _ _ r h => by simp [wringerref7_freqs.l0] at h
  | k + 1 => by
    have ih0 := wringerref7_freqs.mono_l k
    · intro y0 y1 y2
      unfold wringerref7_freqs.l0
      repeat' first
      | (with_reducible exact ih0 _ _ _)
      | (with_reducible exact LeO.refl _)
      | (with_reducible exact LeO.none _)
      | (with_reducible refine LeO.ite ?_ ?_)
      | (with_reducible refine LeO.bind ?_ (fun _ => ?_))
      | exact ih0 _ _ _
      | exact LeO.none _
      | refine LeO.ite ?_ ?_
      | refine LeO.bind ?_ (fun _ => ?_)
theorem wringerref7_freqs.mono : ∀ a0 k, LeO (wringerref7_freqs.f k a0) (wringerref7_freqs.f (k + 1) a0) := by
  intro a0 k
  have ih0 := wringerref7_freqs.mono_l k
  unfold wringerref7_freqs.f
  repeat' first
      | (with_reducible exact ih0 _ _ _)
      | (with_reducible exact LeO.refl _)
      | (with_reducible exact LeO.none _)
      | (with_reducible refine LeO.ite ?_ ?_)
      | (with_reducible refine LeO.bind ?_ (fun _ => ?_))
      | exact ih0 _ _ _
      | exact LeO.none _
      | refine LeO.ite ?_ ?_
      | refine LeO.bind ?_ (fun _ => ?_)
set_option maxHeartbeats 8000000 in
set_option maxRecDepth 100000 in
theorem wringerref7_freqs.calls (k : Nat) (A0 : Option Addr) (c0 : Nat) (l0 : List Int) (r : Bool) (w : World) (hr0 : Kd.C (Kd.int .i64) w A0 l0.length l0) (hc0 : l0.length ≤ c0) (h : wringerref7_freqs.f k l0 = some r) :
    Calls Try.prog 27 #[.slice A0 l0.length c0] w fun e w' => e = .returned (.bool r) ∧ Drawn0 w w' := by
  have HR0 := Aside0.mk hr0
  have HC0 := Aside0.mk hc0
  clear hr0 hc0
  have H : (wringerref7_freqs.l0 k l0 0 0) = some r := h
  clear h
  have H' := Aside0.mk H
  clear H
  go_enter Try.func27, Try.ntmps27
  go_wp2
  go_loopg [3, 4] k (fun kq v3 v4 w' => ∃ (x3_1 : Int) (x4_1 : Int), v3 = .int .i64 x3_1 ∧ v4 = .int .i64 x4_1 ∧ Aside0 (wringerref7_freqs.l0 kq l0 x3_1 x4_1 = some r) ∧ Aside0 (kq ≤ k) ∧ Drawn0 w w')
  case atStart => exact ⟨(0), (0), (by first | rfl | (simp; done) | (simp [*]; done)), (by first | rfl | (simp; done) | (simp [*]; done)), H', ⟨Nat.le_refl _⟩, by repeat (first | exact Drawn0.refl _ | apply Drawn0.step)⟩
  case round =>
    clear H'
    obtain ⟨x3_1, x4_1, rfl, rfl, HA, HK1, ⟨m1, rfl⟩⟩ := hrel
    cases gk with
    | zero => exact absurd HA.out (by simp [wringerref7_freqs.l0])
    | succ k1 =>
      have H := HA.out
      clear HA
      simp only [wringerref7_freqs.l0] at H
      by_cases c2 : x4_1 < (l0.length : Int)
      · rw [if_pos c2] at H
        have c2b0 : decide (x4_1 < (l0.length : Int)) = true := decide_eq_true c2
        clear c2
        by_cases c3 : 0 ≤ x4_1
        · rw [if_pos c3] at H
          have c3b0 : decide (0 ≤ x4_1) = true := decide_eq_true c3
          clear c3
          by_cases c4 : (rd l0 x4_1) < 0
          · rw [if_pos c4] at H
            have c4b0 : decide ((rd l0 x4_1) < 0) = true := decide_eq_true c4
            clear c4
            obtain rfl := Option.some.inj H
            have p130 : 0 ≤ (x4_1 : Int) := of_decide_eq_true (by first | (with_reducible assumption) | assumption)
            have q130 : x4_1 < (l0.length : Int) := of_decide_eq_true (by first | (with_reducible assumption) | assumption)
            obtain ⟨ad130, e130, hx130_0⟩ := Kd.at_int HR0.out x4_1 p130 q130
            cases e130
            replace p130 := eq_true p130
            replace q130 := eq_true q130
            go_wp2
            go_ret
            exact ⟨by first | rfl | (simp; done) | (simp [*]; done), by repeat (first | exact Drawn0.refl _ | apply Drawn0.step)⟩
          · rw [if_neg c4] at H
            have c4b0 : decide ((rd l0 x4_1) < 0) = false := decide_eq_false c4
            clear c4
            by_cases c5 : (rd l0 x4_1) > 16777216
            · rw [if_pos c5] at H
              have c5b0 : decide (16777216 < (rd l0 x4_1)) = true := decide_eq_true c5
              clear c5
              obtain rfl := Option.some.inj H
              have p130 : 0 ≤ (x4_1 : Int) := of_decide_eq_true (by first | (with_reducible assumption) | assumption)
              have q130 : x4_1 < (l0.length : Int) := of_decide_eq_true (by first | (with_reducible assumption) | assumption)
              obtain ⟨ad130, e130, hx130_0⟩ := Kd.at_int HR0.out x4_1 p130 q130
              cases e130
              replace p130 := eq_true p130
              replace q130 := eq_true q130
              have p131 : 0 ≤ (x4_1 : Int) := of_decide_eq_true (by first | (with_reducible assumption) | assumption)
              have q131 : x4_1 < (l0.length : Int) := of_decide_eq_true (by first | (with_reducible assumption) | assumption)
              obtain ⟨ad131, e131, hx131_0⟩ := Kd.at_int HR0.out x4_1 p131 q131
              obtain rfl : ad130 = ad131 := (by injection e131)
              replace p131 := eq_true p131
              replace q131 := eq_true q131
              go_wp2
              go_ret
              exact ⟨by first | rfl | (simp; done) | (simp [*]; done), by repeat (first | exact Drawn0.refl _ | apply Drawn0.step)⟩
            · rw [if_neg c5] at H
              have c5b0 : decide (16777216 < (rd l0 x4_1)) = false := decide_eq_false c5
              clear c5
              have H' := Aside0.mk H
              clear H
              have p130 : 0 ≤ (x4_1 : Int) := of_decide_eq_true (by first | (with_reducible assumption) | assumption)
              have q130 : x4_1 < (l0.length : Int) := of_decide_eq_true (by first | (with_reducible assumption) | assumption)
              obtain ⟨ad130, e130, hx130_0⟩ := Kd.at_int HR0.out x4_1 p130 q130
              cases e130
              replace p130 := eq_true p130
              replace q130 := eq_true q130
              have p131 : 0 ≤ (x4_1 : Int) := of_decide_eq_true (by first | (with_reducible assumption) | assumption)
              have q131 : x4_1 < (l0.length : Int) := of_decide_eq_true (by first | (with_reducible assumption) | assumption)
              obtain ⟨ad131, e131, hx131_0⟩ := Kd.at_int HR0.out x4_1 p131 q131
              obtain rfl : ad130 = ad131 := (by injection e131)
              replace p131 := eq_true p131
              replace q131 := eq_true q131
              have p132 : 0 ≤ (x4_1 : Int) := of_decide_eq_true (by first | (with_reducible assumption) | assumption)
              have q132 : x4_1 < (l0.length : Int) := of_decide_eq_true (by first | (with_reducible assumption) | assumption)
              obtain ⟨ad132, e132, hx132_0⟩ := Kd.at_int HR0.out x4_1 p132 q132
              obtain rfl : ad130 = ad132 := (by injection e132)
              replace p132 := eq_true p132
              replace q132 := eq_true q132
              go_wp2
              go_roundg k1
              case measure => have := HK1.out; omega
              case rel => exact ⟨(wrap64 (x3_1 + (rd l0 x4_1))), (wrap64 (x4_1 + 1)), (by first | rfl | (simp; done) | (simp [*]; done)), (by first | rfl | (simp; done) | (simp [*]; done)), H', ⟨by have := HK1.out; omega⟩, by repeat (first | exact Drawn0.refl _ | apply Drawn0.step)⟩
        · rw [if_neg c3] at H
          exact absurd H (by simp)
      · rw [if_neg c2] at H
        have c2b0 : decide (x4_1 < (l0.length : Int)) = false := decide_eq_false c2
        clear c2
        by_cases c6 : (l0.length : Int) = 65
        · rw [if_pos c6] at H
          have c6b0 : ((l0.length : Int) == 65) = true := beq_iff_eq.mpr c6
          have c6b1 : ((l0.length : Int) != 65) = false := bne_eq_false_iff_eq.mpr c6
          clear c6
          obtain rfl := Option.some.inj H
          go_wp2
          go_ret
          exact ⟨by first | rfl | (simp; done) | (simp [*]; done), by repeat (first | exact Drawn0.refl _ | apply Drawn0.step)⟩
        · rw [if_neg c6] at H
          have c6b0 : ((l0.length : Int) == 65) = false := beq_eq_false_iff_ne.mpr c6
          have c6b1 : ((l0.length : Int) != 65) = true := bne_iff_ne.mpr c6
          obtain rfl := Option.some.inj H
          go_wp2
          go_ret
          exact ⟨by first | rfl | (simp; done) | (simp [*]; done), by repeat (first | exact Drawn0.refl _ | apply Drawn0.step)⟩

end Go.Proofs.Ytbldocbijihpgaa.PA

-- ---- PAx18

namespace Go.Proofs.Ytbldocbijihpgaa.PA
open Go.RowKit Go.Proofs.YtbldocbijihpgaaW.PrintWords Go.Proofs.YtbldocbijihpgaaW.PrintLast Go.Proofs.YtbldocbijihpgaaW.PrintMore
attribute [local go_sem] max2_int min2_int max_two min_two max_three min_three max_four min_four   -- for this text's walks alone
set_option linter.unusedVariables false
set_option linter.unusedSimpArgs false

/-! ### wringerref7_isLog: function 28 -/
def wringerref7_isLog.f (a0 : Int) : Option (Bool) := if a0 ≥ 7 then (some (decide (a0 ≤ 12))) else (some false)
set_option maxHeartbeats 8000000 in
set_option maxRecDepth 100000 in
theorem wringerref7_isLog.calls (a0 : Int) (r : Bool) (w : World) (h : wringerref7_isLog.f a0 = some r) :
    Calls Try.prog 28 #[.int .i64 a0] w fun e w' => e = .returned (.bool r) ∧ Drawn0 w w' := by
  have H : (if a0 ≥ 7 then (some (decide (a0 ≤ 12))) else (some false)) = some r := h
  clear h
  by_cases c2 : a0 ≥ 7
  · rw [if_pos c2] at H
    have c2b0 : decide (7 ≤ a0) = true := decide_eq_true c2
    clear c2
    obtain rfl := Option.some.inj H
    go_enter Try.func28, Try.ntmps28
    go_wp2
    go_ret
    exact ⟨by first | rfl | (simp; done) | (simp [*]; done), by repeat (first | exact Drawn0.refl _ | apply Drawn0.step)⟩
  · rw [if_neg c2] at H
    have c2b0 : decide (7 ≤ a0) = false := decide_eq_false c2
    clear c2
    obtain rfl := Option.some.inj H
    go_enter Try.func28, Try.ntmps28
    go_wp2
    go_ret
    exact ⟨by first | rfl | (simp; done) | (simp [*]; done), by repeat (first | exact Drawn0.refl _ | apply Drawn0.step)⟩

end Go.Proofs.Ytbldocbijihpgaa.PA

-- ---- Uf
/- The document's test of frequencies: what it comes to. -/
namespace Go.Proofs.Ytbldocbijihpgaa.PA
set_option linter.unusedVariables false
set_option linter.unusedSimpArgs false
open Go.RowKit Go.Proofs.YtbldocbijihpgaaW.PrintWords Go.Proofs.YtbldocbijihpgaaW.PrintLast Go.Proofs.YtbldocbijihpgaaW.PrintMore Nl

theorem isLogF (a : Int) : wringerref7_isLog.f a = some (decide (7 ≤ a ∧ a ≤ 12)) := by
  unfold wringerref7_isLog.f
  by_cases h : a ≥ 7
  · rw [if_pos h]; congr 1; simp; omega
  · rw [if_neg h]; congr 1; simp; omega
theorem getD_drop (l : List Int) (i : Nat) (h : i < l.length) : l.drop i = l.getD i 0 :: l.drop (i + 1) := by
  rw [List.drop_eq_getElem_cons h]; simp [List.getD_eq_getElem?_getD, h]
theorem freqs_l0 (l : List Int) (hl : l.length = 65) : ∀ (d i : Nat) (t : Int), i + d = l.length → 0 ≤ t → t ≤ 16777216 * (i : Int) →
    Ev (fun k => wringerref7_freqs.l0 k l t (i : Int)) (decide ((∀ x ∈ l.drop i, 0 ≤ x ∧ x ≤ 16777216) ∧ 0 < t + (l.drop i).sum)) := by
  intro d
  induction d with
  | zero =>
    intro i t hi h0 h1
    refine Ev.step (f := fun _ => some (decide (0 < t))) (fun k => by simp only [wringerref7_freqs.l0]; rw [if_neg (by omega), if_pos (by omega)]) (Ev.ofSome ?_)
    rw [List.drop_eq_nil_of_le (by omega)]; simp
  | succ d ih =>
    intro i t hi h0 h1
    have hil : i < l.length := by omega
    rw [getD_drop l i hil]
    generalize hy : l.getD i 0 = y
    by_cases hy0 : y < 0
    · refine Ev.step (f := fun _ => some false) (fun k => by simp only [wringerref7_freqs.l0]; rw [if_pos (by omega), if_pos (by omega), rd_nat, hy, if_pos hy0]) (Ev.ofSome ?_)
      symm; rw [decide_eq_false_iff_not]; intro h; have := h.1 y (by simp); omega
    · by_cases hyP : y > 16777216
      · refine Ev.step (f := fun _ => some false) (fun k => by simp only [wringerref7_freqs.l0]; rw [if_pos (by omega), if_pos (by omega), rd_nat, hy, if_neg hy0, if_pos hyP]) (Ev.ofSome ?_)
        symm; rw [decide_eq_false_iff_not]; intro h; have := h.1 y (by simp); omega
      · refine evq ?_ (Ev.step (f := fun k => wringerref7_freqs.l0 k l (t + y) ((i + 1 : Nat) : Int)) (fun k => by simp only [wringerref7_freqs.l0]; rw [if_pos (by omega), if_pos (by omega), rd_nat, hy, if_neg hy0, if_neg hyP, w64 (by omega) (by omega), w64 (by omega) (by omega)]; rfl) (ih (i + 1) (t + y) (by omega) (by omega) (by omega)))
        congr 1
        simp only [List.mem_cons, forall_eq_or_imp, List.sum_cons, eq_iff_iff]
        constructor
        · rintro ⟨a, b⟩; exact ⟨⟨⟨by omega, by omega⟩, a⟩, by omega⟩
        · rintro ⟨⟨_, a⟩, b⟩; exact ⟨a, by omega⟩
theorem freqs_is (l : List Int) (hl : l.length = 65) : Ev (fun k => wringerref7_freqs.f k l) (frB l) := by
  refine evq ?_ (Ev.congr (fun k => ?_) (freqs_l0 l hl l.length 0 0 (by omega) (by omega) (by omega)))
  · unfold frB; rw [List.drop_zero]; congr 1; rw [eq_iff_iff]
    exact ⟨fun ⟨a, b⟩ => ⟨hl, a, by omega⟩, fun ⟨_, a, b⟩ => ⟨a, by omega⟩⟩
  · unfold wringerref7_freqs.f; rfl
end Go.Proofs.Ytbldocbijihpgaa.PA

-- ---- Nn
/- The document's numbers of a sum: what the call answers. -/
namespace Go.Proofs.Ytbldocbijihpgaa.PA
set_option linter.unusedSimpArgs false
set_option linter.unusedVariables false
open Go.RowKit Go.Proofs.YtbldocbijihpgaaW.PrintWords Mix _root_.Go.Proofs.Ytbldocbijihpgaa.Own Ol Nl
attribute [local go_sem] Own.max_int Own.min_int

/-- The block of the result, on the way; all that was there has stayed. -/
structure StN (B : Nat) (w wr : World) : Prop where
  res : Blk wr B #[.slice none 0 0, .int .i64 0] 30
  low : Below B w wr
structure StR (B : Nat) (w wr : World) (g : Nat) (xs : List Int) : Prop where
  st : StN B w wr
  row : Owns wr 3 (.slice (some ⟨g, 0, none⟩) 65 65) (ints .i64 xs)
  new : B ≤ g
theorem StN.sz {B : Nat} {w wr : World} (h : StN B w wr) : B < wr.heap.size := h.res.lt
theorem StN.later {B : Nat} {w wr w' : World} (h : StN B w wr) (hb : Below wr.heap.size wr w') : StN B w w' :=
  ⟨(hb.block B h.sz).trans h.res, h.low.trans (hb.mono (Nat.le_of_lt h.sz))⟩
theorem StR.later {B : Nat} {w wr w' : World} {g : Nat} {xs : List Int} (h : StR B w wr g xs) (hb : Below wr.heap.size wr w') : StR B w w' g xs :=
  ⟨h.st.later hb, h.row.keep fun k _ hk => hb.block k hk, h.new⟩
theorem StR.ne {B : Nat} {w wr : World} {g : Nat} {xs : List Int} (h : StR B w wr g xs) : B ≠ g := fun e => h.row.ne h.st.res (by decide) (by simp [Value.ownBlock, e])
theorem StR.store {B : Nat} {w wr : World} {g : Nat} {xs : List Int} (h : StR B w wr g xs) (j : Nat) (x : Int) : StR B w (wr.setCell ⟨g, j, none⟩ (.int .i64 x)) g (xs.set j x) := by
  refine ⟨⟨h.st.res.setOther h.ne _, h.st.low.setCell h.new _⟩, ?_, h.new⟩
  have := h.row.store j (.int .i64 x)
  have e : ints .i64 (xs.set j x) = (ints .i64 xs).set j (.int .i64 x) := by simp [ints, List.map_set]
  rw [e]; exact this
theorem StR.cell {B : Nat} {w wr : World} {g : Nat} {xs : List Int} (h : StR B w wr g xs) (j : Nat) (hj : j < xs.length) : wr.cell? ⟨g, j, none⟩ = some (.int .i64 (xs.getD j 0)) := h.row.cell (Own.ints_at .i64 xs j hj)

set_option maxRecDepth 20000 in
set_option maxHeartbeats 4000000 in
theorem rnorm_bad (A0 : Option Addr) (c0 : Nat) (l0 : List Int) (a1 : Int) (w : World) (hr0 : Kd.C (Kd.int .i64) w A0 l0.length l0) (hc0 : l0.length ≤ c0) (hn : l0.length < 200000000000000)
    (hb : ¬ (frB l0 = true ∧ 7 ≤ a1 ∧ a1 ≤ 12)) :
    Calls Try.prog 12 #[.slice A0 l0.length c0, .int .i64 a1] w fun e w' => e = .returned (.agg #[.slice none 0 0, .int .i64 1]) ∧ Below w.heap.size w w' := by
  by_cases h65 : l0.length = 65
  · obtain ⟨k, hk⟩ := (freqs_is l0 h65).rounds
    have hfr := fun w1 (h : Below w.heap.size w w1) => wringerref7_freqs.calls k A0 c0 l0 _ w1 (Kd.C_below hr0 h) hc0 hk
    have hlg := fun w1 => wringerref7_isLog.calls a1 _ w1 (isLogF a1)
    have t65 : ((l0.length : Int) != 65) = false := by simp; omega
    have hb0 : Below w.heap.size w (w.alloc (.cells #[.slice none 0 0, .int .i64 0] 30)) := (Below.refl _ _).alloc (Nat.le_refl _) _
    have HFr := kept (hfr _ hb0)
    have HLg := kept hlg
    obtain ⟨n, hnn⟩ : ∃ n, n = l0.length := ⟨_, rfl⟩
    rw [← hnn] at hn t65 ⊢
    rw [← hnn] at HFr
    cases hf : frB l0 with
    | false =>
      rw [hf] at HFr
      clear hr0 hc0 h65 hk hfr hlg hb0 hb hnn hf
      go_enter Try.func12, Try.ntmps12
      go_wp2_with (first | (go_at_call 27; refine HFr.out.mono ?_; rintro e w' ⟨rfl, hd⟩; obtain ⟨⟨nd, rfl⟩⟩ := hd))
      exact bodyPost_ret (results_cell_row rfl _ _ w.heap.size 30 #[.slice none 0 0, .int .i64 1] (0, 0) _ rfl (((Blk.fresh _ _ _).set 0 _).set 1 _) Try.underlying30 rfl (by kernel_rfl)) rfl ⟨rfl, ((pw_below_drewN ((Below.refl _ _).alloc (Nat.le_refl _) _) _).setCell (by simp) _).setCell (by simp) _⟩
    | true =>
      rw [hf] at HFr hb
      have hd : decide (7 ≤ a1 ∧ a1 ≤ 12) = false := by rw [decide_eq_false_iff_not]; exact fun h => hb ⟨rfl, h⟩
      rw [hd] at HLg
      clear hr0 hc0 h65 hk hfr hlg hb0 hb hnn hf hd
      go_enter Try.func12, Try.ntmps12
      go_wp2_with (first | (go_at_call 27; refine HFr.out.mono ?_; rintro e w' ⟨rfl, hd⟩; obtain ⟨⟨nd, rfl⟩⟩ := hd) | (go_at_call 28; refine (HLg.out _).mono ?_; rintro e w' ⟨rfl, hd⟩; obtain ⟨⟨nd2, rfl⟩⟩ := hd))
      exact bodyPost_ret (results_cell_row rfl _ _ w.heap.size 30 #[.slice none 0 0, .int .i64 1] (0, 0) _ rfl (((Blk.fresh _ _ _).set 0 _).set 1 _) Try.underlying30 rfl (by kernel_rfl)) rfl ⟨rfl, ((pw_below_drewN ((Below.refl _ _).alloc (Nat.le_refl _) _) _).setCell (by simp) _).setCell (by simp) _⟩
  · obtain ⟨n, hnn⟩ : ∃ n, n = l0.length := ⟨_, rfl⟩
    rw [← hnn] at hn ⊢
    have t65 : ((n : Int) != 65) = true := by simp; omega
    clear hr0 hc0 h65 hb hnn
    go_enter Try.func12, Try.ntmps12
    go_wp2_with fail
    exact bodyPost_ret (results_cell_row rfl _ _ w.heap.size 30 #[.slice none 0 0, .int .i64 1] (0, 0) _ rfl (Blk.fresh _ _ _) Try.underlying30 rfl (by kernel_rfl)) rfl ⟨rfl, (Below.refl _ _).alloc (Nat.le_refl _) _⟩

theorem share_walk (y t : Int) (m P : Nat) (hy : 0 < y) (hy1 : y ≤ 16777216) (hP : P = 2 ^ m) (hP1 : P ≤ 4096) (ht : 0 < t) : Own.mx 1 (wrap64 ((wrap64 (y * 2 ^ m)).tdiv t)) = share (P : Int) t y := by
  have e : ((2 : Int) ^ m) = (P : Int) := by rw [hP]; simp
  have h1 : y * (P : Int) ≤ 16777216 * 4096 := Int.mul_le_mul hy1 (by omega) (by omega) (by omega)
  have h0 : 0 ≤ y * (P : Int) := Int.mul_nonneg (by omega) (by omega)
  have h2 : y * (P : Int) / t ≤ y * (P : Int) := Int.ediv_le_self _ h0
  have h3 : 0 ≤ y * (P : Int) / t := Int.ediv_nonneg h0 (by omega)
  unfold share
  rw [if_pos hy, e, w64 (x := y * (P : Int)) (by omega) (by omega), Int.tdiv_eq_ediv_of_nonneg h0, w64 (x := y * (P : Int) / t) (by omega) (by omega), Own.mx_eq]

set_option maxRecDepth 20000 in
set_option maxHeartbeats 8000000 in
theorem rnorm_ok (A0 : Option Addr) (c0 : Nat) (l0 : List Int) (m : Nat) (w : World) (hr0 : Kd.C (Kd.int .i64) w A0 l0.length l0) (hc0 : l0.length ≤ c0) (hf : Fr l0) (h7 : 7 ≤ m) (h12 : m ≤ 12) :
    Calls Try.prog 12 #[.slice A0 l0.length c0, .int .i64 (m : Int)] w fun e w' => ∃ v, e = .returned (.agg #[v, .int .i64 0]) ∧ Owns w' 3 v (ints .i64 (normL l0 ((2 ^ m : Nat) : Int))) ∧ (∀ g, v.ownBlock = some g → w.heap.size ≤ g) ∧ Below w.heap.size w w' := by
  have h65 := hf.len
  obtain ⟨i0, hi, hz0, hz1, hz2⟩ := info_partsI infoI64
  obtain ⟨k, hk⟩ := (freqs_is l0 h65).rounds
  rw [(frB_iff l0).2 hf] at hk
  obtain ⟨B, hB⟩ : ∃ B, B = w.heap.size := ⟨_, rfl⟩
  have hst : StN B w (w.alloc (.cells #[.slice none 0 0, .int .i64 0] 30)) := ⟨by rw [hB]; exact Blk.fresh _ _ _, by rw [hB]; exact (Below.refl _ _).alloc (Nat.le_refl _) _⟩
  have hfr := fun w1 (h : Below w.heap.size w w1) => wringerref7_freqs.calls k A0 c0 l0 _ w1 (Kd.C_below hr0 h) hc0 hk
  have hfr2 := hfr _ (by rw [← hB]; exact hst.low)
  have hlg := fun w1 => wringerref7_isLog.calls (m : Int) _ w1 (isLogF (m : Int))
  have hlt : decide (7 ≤ (m : Int) ∧ (m : Int) ≤ 12) = true := by rw [decide_eq_true_eq]; omega
  rw [hlt] at hlg
  have hR := Own.rd_of_C hr0
  have hro := fun w1 (h : Below w.heap.size w w1) => rorder_calls A0 l0.length c0 l0 w1 (hR.later h) (by omega)
  obtain ⟨P, hP⟩ : ∃ P, P = 2 ^ m := ⟨_, rfl⟩
  have hshl := shl_int m (by omega)
  have hp12 := pow12 m h12
  have hp7 : 128 ≤ P := by have h := Nat.pow_le_pow_right (show 0 < 2 by decide) h7; rw [hP]; omega
  rw [← hP] at hshl hp12 ⊢
  rw [h65] at hR hro hfr2 ⊢
  rw [← hB]
  have HB := kept hB
  have HF := kept hf
  have HR := kept hR
  have HRo := kept hro
  have HFr := kept hfr2
  have HLg := kept hlg
  have H65 := kept h65
  have HSt := kept hst
  have HP := kept hP
  have t65 : (65 != (65 : Int)) = false := rfl
  have hm63 : m < 63 := by omega
  clear hB hf hR hro hfr hfr2 hlg h65 hst hk hr0 hc0 hlt hP h7 h12
  go_enter Try.func12, Try.ntmps12
  go_wp2_with (first | (go_at_call 27; refine HFr.out.mono ?_; rintro e w' ⟨rfl, hd⟩; obtain ⟨⟨nd, rfl⟩⟩ := hd) | (go_at_call 28; refine (HLg.out _).mono ?_; rintro e w' ⟨rfl, hd⟩; obtain ⟨⟨nd2, rfl⟩⟩ := hd))
  rw [show w.heap.size = B from HB.out.symm]
  generalize hw1 : World.drewN _ _ = w1
  have HSt1 : Kept (StN B w w1) := kept (by rw [← hw1]; exact HSt.out.later (pw_below_drewN (Below.refl _ _) _))
  clear hw1 HSt HFr HLg
  have HR1 := kept (HR.out.later (by rw [← HB.out]; exact HSt1.out.low))
  go_loopw [5, 7] (fun s5 s7 wr => ∃ i : Nat, i ≤ 65 ∧ s7 = .int .i64 (i : Int) ∧ (∃ t : Int, t = (l0.take i).sum ∧ s5 = .int .i64 t) ∧ wr = w1) (fun s5 s7 _ => 65 - (intOf s7).toNat)
  case atStart => exact ⟨0, by omega, rfl, ⟨0, by simp, rfl⟩, rfl⟩
  case round =>
    obtain ⟨i, hi65, rfl, ⟨t, ht, rfl⟩, rfl⟩ := hrel
    have htb := HF.out.take_sum i
    rw [← ht] at htb
    obtain ⟨tb0, tb1⟩ := htb
    by_cases hlt : i < 65
    · have hil : i < l0.length := by rw [H65.out]; exact hlt
      obtain ⟨x, rfl, hc⟩ := HR1.out.at (Own.ints_at .i64 l0 i hil)
      have hfm := Nl.getD_mem hil
      have hy0 := HF.out.nn _ hfm
      have hy1 := HF.out.le _ hfm
      have hsn := Nl.take_sum l0 i hil
      clear hfm
      obtain ⟨y, hy⟩ : ∃ y, y = l0.getD i 0 := ⟨_, rfl⟩
      rw [← hy] at hc hy0 hy1 hsn
      rw [← ht] at hsn
      have HSn := kept hsn
      clear hsn ht hy hil
      go_wp2_with fail
      go_roundw
      case rel => exact ⟨i + 1, by omega, by go_num, ⟨t + y, HSn.out.symm, by go_num⟩, trivial⟩
      case measure => simp [intOf]; omega
    · have hie : i = 65 := by omega
      subst hie
      have hte : t = l0.sum := by rw [ht, ← H65.out, List.take_length]
      have hpos : 0 < t := by rw [hte]; exact HF.out.pos
      have HT := kept hte
      clear ht hte hlt tb0
      go_wp2_with (first | (refine wpList_mk1 rfl _ _ 24 rfl 3 i0 (.int .i64 0) 8 Try.underlying24 hi hz0 hz1 hz2 rfl .i64 .i64 _ _ 65 rfl rfl rfl rfl (by decide) (by decide) ?_))
      intro w2 hO hb hlt2
      obtain ⟨g, hg⟩ : ∃ g, g = wr.heap.size := ⟨_, rfl⟩
      have HSt2 : Kept (StR B w w2 g (shN l0 (P : Int) t 0)) := kept ⟨HSt1.out.later hb, by rw [hg, shN_zero, H65.out]; simpa [ints] using hO, by have := HSt1.out.sz; omega⟩
      rw [← hg]
      clear hO hb hlt2 hg
      have HR2 := kept (HR.out.later (by rw [← HB.out]; exact HSt2.out.st.low))
      clear HSt1 HR1
      go_wp2_with fail
      go_loopw [6, 9] (fun s6 s9 wq => ∃ i : Nat, i ≤ 65 ∧ s9 = .int .i64 (i : Int) ∧ (∃ q : Int, q = (shN l0 (P : Int) t i).sum ∧ s6 = .int .i64 q) ∧ StR B w wq g (shN l0 (P : Int) t i)) (fun s6 s9 _ => 65 - (intOf s9).toNat)
      case atStart => exact ⟨0, by omega, rfl, ⟨0, by rw [shN_zero]; simp, rfl⟩, HSt2.out⟩
      case round =>
        obtain ⟨i, hi65, rfl, ⟨q, hq, rfl⟩, hst⟩ := hrel
        obtain ⟨wq, rfl⟩ : ∃ wq, wq = wr := ⟨wr, rfl⟩
        have hqb := HF.out.shN_sum (size := (P : Int)) (by omega) i (by rw [H65.out]; exact hi65)
        rw [← HT.out, ← hq] at hqb
        have hqb2 : (P : Int) * (i : Int) ≤ 4096 * 65 := Int.mul_le_mul (by omega) (by omega) (by omega) (by omega)
        have hq0 : 0 ≤ q := hqb.1
        have hq1 : q ≤ 266240 := by omega
        clear hqb hqb2
        have HSt3 := kept hst
        have hrd := HR.out.later (show Below w.heap.size w wq by rw [← HB.out]; exact hst.st.low)
        clear hst
        by_cases hlt : i < 65
        · have hil : i < l0.length := by rw [H65.out]; exact hlt
          obtain ⟨x, rfl, hc⟩ := hrd.at (Own.ints_at .i64 l0 i hil)
          have hfm := Nl.getD_mem hil
          have hy0 := HF.out.nn _ hfm
          have hy1 := HF.out.le _ hfm
          have hsl := HF.out.share_le (size := (P : Int)) (by omega) hfm
          have hsn := sum_shN l0 (P : Int) t i hil
          have hst3 := shN_succ l0 (P : Int) t i hil
          have hsame := shN_same l0 (P : Int) t i hil
          have hat := shN_at l0 (P : Int) t i hil
          rw [← HT.out] at hsl
          clear hfm
          obtain ⟨y, hy⟩ : ∃ y, y = l0.getD i 0 := ⟨_, rfl⟩
          rw [← hy] at hc hy0 hy1 hsn hsl hst3 hsame
          rw [← hq] at hsn
          have HSn := kept hsn
          have HSt4 := kept hst3
          have HSame := kept hsame
          obtain ⟨sl0, sl1⟩ := hsl
          by_cases hpos2 : 0 < y
          · have hxl : (shN l0 (P : Int) t i).length = 65 := by rw [length_shN _ _ _ _ (by omega)]; exact H65.out
            obtain ⟨xs, hxs⟩ : ∃ xs, xs = shN l0 (P : Int) t i := ⟨_, rfl⟩
            rw [← hxs] at HSt3 HSt4 HSame hxl hq hat
            have c1 := HSt3.out.cell i (by omega)
            have f1 : wq.frozen? ⟨g, i, none⟩ = false := HSt3.out.row.free i
            clear hxs hsn hst3 hsame hq hil hy hrd hat
            have hsw := share_walk y t m P hpos2 hy1 HP.out (by omega) hpos
            obtain ⟨z, hz⟩ : ∃ z, z = share (P : Int) t y := ⟨_, rfl⟩
            rw [← hz] at hsw sl0 sl1 HSt4 HSn
            have HSw := kept hsw
            clear hsw hz
            have HSt5 : Kept (StR B w (wq.setCell ⟨g, i, none⟩ (.int .i64 z)) g (shN l0 (P : Int) t (i + 1))) := kept (by rw [HSt4.out]; exact HSt3.out.store i z)
            go_wp2_with fail
            go_roundw
            case rel =>
              refine ⟨i + 1, by omega, by go_num, ⟨q + z, HSn.out.symm, ?_⟩, ?_⟩
              · rw [HSw.out, w64 (by omega) (by omega)]
              · rw [HSw.out]; exact HSt5.out
            case measure => simp [intOf]; omega
          · have hn0 : y ≤ 0 := by omega
            have HSt5 : Kept (StR B w wq g (shN l0 (P : Int) t (i + 1))) := kept (by rw [HSame.out hpos2]; exact HSt3.out)
            have HQ : Kept (q = (shN l0 (P : Int) t (i + 1)).sum) := kept (by rw [HSame.out hpos2]; exact hq)
            clear hsn hst3 hsame hq hil hy hrd hat
            go_wp2_with fail
            go_roundw
            case rel => exact ⟨i + 1, by omega, by go_num, ⟨q, HQ.out, by go_num⟩, HSt5.out⟩
            case measure => simp [intOf]; omega
        · have hie : i = 65 := by omega
          subst hie
          obtain ⟨xs, hxs⟩ : ∃ xs, xs = shares l0 (P : Int) t := ⟨_, rfl⟩
          have hxe : shN l0 (P : Int) t 65 = xs := by rw [hxs, ← H65.out]; exact shN_all l0 (P : Int) t
          rw [hxe] at HSt3 hq
          have hxl : xs.length = 65 := by rw [hxs, length_shares]; exact H65.out
          have HX := kept hxs
          have HQ := kept hq
          have HXl := kept hxl
          have hrd2 := HR.out.later (show Below w.heap.size w wq by rw [← HB.out]; exact HSt3.out.st.low)
          have HRd2 := kept hrd2
          clear hxs hq hxe hrd hrd2 hlt
          by_cases hls : q < (P : Int)
          · obtain ⟨tl, htl, hk65⟩ := HF.out.head
            obtain ⟨k, hk⟩ : ∃ k, k = (ordL l0).headD 0 := ⟨_, rfl⟩
            rw [← hk] at htl hk65
            have hok := HF.out.shares_ok (size := (P : Int)) (by omega)
            rw [← HT.out, ← HX.out] at hok
            have hnn : ∀ x ∈ xs, 0 ≤ x := fun x hx => by
              obtain ⟨i, hi, rfl⟩ := mem_getD hx
              exact hok.nn i (by rw [H65.out, ← hxl]; exact hi)
            have hk2 : k < xs.length := by omega
            have hge := hnn _ (Nl.getD_mem hk2)
            have hle := Nl.le_sum xs hnn _ (Nl.getD_mem hk2)
            rw [← HQ.out] at hle
            obtain ⟨x, hx⟩ : ∃ x, x = xs.getD k 0 := ⟨_, rfl⟩
            have HNorm : Kept (normL l0 (P : Int) = xs.set k (x + (P : Int) - q)) := kept (by
              unfold normL
              rw [← HT.out, ← HX.out, ← HQ.out, if_pos (by omega), ← hk]
              unfold bump; rw [← hx]; congr 1; omega)
            rw [← hx] at hge hle
            have HX6 := kept hx
            have HTl := kept htl
            have HC := kept (HRo.out wq (by rw [← HB.out]; exact HSt3.out.st.low))
            clear hok hnn hk2 hx htl hk
            go_wp2_with fail
            refine HC.out.mono ?_
            rintro e w6 ⟨v6, rfl, hro6⟩
            have HSt7 := kept (HSt3.out.later hro6.low)
            have hrow6 := hro6.own
            rw [HTl.out] at hrow6
            obtain ⟨g6, cap6, rfl, hc6, _⟩ := hrow6.row (by simp [idx])
            have hcell6 : w6.cell? ⟨g6, 0, none⟩ = some (.int .i64 (k : Int)) := hrow6.cell (j := 0) (by simp [idx])
            have hlen6 : (idx (k :: tl)).length = tl.length + 1 := by simp
            rw [hlen6] at hc6
            rw [hlen6]
            have hy6 := HSt7.out.cell k (by omega)
            rw [← HX6.out] at hy6
            clear hro6 hrow6 hlen6
            have l6 := lat_cell hy6
            go_wp2_with fail
            refine wp_region_mixL [] [0,1,2,3,4,5,6,7,8,9,10,11] [12] (by kernel_rfl) (by kernel_rfl) ?_
            intro K hK
            simp only [pick, List.filterMap_cons, List.filterMap_nil, List.getElem?_cons_zero, List.getElem?_cons_succ]
            refine wpQuiet_nil ?_
            repeat (show wpQuiet _ _ _ _ (_ :: _) _; go_big_quiet_step (fail))
            refine wpQuiet_nil ?_
            show wpList _ _ _ [_] _ _
            generalize hwd : World.drew w6 = w7
            have HSt8 : Kept (StR B w w7 g xs) := kept (by rw [← hwd]; exact HSt7.out.later ((Below.refl _ _).drew))
            clear hwd l6 hy6 hcell6
            have c7 := HSt8.out.cell k (by omega)
            have f7 : w7.frozen? ⟨g, k, none⟩ = false := HSt8.out.row.free k
            have HSt9 : Kept (StR B w (w7.setCell ⟨g, k, none⟩ (.int .i64 (x + (P : Int) - q))) g (normL l0 (P : Int))) := kept (by rw [HNorm.out]; exact HSt8.out.store k _)
            go_wp2_with fail
            refine hK _ _ ?_
            have HNl : Kept ((normL l0 (P : Int)).length = 65) := kept (by rw [HNorm.out, List.length_set]; exact HXl.out)
            generalize hwe : World.setCell w7 _ _ = w8
            have HSt10 : Kept (StR B w w8 g (normL l0 (P : Int))) := kept (by rw [← hwe]; exact HSt9.out)
            clear hwe c7 f7
            rw [hshl]
            go_wp2_with fail
            go_loopw [6] (fun s6 wr => ∃ (q2 : Int) (ys : List Int), s6 = .int .i64 q2 ∧ StR B w wr g ys ∧ ys.length = 65 ∧ normL l0 (P : Int) = decTop (q2 - (P : Int)).toNat ys ∧ ((P : Int) < q2 → Ok l0 ys ∧ ys.sum = q2) ∧ 0 ≤ q2 ∧ q2 ≤ 266240) (fun s6 _ => (intOf s6 - (P : Int)).toNat)
            case atStart => exact ⟨q, _, rfl, HSt10.out, HNl.out, by rw [show (q - (P : Int)).toNat = 0 by omega]; rfl, fun h => by omega, hq0, hq1⟩
            case round =>
              obtain ⟨q2, ys, rfl, hst, hyl, hnorm, hok, hq20, hq21⟩ := hrel
              obtain ⟨wl, rfl⟩ : ∃ wl, wl = wr := ⟨wr, rfl⟩
              by_cases hgt : (P : Int) < q2
              · obtain ⟨hok1, hsum⟩ := hok hgt
                obtain ⟨htop, tl, htl⟩ := top_of (l := ys) (by rw [hyl, hsum]; omega)
                obtain ⟨k, hk⟩ : ∃ k, k = (ordL ys).headD 0 := ⟨_, rfl⟩
                rw [← hk] at htop htl
                have hk65 : k < 65 := by rw [← hyl]; exact htop.lt
                have htwo := htop.two
                have hle := Nl.le_sum ys (fun x hx => by
                  obtain ⟨i, hi, rfl⟩ := mem_getD hx
                  exact hok1.nn i (by rw [H65.out, ← hyl]; exact hi)) _ (Nl.getD_mem htop.lt)
                rw [hsum] at hle
                obtain ⟨x, hx⟩ : ∃ x, x = ys.getD k 0 := ⟨_, rfl⟩
                have hcall := rorder_calls (some ⟨g, 0, none⟩) 65 65 ys wl hst.row.rd (by omega)
                have HC := kept hcall
                have HSt6 := kept hst
                have HTl := kept htl
                have HYl := kept hyl
                have HNew : Kept (normL l0 (P : Int) = decTop (q2 - 1 - (P : Int)).toNat (bump ys k (-1)) ∧ Ok l0 (bump ys k (-1)) ∧ (bump ys k (-1)).sum = q2 - 1) := kept ⟨by
                  rw [hnorm, show (q2 - (P : Int)).toNat = (q2 - 1 - (P : Int)).toNat + 1 by omega, hk]; rfl, hok1.step htop, by rw [sum_bump ys k _ htop.lt, hsum]; rfl⟩
                rw [← hx] at htwo hle
                have HX6 := kept hx
                have HBm : Kept (bump ys k (-1) = ys.set k (x - 1)) := kept (by unfold bump; rw [hx]; rfl)
                clear hok1 hsum htop htl hk hcall hst hyl hnorm hok hx
                go_wp2_with fail
                refine HC.out.mono ?_
                rintro e w6 ⟨v6, rfl, hro6⟩
                have HSt7 := kept (HSt6.out.later hro6.low)
                have hrow6 := hro6.own
                rw [HTl.out] at hrow6
                obtain ⟨g6, cap6, rfl, hc6, _⟩ := hrow6.row (by simp [idx])
                have hcell6 : w6.cell? ⟨g6, 0, none⟩ = some (.int .i64 (k : Int)) := hrow6.cell (j := 0) (by simp [idx])
                have hlen6 : (idx (k :: tl)).length = tl.length + 1 := by simp
                rw [hlen6] at hc6
                rw [hlen6]
                have hy6 := HSt7.out.cell k (by rw [HYl.out]; exact hk65)
                rw [← HX6.out] at hy6
                have f6 : w6.frozen? ⟨g, k, none⟩ = false := HSt7.out.row.free k
                have HSt8 : Kept (StR B w (w6.setCell ⟨g, k, none⟩ (.int .i64 (x - 1))) g (bump ys k (-1))) := kept (by rw [HBm.out]; exact HSt7.out.store k (x - 1))
                clear hro6 hrow6 hlen6
                go_wp2_with fail
                go_roundw
                case rel =>
                  refine ⟨q2 - 1, bump ys k (-1), by go_num, HSt8.out, by rw [length_bump]; exact HYl.out, HNew.out.1, fun _ => HNew.out.2, by omega, by omega⟩
                case measure => simp [intOf]; omega
              · have hz : (q2 - (P : Int)).toNat = 0 := by omega
                rw [hz] at hnorm
                have hfin : normL l0 (P : Int) = ys := hnorm
                have HSt6 := kept hst
                have HFin := kept hfin
                have d0 : wl.cell? ⟨B, 0, none⟩ = some (.slice none 0 0) := hst.st.res.cell rfl
                have d1 : wl.cell? ⟨B, 1, none⟩ = some (.int .i64 0) := hst.st.res.cell rfl
                have e0 : wl.frozen? ⟨B, 0, none⟩ = false := hst.st.res.free 0
                have e1 : wl.frozen? ⟨B, 1, none⟩ = false := hst.st.res.free 1
                clear hst hyl hnorm hok hz hfin
                go_wp2_with fail
                refine bodyPost_ret (results_cell_row rfl _ _ B 30 #[.slice (some ⟨g, 0, none⟩) 65 65, .int .i64 0] (0, 0) _ rfl ((HSt6.out.st.res.set 0 _).set 1 _) Try.underlying30 rfl (by kernel_rfl)) rfl ⟨_, rfl, ?_, ?_, ?_⟩
                · rw [HFin.out]
                  exact (HSt6.out.row.setOther (a := ⟨B, 0, none⟩) (HSt6.out.row.ne HSt6.out.st.res (by decide)) _).setOther (a := ⟨B, 1, none⟩) (HSt6.out.row.ne HSt6.out.st.res (by decide)) _
                · intro g' hg'
                  simp [Value.ownBlock] at hg'
                  rw [← hg']; exact HSt6.out.new
                · have h := (HSt6.out.st.low.setCell (p := ⟨B, 0, none⟩) (Nat.le_refl _) (.slice (some ⟨g, 0, none⟩) 65 65)).setCell (p := ⟨B, 1, none⟩) (Nat.le_refl _) (.int .i64 0)
                  exact h
          · have HNorm : Kept (normL l0 (P : Int) = decTop (q - (P : Int)).toNat xs) := kept (by
              unfold normL
              rw [← HT.out, ← HX.out, ← HQ.out]
              by_cases he : q ≤ (P : Int)
              · rw [if_pos he, show q = (P : Int) by omega, Int.sub_self, bump_zero]; rfl
              · rw [if_neg he])
            have HOk : Kept (Ok l0 xs) := kept (by
              have hok := HF.out.shares_ok (size := (P : Int)) (by omega)
              rw [← HT.out, ← HX.out] at hok; exact hok)
            go_wp2_with fail
            go_loopw [6] (fun s6 wr => ∃ (q2 : Int) (ys : List Int), s6 = .int .i64 q2 ∧ StR B w wr g ys ∧ ys.length = 65 ∧ normL l0 (P : Int) = decTop (q2 - (P : Int)).toNat ys ∧ ((P : Int) < q2 → Ok l0 ys ∧ ys.sum = q2) ∧ 0 ≤ q2 ∧ q2 ≤ 266240) (fun s6 _ => (intOf s6 - (P : Int)).toNat)
            case atStart => exact ⟨q, xs, rfl, HSt3.out, HXl.out, HNorm.out, fun _ => ⟨HOk.out, HQ.out.symm⟩, hq0, hq1⟩
            case round =>
              obtain ⟨q2, ys, rfl, hst, hyl, hnorm, hok, hq20, hq21⟩ := hrel
              obtain ⟨wl, rfl⟩ : ∃ wl, wl = wr := ⟨wr, rfl⟩
              by_cases hgt : (P : Int) < q2
              · obtain ⟨hok1, hsum⟩ := hok hgt
                obtain ⟨htop, tl, htl⟩ := top_of (l := ys) (by rw [hyl, hsum]; omega)
                obtain ⟨k, hk⟩ : ∃ k, k = (ordL ys).headD 0 := ⟨_, rfl⟩
                rw [← hk] at htop htl
                have hk65 : k < 65 := by rw [← hyl]; exact htop.lt
                have htwo := htop.two
                have hle := Nl.le_sum ys (fun x hx => by
                  obtain ⟨i, hi, rfl⟩ := mem_getD hx
                  exact hok1.nn i (by rw [H65.out, ← hyl]; exact hi)) _ (Nl.getD_mem htop.lt)
                rw [hsum] at hle
                obtain ⟨x, hx⟩ : ∃ x, x = ys.getD k 0 := ⟨_, rfl⟩
                have hcall := rorder_calls (some ⟨g, 0, none⟩) 65 65 ys wl hst.row.rd (by omega)
                have HC := kept hcall
                have HSt6 := kept hst
                have HTl := kept htl
                have HYl := kept hyl
                have HNew : Kept (normL l0 (P : Int) = decTop (q2 - 1 - (P : Int)).toNat (bump ys k (-1)) ∧ Ok l0 (bump ys k (-1)) ∧ (bump ys k (-1)).sum = q2 - 1) := kept ⟨by
                  rw [hnorm, show (q2 - (P : Int)).toNat = (q2 - 1 - (P : Int)).toNat + 1 by omega, hk]; rfl, hok1.step htop, by rw [sum_bump ys k _ htop.lt, hsum]; rfl⟩
                rw [← hx] at htwo hle
                have HX6 := kept hx
                have HBm : Kept (bump ys k (-1) = ys.set k (x - 1)) := kept (by unfold bump; rw [hx]; rfl)
                clear hok1 hsum htop htl hk hcall hst hyl hnorm hok hx
                go_wp2_with fail
                refine HC.out.mono ?_
                rintro e w6 ⟨v6, rfl, hro6⟩
                have HSt7 := kept (HSt6.out.later hro6.low)
                have hrow6 := hro6.own
                rw [HTl.out] at hrow6
                obtain ⟨g6, cap6, rfl, hc6, _⟩ := hrow6.row (by simp [idx])
                have hcell6 : w6.cell? ⟨g6, 0, none⟩ = some (.int .i64 (k : Int)) := hrow6.cell (j := 0) (by simp [idx])
                have hlen6 : (idx (k :: tl)).length = tl.length + 1 := by simp
                rw [hlen6] at hc6
                rw [hlen6]
                have hy6 := HSt7.out.cell k (by rw [HYl.out]; exact hk65)
                rw [← HX6.out] at hy6
                have f6 : w6.frozen? ⟨g, k, none⟩ = false := HSt7.out.row.free k
                have HSt8 : Kept (StR B w (w6.setCell ⟨g, k, none⟩ (.int .i64 (x - 1))) g (bump ys k (-1))) := kept (by rw [HBm.out]; exact HSt7.out.store k (x - 1))
                clear hro6 hrow6 hlen6
                go_wp2_with fail
                go_roundw
                case rel =>
                  refine ⟨q2 - 1, bump ys k (-1), by go_num, HSt8.out, by rw [length_bump]; exact HYl.out, HNew.out.1, fun _ => HNew.out.2, by omega, by omega⟩
                case measure => simp [intOf]; omega
              · have hz : (q2 - (P : Int)).toNat = 0 := by omega
                rw [hz] at hnorm
                have hfin : normL l0 (P : Int) = ys := hnorm
                have HSt6 := kept hst
                have HFin := kept hfin
                have d0 : wl.cell? ⟨B, 0, none⟩ = some (.slice none 0 0) := hst.st.res.cell rfl
                have d1 : wl.cell? ⟨B, 1, none⟩ = some (.int .i64 0) := hst.st.res.cell rfl
                have e0 : wl.frozen? ⟨B, 0, none⟩ = false := hst.st.res.free 0
                have e1 : wl.frozen? ⟨B, 1, none⟩ = false := hst.st.res.free 1
                clear hst hyl hnorm hok hz hfin
                go_wp2_with fail
                refine bodyPost_ret (results_cell_row rfl _ _ B 30 #[.slice (some ⟨g, 0, none⟩) 65 65, .int .i64 0] (0, 0) _ rfl ((HSt6.out.st.res.set 0 _).set 1 _) Try.underlying30 rfl (by kernel_rfl)) rfl ⟨_, rfl, ?_, ?_, ?_⟩
                · rw [HFin.out]
                  exact (HSt6.out.row.setOther (a := ⟨B, 0, none⟩) (HSt6.out.row.ne HSt6.out.st.res (by decide)) _).setOther (a := ⟨B, 1, none⟩) (HSt6.out.row.ne HSt6.out.st.res (by decide)) _
                · intro g' hg'
                  simp [Value.ownBlock] at hg'
                  rw [← hg']; exact HSt6.out.new
                · have h := (HSt6.out.st.low.setCell (p := ⟨B, 0, none⟩) (Nat.le_refl _) (.slice (some ⟨g, 0, none⟩) 65 65)).setCell (p := ⟨B, 1, none⟩) (Nat.le_refl _) (.int .i64 0)
                  exact h
end Go.Proofs.Ytbldocbijihpgaa.PA

-- ---- PAx13
/- norm.Of: what the call answers, for every list and log. Conditions: the list's length fits a slice. -/
namespace Go.Proofs.Ytbldocbijihpgaa.PA
open Go.RowKit Go.Proofs.YtbldocbijihpgaaW.PrintWords Go.Proofs.YtbldocbijihpgaaW.PrintLast Go.Proofs.YtbldocbijihpgaaW.PrintMore
set_option linter.unusedVariables false
set_option linter.unusedSimpArgs false

def normO (l : List Int) (a : Int) : List Int × Int := if Nl.frB l = true ∧ 7 ≤ a ∧ a ≤ 12 then (Nl.normL l ((2 ^ a.toNat : Nat) : Int), 0) else ([], 1)
def norm_Of.f (l0 : List Int) (a1 : Int) : Option (List Int × Int) := if l0.length < 200000000000000 then some (normO l0 a1) else none
theorem norm_Of.calls (A0 : Option Addr) (c0 : Nat) (l0 : List Int) (a1 : Int) (r1 : List Int) (r2 : Int) (w : World) (hr0 : Kd.C (Kd.int .i64) w A0 l0.length l0) (hc0 : l0.length ≤ c0) (h : norm_Of.f l0 a1 = some (r1, r2)) :
    Calls Try.prog 11 #[.slice A0 l0.length c0, .int .i64 a1] w fun e w' => ∃ v0_ : Value, e = .returned (.tuple #[v0_, .int .i64 r2]) ∧ Kd.R (Kd.int .i64) 3 w' w.heap.size (fun _ => True) v0_ r1 ∧ Below w.heap.size w w' := by
  unfold norm_Of.f at h
  split at h
  · rename_i hn
    have h := Option.some.inj h
    unfold normO at h
    have hR := Own.rd_of_C hr0
    split at h
    · rename_i hg
      obtain ⟨rfl, rfl⟩ := Prod.mk.inj h
      obtain ⟨m, rfl⟩ := Int.eq_ofNat_of_zero_le (show 0 ≤ a1 by omega)
      have hf := (Nl.frB_iff l0).1 hg.1
      have h65 := hf.len
      rw [h65] at hR ⊢
      refine (NormF.norm_ok A0 c0 l0 m w hR hf (by omega) (by omega)).mono ?_
      rintro e w' ⟨v, rfl, ho, hnew, hb⟩
      exact ⟨v, rfl, Own.R_of_owns (by rw [Int.toNat_natCast]; exact ho) hnew, hb⟩
    · rename_i hg
      obtain ⟨rfl, rfl⟩ := Prod.mk.inj h
      refine (NormF.norm_bad A0 l0.length c0 l0 a1 w hR hn hg).mono ?_
      rintro e w' ⟨rfl, rfl⟩
      exact ⟨_, rfl, Kd.R_nil _ _ _ _ _, Below.refl _ _⟩
  · cases h
end Go.Proofs.Ytbldocbijihpgaa.PA

-- ---- PAx14

namespace Go.Proofs.Ytbldocbijihpgaa.PA
open Go.RowKit Go.Proofs.YtbldocbijihpgaaW.PrintWords Go.Proofs.YtbldocbijihpgaaW.PrintLast Go.Proofs.YtbldocbijihpgaaW.PrintMore
attribute [local go_sem] max2_int min2_int max_two min_two max_three min_three max_four min_four   -- for this text's walks alone
set_option linter.unusedVariables false
set_option linter.unusedSimpArgs false

/-! ### wringerlaw1_Err: function 14 -/
def wringerlaw1_Err.f (a0 : Int) : Option (Int) := some a0
set_option maxHeartbeats 8000000 in
set_option maxRecDepth 100000 in
theorem wringerlaw1_Err.calls (a0 : Int) (r : Int) (w : World) (h : wringerlaw1_Err.f a0 = some r) :
    Calls Try.prog 14 #[.int .i64 a0] w fun e w' => e = .returned (.int .i64 r) ∧ Drawn0 w w' := by
  have H : (some a0) = some r := h
  clear h
  obtain rfl := Option.some.inj H
  go_enter Try.func14, Try.ntmps14
  go_wp2
  go_ret
  exact ⟨by first | rfl | (simp; done) | (simp [*]; done), by repeat (first | exact Drawn0.refl _ | apply Drawn0.step)⟩

end Go.Proofs.Ytbldocbijihpgaa.PA

-- ---- PAx3

namespace Go.Proofs.Ytbldocbijihpgaa.PA
open Go.RowKit Go.Proofs.YtbldocbijihpgaaW.PrintWords Go.Proofs.YtbldocbijihpgaaW.PrintLast Go.Proofs.YtbldocbijihpgaaW.PrintMore
attribute [local go_sem] max2_int min2_int max_two min_two max_three min_three max_four min_four   -- for this text's walks alone
set_option linter.unusedVariables false
set_option linter.unusedSimpArgs false

/-! ### norm_mayLog: function 23 -/
def norm_mayLog.f (a0 : Int) : Option (Bool) := if a0 ≥ 7 then (some (decide (a0 ≤ 12))) else (some false)
set_option maxHeartbeats 8000000 in
set_option maxRecDepth 100000 in
theorem norm_mayLog.calls (a0 : Int) (r : Bool) (w : World) (h : norm_mayLog.f a0 = some r) :
    Calls Try.prog 23 #[.int .i64 a0] w fun e w' => e = .returned (.bool r) ∧ Drawn0 w w' := by
  have H : (if a0 ≥ 7 then (some (decide (a0 ≤ 12))) else (some false)) = some r := h
  clear h
  by_cases c2 : a0 ≥ 7
  · rw [if_pos c2] at H
    have c2b0 : decide (7 ≤ a0) = true := decide_eq_true c2
    clear c2
    obtain rfl := Option.some.inj H
    go_enter Try.func23, Try.ntmps23
    go_wp2
    go_ret
    exact ⟨by first | rfl | (simp; done) | (simp [*]; done), by repeat (first | exact Drawn0.refl _ | apply Drawn0.step)⟩
  · rw [if_neg c2] at H
    have c2b0 : decide (7 ≤ a0) = false := decide_eq_false c2
    clear c2
    obtain rfl := Option.some.inj H
    go_enter Try.func23, Try.ntmps23
    go_wp2
    go_ret
    exact ⟨by first | rfl | (simp; done) | (simp [*]; done), by repeat (first | exact Drawn0.refl _ | apply Drawn0.step)⟩

end Go.Proofs.Ytbldocbijihpgaa.PA

-- ---- PAx15

namespace Go.Proofs.Ytbldocbijihpgaa.PA
open Go.RowKit Go.Proofs.YtbldocbijihpgaaW.PrintWords Go.Proofs.YtbldocbijihpgaaW.PrintLast Go.Proofs.YtbldocbijihpgaaW.PrintMore
attribute [local go_sem] max2_int min2_int max_two min_two max_three min_three max_four min_four   -- for this text's walks alone
set_option linter.unusedVariables false
set_option linter.unusedSimpArgs false

/-! ### norm_May: function 15 -/
mutual
def norm_May.j0 : Nat → List Int → Int → Bool → Option (Bool)
  | 0, _, _, _ => none
  | k + 1, x0, x1, x16 => if x16 = true then (some false) else (if 0 ≤ x1 then (norm_May.l0 k (shl .i64 1 x1) 0 x0 (x0.length : Int) 0) else (none))
def norm_May.l0 : Nat → Int → Int → List Int → Int → Int → Option (Bool)
  | 0, _, _, _, _, _ => none
  | k + 1, x5, x6, x19, x20, x21 => if x21 < x20 then (if 0 ≤ x21 then (if x21 < (x19.length : Int) then (if (rd x19 x21) < 0 then (some false) else (if (rd x19 x21) > x5 then (some false) else (norm_May.l0 k x5 (wrap64 (x6 + (rd x19 x21))) x19 x20 (wrap64 (x21 + 1))))) else (none)) else (none)) else (some (x6 == x5))
end
def norm_May.f (k : Nat) (l0 : List Int) (a1 : Int) : Option (Bool) := (norm_mayLog.f a1).bind fun t117 => (if t117 = true then (norm_May.j0 k l0 a1 ((l0.length : Int) != 65)) else (norm_May.j0 k l0 a1 true))
theorem norm_May.mono_l : ∀ k, (∀ y0 y1 y2, LeO (norm_May.j0 k y0 y1 y2) (norm_May.j0 (k + 1) y0 y1 y2)) ∧ (∀ y0 y1 y2 y3 y4, LeO (norm_May.l0 k y0 y1 y2 y3 y4) (norm_May.l0 (k + 1) y0 y1 y2 y3 y4))
  | 0 => ⟨fun _ _ _ r h => by simp [norm_May.j0] at h, fun _ _ _ _ _ r h => by simp [norm_May.l0] at h⟩
  | k + 1 => by
    obtain ⟨ih0, ih1⟩ := norm_May.mono_l k
    refine ⟨?_, ?_⟩
    · intro y0 y1 y2
      unfold norm_May.j0
      repeat' first
      | (with_reducible exact ih0 _ _ _)
      | (with_reducible exact ih1 _ _ _ _ _)
      | (with_reducible exact LeO.refl _)
      | (with_reducible exact LeO.none _)
      | (with_reducible refine LeO.ite ?_ ?_)
      | (with_reducible refine LeO.bind ?_ (fun _ => ?_))
      | exact ih0 _ _ _
      | exact ih1 _ _ _ _ _
      | exact LeO.none _
      | refine LeO.ite ?_ ?_
      | refine LeO.bind ?_ (fun _ => ?_)
    · intro y0 y1 y2 y3 y4
      unfold norm_May.l0
      repeat' first
      | (with_reducible exact ih0 _ _ _)
      | (with_reducible exact ih1 _ _ _ _ _)
      | (with_reducible exact LeO.refl _)
      | (with_reducible exact LeO.none _)
      | (with_reducible refine LeO.ite ?_ ?_)
      | (with_reducible refine LeO.bind ?_ (fun _ => ?_))
      | exact ih0 _ _ _
      | exact ih1 _ _ _ _ _
      | exact LeO.none _
      | refine LeO.ite ?_ ?_
      | refine LeO.bind ?_ (fun _ => ?_)
theorem norm_May.mono : ∀ a0 a1 k, LeO (norm_May.f k a0 a1) (norm_May.f (k + 1) a0 a1) := by
  intro a0 a1 k
  obtain ⟨ih0, ih1⟩ := norm_May.mono_l k
  unfold norm_May.f
  repeat' first
      | (with_reducible exact ih0 _ _ _)
      | (with_reducible exact ih1 _ _ _ _ _)
      | (with_reducible exact LeO.refl _)
      | (with_reducible exact LeO.none _)
      | (with_reducible refine LeO.ite ?_ ?_)
      | (with_reducible refine LeO.bind ?_ (fun _ => ?_))
      | exact ih0 _ _ _
      | exact ih1 _ _ _ _ _
      | exact LeO.none _
      | refine LeO.ite ?_ ?_
      | refine LeO.bind ?_ (fun _ => ?_)
set_option maxHeartbeats 8000000 in
set_option maxRecDepth 100000 in
theorem norm_May.calls (k : Nat) (A0 : Option Addr) (c0 : Nat) (l0 : List Int) (a1 : Int) (r : Bool) (w : World) (hr0 : Kd.C (Kd.int .i64) w A0 l0.length l0) (hc0 : l0.length ≤ c0) (h : norm_May.f k l0 a1 = some r) :
    Calls Try.prog 15 #[.slice A0 l0.length c0, .int .i64 a1] w fun e w' => e = .returned (.bool r) ∧ Drawn0 w w' := by
  have HR0 := Aside0.mk hr0
  have HC0 := Aside0.mk hc0
  clear hr0 hc0
  have H : ((norm_mayLog.f a1).bind fun t117 => (if t117 = true then (norm_May.j0 k l0 a1 ((l0.length : Int) != 65)) else (norm_May.j0 k l0 a1 true))) = some r := h
  clear h
  have HC3 := Aside0.mk H
  clear H
  go_enter Try.func15, Try.ntmps15
  go_upto_region 1 with (fail)
  go_cut [16] (fun v16 wc => ∃ (kq : Nat) (x16_2 : Bool), v16 = .bool x16_2 ∧ Aside0 (norm_May.j0 kq l0 a1 x16_2 = some r) ∧ Aside0 (kq ≤ k) ∧ Drawn0 w wc)
  case first =>
    have H := HC3.out
    clear HC3
    replace H := Option.bind_eq_some_iff.mp H
    obtain ⟨t117, A40, H⟩ := H
    replace H : (if t117 = true then (norm_May.j0 k l0 a1 ((l0.length : Int) != 65)) else (norm_May.j0 k l0 a1 true)) = some r := H
    have A4 := Aside0.mk A40
    clear A40
    by_cases c5 : t117 = true
    · subst c5
      have H1 : (norm_May.j0 k l0 a1 ((l0.length : Int) != 65)) = some r := by rw [if_pos rfl] at H; exact H
      clear H
      have H := H1
      clear H1
      have H' := Aside0.mk H
      clear H
      go_wp2_with (first | ((with_reducible refine gate_callee (f := 23) rfl ?_); refine goesL_ (some 10) rfl rfl Try.func23 (by kernel_rfl) rfl #[.int .i64 a1] rfl (by (try simp only [List.map_toArray, List.map_cons, List.map_nil]); first | done | rfl | (simp only [List.length_drop, List.length_take]; rfl)) ?_; (with_reducible refine (norm_mayLog.calls a1 true _ A4.out).mono ?_); rintro e w' ⟨rfl, ⟨nd, rfl⟩⟩; refine ⟨_, rfl, ?_⟩))
      go_meet
      case rel => exact ⟨_, (((l0.length : Int) != 65)), (by first | rfl | (simp; done) | (simp [*]; done)), H', ⟨by first | omega | exact Nat.le_refl _⟩, by repeat (first | exact Drawn0.refl _ | apply Drawn0.step)⟩
    · replace c5 := Bool.eq_false_iff.mpr c5
      subst c5
      have H1 : (norm_May.j0 k l0 a1 true) = some r := by rw [if_neg (show ¬ (false = true) by decide)] at H; exact H
      clear H
      have H := H1
      clear H1
      have H' := Aside0.mk H
      clear H
      go_wp2_with (first | ((with_reducible refine gate_callee (f := 23) rfl ?_); refine goesL_ (some 10) rfl rfl Try.func23 (by kernel_rfl) rfl #[.int .i64 a1] rfl (by (try simp only [List.map_toArray, List.map_cons, List.map_nil]); first | done | rfl | (simp only [List.length_drop, List.length_take]; rfl)) ?_; (with_reducible refine (norm_mayLog.calls a1 false _ A4.out).mono ?_); rintro e w' ⟨rfl, ⟨nd, rfl⟩⟩; refine ⟨_, rfl, ?_⟩))
      go_meet
      case rel => exact ⟨_, (true), (by first | rfl | (simp; done) | (simp [*]; done)), H', ⟨by first | omega | exact Nat.le_refl _⟩, by repeat (first | exact Drawn0.refl _ | apply Drawn0.step)⟩
  case rest =>
    clear HC3
    try clear c1
    try clear c2
    try clear p2
    try clear c5
    obtain ⟨kq, x16_2, rfl, HA, HJ2, ⟨mc2, rfl⟩⟩ := hcut
    cases kq with
    | zero => exact absurd HA.out (by simp [norm_May.j0])
    | succ kj2 =>
      have H := HA.out
      clear HA
      simp only [norm_May.j0] at H
      by_cases c6 : x16_2 = true
      · subst c6
        have H1 : (some false) = some r := by rw [if_pos rfl] at H; exact H
        clear H
        have H := H1
        clear H1
        obtain rfl := Option.some.inj H
        go_wp2
        go_ret
        exact ⟨by first | rfl | (simp; done) | (simp [*]; done), by repeat (first | exact Drawn0.refl _ | apply Drawn0.step)⟩
      · replace c6 := Bool.eq_false_iff.mpr c6
        subst c6
        have H1 : (if 0 ≤ a1 then (norm_May.l0 kj2 (shl .i64 1 a1) 0 l0 (l0.length : Int) 0) else (none)) = some r := by rw [if_neg (show ¬ (false = true) by decide)] at H; exact H
        clear H
        have H := H1
        clear H1
        by_cases c7 : 0 ≤ a1
        · rw [if_pos c7] at H
          have c7b0 := eq_true c7
          have c7b1 : decide (0 ≤ a1) = true := decide_eq_true c7
          clear c7
          obtain ⟨ji8, hji8⟩ : ∃ j_ : Int, (shl .i64 1 a1) = j_ := ⟨_, rfl⟩
          replace H : (norm_May.l0 kj2 ji8 0 l0 (l0.length : Int) 0) = some r := by first | (rw [hji8] at H; exact H) | (simp only [hji8] at H ⊢; exact H)
          have hji8_ : (IntKind.i64.wrap (1 * 2 ^ min a1.toNat 64)) = ji8 := hji8
          have hji8z : a1 ≤ 64 → (IntKind.i64.wrap (1 * 2 ^ a1.toNat)) = ji8 := shl_small hji8
          have hji8u : (IntKind.i64.wrap (2 ^ min a1.toNat 64)) = ji8 := by have h_ := hji8_; rw [Int.one_mul] at h_; exact h_
          have hji8v : a1 ≤ 64 → (IntKind.i64.wrap (2 ^ a1.toNat)) = ji8 := fun hle_ => by have h_ := hji8z hle_; rw [Int.one_mul] at h_; exact h_
          have hji8y : (wrap64 (1 * 2 ^ min a1.toNat 64)) = ji8 := (i64_w _).symm.trans hji8_
          have hji8x : a1 ≤ 64 → (wrap64 (1 * 2 ^ a1.toNat)) = ji8 := fun h_ => (i64_w _).symm.trans (hji8z h_)
          have H' := Aside0.mk H
          clear H
          go_wp2
          go_loopg [6, 21] kj2 (fun kq v6 v21 w' => ∃ (x6_2 : Int) (x21_2 : Int), v6 = .int .i64 x6_2 ∧ v21 = .int .i64 x21_2 ∧ Aside0 (norm_May.l0 kq ji8 x6_2 l0 (l0.length : Int) x21_2 = some r) ∧ Aside0 (kq ≤ kj2) ∧ Drawn0 w w')
          case atStart => exact ⟨(0), (0), (by first | rfl | (simp; done) | (simp [*]; done)), (by first | rfl | (simp; done) | (simp [*]; done)), H', ⟨Nat.le_refl _⟩, by repeat (first | exact Drawn0.refl _ | apply Drawn0.step)⟩
          case round =>
            clear H'
            try clear c1
            try clear c2
            try clear p2
            try clear c5
            try clear c6
            try clear p6
            try clear c7
            try clear c7b0
            try clear c7b1
            try clear p2
            obtain ⟨x6_2, x21_2, rfl, rfl, HA, HK2, ⟨m2, rfl⟩⟩ := hrel
            cases gk with
            | zero => exact absurd HA.out (by simp [norm_May.l0])
            | succ k2 =>
              have H := HA.out
              clear HA
              simp only [norm_May.l0] at H
              by_cases c9 : x21_2 < (l0.length : Int)
              · rw [if_pos c9] at H
                have c9b0 : decide (x21_2 < (l0.length : Int)) = true := decide_eq_true c9
                clear c9
                by_cases c10 : 0 ≤ x21_2
                · rw [if_pos c10] at H
                  have c10b0 : decide (0 ≤ x21_2) = true := decide_eq_true c10
                  clear c10
                  by_cases c11 : x21_2 < (l0.length : Int)
                  · rw [if_pos c11] at H
                    have c11b0 : decide (x21_2 < (l0.length : Int)) = true := decide_eq_true c11
                    clear c11
                    by_cases c12 : (rd l0 x21_2) < 0
                    · rw [if_pos c12] at H
                      have c12b0 : decide ((rd l0 x21_2) < 0) = true := decide_eq_true c12
                      clear c12
                      obtain rfl := Option.some.inj H
                      have p118 : 0 ≤ (x21_2 : Int) := of_decide_eq_true (by first | (with_reducible assumption) | assumption)
                      have q118 : x21_2 < (l0.length : Int) := of_decide_eq_true (by first | (with_reducible assumption) | assumption)
                      obtain ⟨ad118, e118, hx118_0⟩ := Kd.at_int HR0.out x21_2 p118 q118
                      cases e118
                      replace p118 := eq_true p118
                      replace q118 := eq_true q118
                      go_wp2
                      go_ret
                      exact ⟨by first | rfl | (simp; done) | (simp only [← hji8] <;> (first | rfl | simp)) | (simp [*]; done), by repeat (first | exact Drawn0.refl _ | apply Drawn0.step)⟩
                    · rw [if_neg c12] at H
                      have c12b0 : decide ((rd l0 x21_2) < 0) = false := decide_eq_false c12
                      clear c12
                      by_cases c13 : (rd l0 x21_2) > ji8
                      · rw [if_pos c13] at H
                        have c13b0 : decide (ji8 < (rd l0 x21_2)) = true := decide_eq_true c13
                        clear c13
                        obtain rfl := Option.some.inj H
                        have p118 : 0 ≤ (x21_2 : Int) := of_decide_eq_true (by first | (with_reducible assumption) | assumption)
                        have q118 : x21_2 < (l0.length : Int) := of_decide_eq_true (by first | (with_reducible assumption) | assumption)
                        obtain ⟨ad118, e118, hx118_0⟩ := Kd.at_int HR0.out x21_2 p118 q118
                        cases e118
                        replace p118 := eq_true p118
                        replace q118 := eq_true q118
                        go_wp2
                        go_ret
                        exact ⟨by first | rfl | (simp; done) | (simp only [← hji8] <;> (first | rfl | simp)) | (simp [*]; done), by repeat (first | exact Drawn0.refl _ | apply Drawn0.step)⟩
                      · rw [if_neg c13] at H
                        have c13b0 : decide (ji8 < (rd l0 x21_2)) = false := decide_eq_false c13
                        clear c13
                        have H' := Aside0.mk H
                        clear H
                        have p118 : 0 ≤ (x21_2 : Int) := of_decide_eq_true (by first | (with_reducible assumption) | assumption)
                        have q118 : x21_2 < (l0.length : Int) := of_decide_eq_true (by first | (with_reducible assumption) | assumption)
                        obtain ⟨ad118, e118, hx118_0⟩ := Kd.at_int HR0.out x21_2 p118 q118
                        cases e118
                        replace p118 := eq_true p118
                        replace q118 := eq_true q118
                        go_wp2
                        go_roundg k2
                        case measure => have := HJ2.out; have := HK2.out; omega
                        case rel => exact ⟨(wrap64 (x6_2 + (rd l0 x21_2))), (wrap64 (x21_2 + 1)), (by first | rfl | (simp; done) | (simp [*]; done)), (by first | rfl | (simp; done) | (simp [*]; done)), H', ⟨by have := HJ2.out; have := HK2.out; omega⟩, by repeat (first | exact Drawn0.refl _ | apply Drawn0.step)⟩
                  · rw [if_neg c11] at H
                    exact absurd H (by simp)
                · rw [if_neg c10] at H
                  exact absurd H (by simp)
              · rw [if_neg c9] at H
                have c9b0 : decide (x21_2 < (l0.length : Int)) = false := decide_eq_false c9
                clear c9
                obtain rfl := Option.some.inj H
                go_wp2
                go_ret
                exact ⟨by first | rfl | (simp; done) | (simp only [← hji8] <;> (first | rfl | simp)) | (simp [*]; done), by repeat (first | exact Drawn0.refl _ | apply Drawn0.step)⟩
        · rw [if_neg c7] at H
          exact absurd H (by simp)

end Go.Proofs.Ytbldocbijihpgaa.PA

-- ---- PAx16

namespace Go.Proofs.Ytbldocbijihpgaa.PA
open Go.RowKit Go.Proofs.YtbldocbijihpgaaW.PrintWords Go.Proofs.YtbldocbijihpgaaW.PrintLast Go.Proofs.YtbldocbijihpgaaW.PrintMore
attribute [local go_sem] max2_int min2_int max_two min_two max_three min_three max_four min_four   -- for this text's walks alone
set_option linter.unusedVariables false
set_option linter.unusedSimpArgs false

/-! ### wringerlaw12_awake: function 9 -/
def wringerlaw12_awake.f (k : Nat)  : Option (Bool) := if 65 ≤ 35184372088832 then ((some (List.replicate 65 0 : List Int)).bind fun y119 => (if 7 < (y119.length : Int) then ((norm_Of.f (y119.set (7 : Int).toNat 9) 7).bind fun bt123 => ((wringerlaw1_Err.f bt123.2).bind fun t127 => (if t127 = 0 then (if (bt123.1.length : Int) = 65 then (if 7 < (bt123.1.length : Int) then (if (rd bt123.1 7) = 128 then ((norm_May.f k bt123.1 7).bind fun t129 => (some t129)) else (some false)) else (none)) else (some false)) else (some false)))) else (none))) else (none)
theorem wringerlaw12_awake.mono : ∀ k, LeO (wringerlaw12_awake.f k ) (wringerlaw12_awake.f (k + 1) ) := by
  intro  k
  unfold wringerlaw12_awake.f
  repeat' first
      | (with_reducible exact norm_May.mono _ _ _)
      | (with_reducible exact LeO.refl _)
      | (with_reducible exact LeO.none _)
      | (with_reducible refine LeO.ite ?_ ?_)
      | (with_reducible refine LeO.bind ?_ (fun _ => ?_))
      | exact norm_May.mono _ _ _
      | exact LeO.none _
      | refine LeO.ite ?_ ?_
      | refine LeO.bind ?_ (fun _ => ?_)
set_option maxHeartbeats 8000000 in
set_option maxRecDepth 100000 in
theorem wringerlaw12_awake.calls (k : Nat)  (r : Bool) (w : World) (h : wringerlaw12_awake.f k  = some r) :
    Calls Try.prog 9 #[] w fun e w' => e = .returned (.bool r) ∧ Below w.heap.size w w' := by
  have HB := Aside0.mk (Below.refl w.heap.size w)
  have H : (if 65 ≤ 35184372088832 then ((some (List.replicate 65 0 : List Int)).bind fun y119 => (if 7 < (y119.length : Int) then ((norm_Of.f (y119.set (7 : Int).toNat 9) 7).bind fun bt123 => ((wringerlaw1_Err.f bt123.2).bind fun t127 => (if t127 = 0 then (if (bt123.1.length : Int) = 65 then (if 7 < (bt123.1.length : Int) then (if (rd bt123.1 7) = 128 then ((norm_May.f k bt123.1 7).bind fun t129 => (some t129)) else (some false)) else (none)) else (some false)) else (some false)))) else (none))) else (none)) = some r := h
  clear h
  by_cases c1 : 65 ≤ 35184372088832
  · rw [if_pos c1] at H
    have c1b0 := eq_true c1
    have c1b1 : decide (65 ≤ 35184372088832) = true := decide_eq_true c1
    clear c1
    obtain ⟨y119, hy119⟩ : ∃ y_ : List Int, y_ = (List.replicate 65 0) := ⟨_, rfl⟩
    replace H : (if 7 < (y119.length : Int) then ((norm_Of.f (y119.set (7 : Int).toNat 9) 7).bind fun bt123 => ((wringerlaw1_Err.f bt123.2).bind fun t127 => (if t127 = 0 then (if (bt123.1.length : Int) = 65 then (if 7 < (bt123.1.length : Int) then (if (rd bt123.1 7) = 128 then ((norm_May.f k bt123.1 7).bind fun t129 => (some t129)) else (some false)) else (none)) else (some false)) else (some false)))) else (none)) = some r := by first | (rw [hy119]; with_reducible exact H) | (have H2_ := (Option.bind_some _ _).symm.trans H; rw [hy119]; with_reducible exact H2_) | (have H2_ := (Option.bind_some _ _).symm.trans H; with_reducible exact H2_) | with_reducible exact H | (rw [hy119]; exact H) | exact H
    have Ny119 := Aside0.mk hy119
    clear hy119
    by_cases c2 : 7 < (y119.length : Int)
    · rw [if_pos c2] at H
      have c2b0 : decide (7 < (y119.length : Int)) = true := decide_eq_true c2
      have c2b1 : decide (7 < y119.length) = true := decide_eq_true (by omega)
      clear c2
      obtain ⟨y122, hy122⟩ : ∃ y_ : List Int, y_ = (y119.set (7 : Int).toNat 9) := ⟨_, rfl⟩
      replace H : ((norm_Of.f y122 7).bind fun bt123 => ((wringerlaw1_Err.f bt123.2).bind fun t127 => (if t127 = 0 then (if (bt123.1.length : Int) = 65 then (if 7 < (bt123.1.length : Int) then (if (rd bt123.1 7) = 128 then ((norm_May.f k bt123.1 7).bind fun t129 => (some t129)) else (some false)) else (none)) else (some false)) else (some false)))) = some r := by first | (rw [hy122]; with_reducible exact H) | (have H2_ := (Option.bind_some _ _).symm.trans H; rw [hy122]; with_reducible exact H2_) | (have H2_ := (Option.bind_some _ _).symm.trans H; with_reducible exact H2_) | with_reducible exact H | (rw [hy122]; exact H) | exact H
      have Ny122 := Aside0.mk hy122
      clear hy122
      replace H := Option.bind_eq_some_iff.mp H
      obtain ⟨⟨t123, t124⟩, A40, H⟩ := H
      replace H : ((wringerlaw1_Err.f t124).bind fun t127 => (if t127 = 0 then (if (t123.length : Int) = 65 then (if 7 < (t123.length : Int) then (if (rd t123 7) = 128 then ((norm_May.f k t123 7).bind fun t129 => (some t129)) else (some false)) else (none)) else (some false)) else (some false))) = some r := H
      have A4 := Aside0.mk A40
      clear A40
      replace H := Option.bind_eq_some_iff.mp H
      obtain ⟨t127, A50, H⟩ := H
      replace H : (if t127 = 0 then (if (t123.length : Int) = 65 then (if 7 < (t123.length : Int) then (if (rd t123 7) = 128 then ((norm_May.f k t123 7).bind fun t129 => (some t129)) else (some false)) else (none)) else (some false)) else (some false)) = some r := H
      have A5 := Aside0.mk A50
      clear A50
      by_cases c6 : t127 = 0
      · rw [if_pos c6] at H
        have c6b0 : (t127 == 0) = true := beq_iff_eq.mpr c6
        have c6b1 : (t127 != 0) = false := bne_eq_false_iff_eq.mpr c6
        clear c6
        by_cases c7 : (t123.length : Int) = 65
        · rw [if_pos c7] at H
          have c7b0 : ((t123.length : Int) == 65) = true := beq_iff_eq.mpr c7
          have c7b1 : ((t123.length : Int) != 65) = false := bne_eq_false_iff_eq.mpr c7
          clear c7
          by_cases c8 : 7 < (t123.length : Int)
          · rw [if_pos c8] at H
            have c8b0 : decide (7 < (t123.length : Int)) = true := decide_eq_true c8
            have c8b1 : decide (7 < t123.length) = true := decide_eq_true (by omega)
            clear c8
            by_cases c9 : (rd t123 7) = 128
            · rw [if_pos c9] at H
              have c9b0 : ((rd t123 7) == 128) = true := beq_iff_eq.mpr c9
              have c9b1 : ((rd t123 7) != 128) = false := bne_eq_false_iff_eq.mpr c9
              clear c9
              replace H := Option.bind_eq_some_iff.mp H
              obtain ⟨t129, A100, H⟩ := H
              replace H : (some t129) = some r := H
              have A10 := Aside0.mk A100
              clear A100
              obtain rfl := Option.some.inj H
              go_enter Try.func9, Try.ntmps9
              go_wp2_with (first | ((with_reducible refine gate_dst (N := 4) rfl ?_); (try (refine gate_guard (by rfl) ?_; dsimp only)); refine Kd.R_make (Kd.int .i64) _ 3 rfl (N := 4) rfl 24 _ _ rfl 65 rfl rfl Try.underlying24 (.int .i64 0) 8 info3 rfl (by decide) (by omega) 0 (ok := fun _ => True) (okp := fun _ => True) rfl (fun _ hk => hk) trivial (by omega) (by omega) (Below.refl _ _) (Nat.le_refl _) ?_; intro v120 w11 ho12 hb hg_ hnew_; clear hg_ hnew_; (first | rw [← Ny119.out] at ho12 | (simp only [Int.reduceToNat] at ho12; rw [← Ny119.out] at ho12)); have n0_ := Aside0.mk (Kd.R_lower ho12 (below_size (by repeat (first | (with_reducible first | exact HB.out | apply below_alloc | apply pw_below_drewN | apply below_drew1) | exact HB.out)))); have n1_ := Aside0.mk (below_step (by repeat (first | (with_reducible first | exact HB.out | apply below_alloc | apply pw_below_drewN | apply below_drew1) | exact HB.out)) hb); clear HB; have HO121 := n0_; have HB := n1_; clear n0_ n1_; clear hb ho12; have p3 : 0 ≤ (7 : Int) := (by omega); have q3 : (7 : Int) < ((y119.length : Int) : Int) := of_decide_eq_true (by first | (with_reducible assumption) | assumption); have qi3 : (7 < y119.length) = True := eq_true (by omega); obtain ⟨go3, co3, eo3, gb3, gl3, cl3, HG3⟩ := Kd.R_form HO121.out (by omega); (first | cases eo3 | (injection eo3 with ea_ en_ ec_; (first | subst ea_ | (injection ea_ with ea_; subst ea_)); subst ec_; clear en_)); have GB3 := Aside0.mk gb3; have GG3 := Aside0.mk HG3; clear gb3 gl3 HG3; obtain ⟨hx3_0, hf3_0⟩ := Kd.R_celln 0 HO121.out (7 : Int) p3 q3; (try rw [show ((7 : Int)).toNat = 7 from rfl] at hx3_0); (try simp only [Nat.reduceMul, Nat.zero_mul, Nat.zero_add, Nat.reduceAdd] at hx3_0); (try rw [show ((7 : Int)).toNat = 7 from rfl] at hf3_0); (try simp only [Nat.reduceMul, Nat.zero_mul, Nat.zero_add, Nat.reduceAdd] at hf3_0); replace p3 := eq_true p3; replace q3 := eq_true q3; obtain ⟨hy13_, hz13_⟩ := Kd.R_celln 0 HO121.out (7 : Int) (by omega) (of_decide_eq_true (by first | (with_reducible assumption) | assumption)); (try simp only [Int.reduceToNat, Int.toNat_zero, Int.toNat_ofNat, Nat.reduceMul, Nat.zero_mul, Nat.zero_add] at hy13_ hz13_); (try rw [show ((7 : Int)).toNat = 7 from rfl] at hy13_); (try rw [show ((7 : Int)).toNat = 7 from rfl] at hz13_); have HP13 := Kd.R_putg HO121.out (7 : Int) 9) | ((with_reducible refine gate_store (t := 3) (p := 6) rfl ?_); refine store_event (t := 3) (p := 6) (v := ?vo_w14) (w1 := (w11.setCell ⟨go3, (7 : Int).toNat, none⟩ (.int .i64 9))) ?hg ?ho ?hn ?hr ?_; (case ho => rfl); (case hg => rfl); (case hn => rfl); (case hr => first | (go_simp; done) | (go_simp; rfl)); intro w14 hw; have hg : w11.grownBy w14 (some go3) := (by rw [hw]; exact HP13.2); have hp_ : Kd.R (Kd.int .i64) 3 w14 w.heap.size (fun _ => True) (.slice (some ⟨go3, 0, none⟩) y119.length co3) y122 := (by rw [hw, Ny122.out]; exact HP13.1); clear HP13; have n0_ := Aside0.mk (hp_); have n1_ := Aside0.mk ((by rw [hw]; exact below_set (HB.out) GB3.out : Below w.heap.size w w14)); clear HO121; clear HB; have HO121 := n0_; have HB := n1_; clear n0_ n1_; clear hg hw hp_) | ((with_reducible refine gate_callee (f := 11) rfl ?_); refine goesL_ (some 9) rfl rfl Try.func11 (by kernel_rfl) rfl #[.slice (some ⟨go3, 0, none⟩) y122.length co3, .int .i64 7] rfl (by (try simp only [List.map_toArray, List.map_cons, List.map_nil]); first | done | (rw [show y122.length = y119.length from (Kd.R_reads' HO121.out).1.symm] <;> rfl) | rfl | (simp only [List.length_drop, List.length_take]; rfl)) ?_; (with_reducible refine (norm_Of.calls _ _ y122 7 t123 t124 _ ?side1 ?side2 A4.out).mono ?_); (case side1 => repeat (first | exact (Kd.R_reads' HO121.out).2.2 | (with_reducible refine Kd.C_alloc ?_ _) | (with_reducible refine Kd.C_drewN ?_ _) | (with_reducible refine Kd.C_drew ?_))); (case side2 => rw [show y122.length = y119.length from (Kd.R_reads' HO121.out).1.symm]; exact (Kd.R_reads' HO121.out).2.1); rintro e w15 ⟨v125, rfl, ho0, hb⟩; refine ⟨_, rfl, ?_⟩; have n0_ := Aside0.mk (Kd.R_elder' (by (with_reducible repeat (first | apply Kd.R_alloc | apply Kd.R_drewN | apply Kd.R_drew)); exact HO121.out) (Kd.R_base ho0) hb); have n1_ := Aside0.mk (Kd.R_lower (Kd.R_new' ho0 (Kd.R_lt (by (with_reducible repeat (first | apply Kd.R_alloc | apply Kd.R_drewN | apply Kd.R_drew)); exact HO121.out))) (below_size (by repeat (first | (with_reducible first | exact HB.out | apply below_alloc | apply pw_below_drewN | apply below_drew1) | exact HB.out)))); have n2_ := Aside0.mk (below_step (by repeat (first | (with_reducible first | exact HB.out | apply below_alloc | apply pw_below_drewN | apply below_drew1) | exact HB.out)) hb); clear HO121; clear HB; have HO121 := n0_; have HO126 := n1_; have HB := n2_; clear n0_ n1_ n2_; (try clear hb); (try clear hb2); (try clear hk); (try clear hi); (try clear ho0)) | ((with_reducible refine gate_callee (f := 14) rfl ?_); refine goesL_ (some 13) rfl rfl Try.func14 (by kernel_rfl) rfl #[.int .i64 t124] rfl (by (try simp only [List.map_toArray, List.map_cons, List.map_nil]); first | done | rfl | (simp only [List.length_drop, List.length_take]; rfl)) ?_; (with_reducible refine (wringerlaw1_Err.calls t124 t127 _ A5.out).mono ?_); rintro e w' ⟨rfl, ⟨nd, rfl⟩⟩; refine ⟨_, rfl, ?_⟩; obtain ⟨Ao16, co16, eo16⟩ := Kd.R_slice HO126.out; subst eo16; have p128 : 0 ≤ (7 : Int) := (by omega); have q128 : 7 < (t123.length : Int) := of_decide_eq_true (by first | (with_reducible assumption) | assumption); obtain ⟨ad128, e128, hx128_0⟩ := Kd.at_int (Kd.R_reads' HO126.out).2.2 7 p128 q128; cases e128; (try simp only [show (7 : Int).toNat = 7 from rfl, Nat.reduceMul, Nat.reduceEqDiff, Go.Addr.add, ↓reduceIte] at hx128_0); have qi128 : (7 < t123.length) = True := eq_true (by omega); (try rw [show ((7 : Int)).toNat = 7 from rfl] at hx128_0); replace p128 := eq_true p128; replace q128 := eq_true q128) | (go_at_call 15; (with_reducible refine (norm_May.calls k _ _ t123 7 t129 _ ?side1 ?side2 A10.out).mono ?_); (case side1 => repeat (first | exact (Kd.R_reads' HO126.out).2.2 | (with_reducible refine Kd.C_alloc ?_ _) | (with_reducible refine Kd.C_drewN ?_ _) | (with_reducible refine Kd.C_drew ?_))); (case side2 => exact (Kd.R_reads' HO126.out).2.1); rintro e w' ⟨rfl, ⟨nd, rfl⟩⟩))
              go_ret
              exact ⟨by first | rfl | (simp [errW_none, errW_some] <;> rfl) | (simp [*, errW_none, errW_some] <;> rfl), by repeat (first | (with_reducible first | exact HB.out | apply below_alloc | apply pw_below_drewN | apply below_drew1) | exact HB.out)⟩
            · rw [if_neg c9] at H
              have c9b0 : ((rd t123 7) == 128) = false := beq_eq_false_iff_ne.mpr c9
              have c9b1 : ((rd t123 7) != 128) = true := bne_iff_ne.mpr c9
              obtain rfl := Option.some.inj H
              go_enter Try.func9, Try.ntmps9
              go_wp2_with (first | ((with_reducible refine gate_dst (N := 4) rfl ?_); (try (refine gate_guard (by rfl) ?_; dsimp only)); refine Kd.R_make (Kd.int .i64) _ 3 rfl (N := 4) rfl 24 _ _ rfl 65 rfl rfl Try.underlying24 (.int .i64 0) 8 info3 rfl (by decide) (by omega) 0 (ok := fun _ => True) (okp := fun _ => True) rfl (fun _ hk => hk) trivial (by omega) (by omega) (Below.refl _ _) (Nat.le_refl _) ?_; intro v120 w17 ho18 hb hg_ hnew_; clear hg_ hnew_; (first | rw [← Ny119.out] at ho18 | (simp only [Int.reduceToNat] at ho18; rw [← Ny119.out] at ho18)); have n0_ := Aside0.mk (Kd.R_lower ho18 (below_size (by repeat (first | (with_reducible first | exact HB.out | apply below_alloc | apply pw_below_drewN | apply below_drew1) | exact HB.out)))); have n1_ := Aside0.mk (below_step (by repeat (first | (with_reducible first | exact HB.out | apply below_alloc | apply pw_below_drewN | apply below_drew1) | exact HB.out)) hb); clear HB; have HO121 := n0_; have HB := n1_; clear n0_ n1_; clear hb ho18; have p3 : 0 ≤ (7 : Int) := (by omega); have q3 : (7 : Int) < ((y119.length : Int) : Int) := of_decide_eq_true (by first | (with_reducible assumption) | assumption); have qi3 : (7 < y119.length) = True := eq_true (by omega); obtain ⟨go3, co3, eo3, gb3, gl3, cl3, HG3⟩ := Kd.R_form HO121.out (by omega); (first | cases eo3 | (injection eo3 with ea_ en_ ec_; (first | subst ea_ | (injection ea_ with ea_; subst ea_)); subst ec_; clear en_)); have GB3 := Aside0.mk gb3; have GG3 := Aside0.mk HG3; clear gb3 gl3 HG3; obtain ⟨hx3_0, hf3_0⟩ := Kd.R_celln 0 HO121.out (7 : Int) p3 q3; (try rw [show ((7 : Int)).toNat = 7 from rfl] at hx3_0); (try simp only [Nat.reduceMul, Nat.zero_mul, Nat.zero_add, Nat.reduceAdd] at hx3_0); (try rw [show ((7 : Int)).toNat = 7 from rfl] at hf3_0); (try simp only [Nat.reduceMul, Nat.zero_mul, Nat.zero_add, Nat.reduceAdd] at hf3_0); replace p3 := eq_true p3; replace q3 := eq_true q3; obtain ⟨hy19_, hz19_⟩ := Kd.R_celln 0 HO121.out (7 : Int) (by omega) (of_decide_eq_true (by first | (with_reducible assumption) | assumption)); (try simp only [Int.reduceToNat, Int.toNat_zero, Int.toNat_ofNat, Nat.reduceMul, Nat.zero_mul, Nat.zero_add] at hy19_ hz19_); (try rw [show ((7 : Int)).toNat = 7 from rfl] at hy19_); (try rw [show ((7 : Int)).toNat = 7 from rfl] at hz19_); have HP19 := Kd.R_putg HO121.out (7 : Int) 9) | ((with_reducible refine gate_store (t := 3) (p := 6) rfl ?_); refine store_event (t := 3) (p := 6) (v := ?vo_w20) (w1 := (w17.setCell ⟨go3, (7 : Int).toNat, none⟩ (.int .i64 9))) ?hg ?ho ?hn ?hr ?_; (case ho => rfl); (case hg => rfl); (case hn => rfl); (case hr => first | (go_simp; done) | (go_simp; rfl)); intro w20 hw; have hg : w17.grownBy w20 (some go3) := (by rw [hw]; exact HP19.2); have hp_ : Kd.R (Kd.int .i64) 3 w20 w.heap.size (fun _ => True) (.slice (some ⟨go3, 0, none⟩) y119.length co3) y122 := (by rw [hw, Ny122.out]; exact HP19.1); clear HP19; have n0_ := Aside0.mk (hp_); have n1_ := Aside0.mk ((by rw [hw]; exact below_set (HB.out) GB3.out : Below w.heap.size w w20)); clear HO121; clear HB; have HO121 := n0_; have HB := n1_; clear n0_ n1_; clear hg hw hp_) | ((with_reducible refine gate_callee (f := 11) rfl ?_); refine goesL_ (some 9) rfl rfl Try.func11 (by kernel_rfl) rfl #[.slice (some ⟨go3, 0, none⟩) y122.length co3, .int .i64 7] rfl (by (try simp only [List.map_toArray, List.map_cons, List.map_nil]); first | done | (rw [show y122.length = y119.length from (Kd.R_reads' HO121.out).1.symm] <;> rfl) | rfl | (simp only [List.length_drop, List.length_take]; rfl)) ?_; (with_reducible refine (norm_Of.calls _ _ y122 7 t123 t124 _ ?side1 ?side2 A4.out).mono ?_); (case side1 => repeat (first | exact (Kd.R_reads' HO121.out).2.2 | (with_reducible refine Kd.C_alloc ?_ _) | (with_reducible refine Kd.C_drewN ?_ _) | (with_reducible refine Kd.C_drew ?_))); (case side2 => rw [show y122.length = y119.length from (Kd.R_reads' HO121.out).1.symm]; exact (Kd.R_reads' HO121.out).2.1); rintro e w21 ⟨v125, rfl, ho0, hb⟩; refine ⟨_, rfl, ?_⟩; have n0_ := Aside0.mk (Kd.R_elder' (by (with_reducible repeat (first | apply Kd.R_alloc | apply Kd.R_drewN | apply Kd.R_drew)); exact HO121.out) (Kd.R_base ho0) hb); have n1_ := Aside0.mk (Kd.R_lower (Kd.R_new' ho0 (Kd.R_lt (by (with_reducible repeat (first | apply Kd.R_alloc | apply Kd.R_drewN | apply Kd.R_drew)); exact HO121.out))) (below_size (by repeat (first | (with_reducible first | exact HB.out | apply below_alloc | apply pw_below_drewN | apply below_drew1) | exact HB.out)))); have n2_ := Aside0.mk (below_step (by repeat (first | (with_reducible first | exact HB.out | apply below_alloc | apply pw_below_drewN | apply below_drew1) | exact HB.out)) hb); clear HO121; clear HB; have HO121 := n0_; have HO126 := n1_; have HB := n2_; clear n0_ n1_ n2_; (try clear hb); (try clear hb2); (try clear hk); (try clear hi); (try clear ho0)) | ((with_reducible refine gate_callee (f := 14) rfl ?_); refine goesL_ (some 13) rfl rfl Try.func14 (by kernel_rfl) rfl #[.int .i64 t124] rfl (by (try simp only [List.map_toArray, List.map_cons, List.map_nil]); first | done | rfl | (simp only [List.length_drop, List.length_take]; rfl)) ?_; (with_reducible refine (wringerlaw1_Err.calls t124 t127 _ A5.out).mono ?_); rintro e w' ⟨rfl, ⟨nd, rfl⟩⟩; refine ⟨_, rfl, ?_⟩; obtain ⟨Ao22, co22, eo22⟩ := Kd.R_slice HO126.out; subst eo22; have p128 : 0 ≤ (7 : Int) := (by omega); have q128 : 7 < (t123.length : Int) := of_decide_eq_true (by first | (with_reducible assumption) | assumption); obtain ⟨ad128, e128, hx128_0⟩ := Kd.at_int (Kd.R_reads' HO126.out).2.2 7 p128 q128; cases e128; (try simp only [show (7 : Int).toNat = 7 from rfl, Nat.reduceMul, Nat.reduceEqDiff, Go.Addr.add, ↓reduceIte] at hx128_0); have qi128 : (7 < t123.length) = True := eq_true (by omega); (try rw [show ((7 : Int)).toNat = 7 from rfl] at hx128_0); replace p128 := eq_true p128; replace q128 := eq_true q128))
              go_ret
              exact ⟨by first | rfl | (simp [errW_none, errW_some] <;> rfl) | (simp [*, errW_none, errW_some] <;> rfl), by repeat (first | (with_reducible first | exact HB.out | apply below_alloc | apply pw_below_drewN | apply below_drew1) | exact HB.out)⟩
          · rw [if_neg c8] at H
            exact absurd H (by simp)
        · rw [if_neg c7] at H
          have c7b0 : ((t123.length : Int) == 65) = false := beq_eq_false_iff_ne.mpr c7
          have c7b1 : ((t123.length : Int) != 65) = true := bne_iff_ne.mpr c7
          obtain rfl := Option.some.inj H
          go_enter Try.func9, Try.ntmps9
          go_wp2_with (first | ((with_reducible refine gate_dst (N := 4) rfl ?_); (try (refine gate_guard (by rfl) ?_; dsimp only)); refine Kd.R_make (Kd.int .i64) _ 3 rfl (N := 4) rfl 24 _ _ rfl 65 rfl rfl Try.underlying24 (.int .i64 0) 8 info3 rfl (by decide) (by omega) 0 (ok := fun _ => True) (okp := fun _ => True) rfl (fun _ hk => hk) trivial (by omega) (by omega) (Below.refl _ _) (Nat.le_refl _) ?_; intro v120 w23 ho24 hb hg_ hnew_; clear hg_ hnew_; (first | rw [← Ny119.out] at ho24 | (simp only [Int.reduceToNat] at ho24; rw [← Ny119.out] at ho24)); have n0_ := Aside0.mk (Kd.R_lower ho24 (below_size (by repeat (first | (with_reducible first | exact HB.out | apply below_alloc | apply pw_below_drewN | apply below_drew1) | exact HB.out)))); have n1_ := Aside0.mk (below_step (by repeat (first | (with_reducible first | exact HB.out | apply below_alloc | apply pw_below_drewN | apply below_drew1) | exact HB.out)) hb); clear HB; have HO121 := n0_; have HB := n1_; clear n0_ n1_; clear hb ho24; have p3 : 0 ≤ (7 : Int) := (by omega); have q3 : (7 : Int) < ((y119.length : Int) : Int) := of_decide_eq_true (by first | (with_reducible assumption) | assumption); have qi3 : (7 < y119.length) = True := eq_true (by omega); obtain ⟨go3, co3, eo3, gb3, gl3, cl3, HG3⟩ := Kd.R_form HO121.out (by omega); (first | cases eo3 | (injection eo3 with ea_ en_ ec_; (first | subst ea_ | (injection ea_ with ea_; subst ea_)); subst ec_; clear en_)); have GB3 := Aside0.mk gb3; have GG3 := Aside0.mk HG3; clear gb3 gl3 HG3; obtain ⟨hx3_0, hf3_0⟩ := Kd.R_celln 0 HO121.out (7 : Int) p3 q3; (try rw [show ((7 : Int)).toNat = 7 from rfl] at hx3_0); (try simp only [Nat.reduceMul, Nat.zero_mul, Nat.zero_add, Nat.reduceAdd] at hx3_0); (try rw [show ((7 : Int)).toNat = 7 from rfl] at hf3_0); (try simp only [Nat.reduceMul, Nat.zero_mul, Nat.zero_add, Nat.reduceAdd] at hf3_0); replace p3 := eq_true p3; replace q3 := eq_true q3; obtain ⟨hy25_, hz25_⟩ := Kd.R_celln 0 HO121.out (7 : Int) (by omega) (of_decide_eq_true (by first | (with_reducible assumption) | assumption)); (try simp only [Int.reduceToNat, Int.toNat_zero, Int.toNat_ofNat, Nat.reduceMul, Nat.zero_mul, Nat.zero_add] at hy25_ hz25_); (try rw [show ((7 : Int)).toNat = 7 from rfl] at hy25_); (try rw [show ((7 : Int)).toNat = 7 from rfl] at hz25_); have HP25 := Kd.R_putg HO121.out (7 : Int) 9) | ((with_reducible refine gate_store (t := 3) (p := 6) rfl ?_); refine store_event (t := 3) (p := 6) (v := ?vo_w26) (w1 := (w23.setCell ⟨go3, (7 : Int).toNat, none⟩ (.int .i64 9))) ?hg ?ho ?hn ?hr ?_; (case ho => rfl); (case hg => rfl); (case hn => rfl); (case hr => first | (go_simp; done) | (go_simp; rfl)); intro w26 hw; have hg : w23.grownBy w26 (some go3) := (by rw [hw]; exact HP25.2); have hp_ : Kd.R (Kd.int .i64) 3 w26 w.heap.size (fun _ => True) (.slice (some ⟨go3, 0, none⟩) y119.length co3) y122 := (by rw [hw, Ny122.out]; exact HP25.1); clear HP25; have n0_ := Aside0.mk (hp_); have n1_ := Aside0.mk ((by rw [hw]; exact below_set (HB.out) GB3.out : Below w.heap.size w w26)); clear HO121; clear HB; have HO121 := n0_; have HB := n1_; clear n0_ n1_; clear hg hw hp_) | ((with_reducible refine gate_callee (f := 11) rfl ?_); refine goesL_ (some 9) rfl rfl Try.func11 (by kernel_rfl) rfl #[.slice (some ⟨go3, 0, none⟩) y122.length co3, .int .i64 7] rfl (by (try simp only [List.map_toArray, List.map_cons, List.map_nil]); first | done | (rw [show y122.length = y119.length from (Kd.R_reads' HO121.out).1.symm] <;> rfl) | rfl | (simp only [List.length_drop, List.length_take]; rfl)) ?_; (with_reducible refine (norm_Of.calls _ _ y122 7 t123 t124 _ ?side1 ?side2 A4.out).mono ?_); (case side1 => repeat (first | exact (Kd.R_reads' HO121.out).2.2 | (with_reducible refine Kd.C_alloc ?_ _) | (with_reducible refine Kd.C_drewN ?_ _) | (with_reducible refine Kd.C_drew ?_))); (case side2 => rw [show y122.length = y119.length from (Kd.R_reads' HO121.out).1.symm]; exact (Kd.R_reads' HO121.out).2.1); rintro e w27 ⟨v125, rfl, ho0, hb⟩; refine ⟨_, rfl, ?_⟩; have n0_ := Aside0.mk (Kd.R_elder' (by (with_reducible repeat (first | apply Kd.R_alloc | apply Kd.R_drewN | apply Kd.R_drew)); exact HO121.out) (Kd.R_base ho0) hb); have n1_ := Aside0.mk (Kd.R_lower (Kd.R_new' ho0 (Kd.R_lt (by (with_reducible repeat (first | apply Kd.R_alloc | apply Kd.R_drewN | apply Kd.R_drew)); exact HO121.out))) (below_size (by repeat (first | (with_reducible first | exact HB.out | apply below_alloc | apply pw_below_drewN | apply below_drew1) | exact HB.out)))); have n2_ := Aside0.mk (below_step (by repeat (first | (with_reducible first | exact HB.out | apply below_alloc | apply pw_below_drewN | apply below_drew1) | exact HB.out)) hb); clear HO121; clear HB; have HO121 := n0_; have HO126 := n1_; have HB := n2_; clear n0_ n1_ n2_; (try clear hb); (try clear hb2); (try clear hk); (try clear hi); (try clear ho0)) | ((with_reducible refine gate_callee (f := 14) rfl ?_); refine goesL_ (some 13) rfl rfl Try.func14 (by kernel_rfl) rfl #[.int .i64 t124] rfl (by (try simp only [List.map_toArray, List.map_cons, List.map_nil]); first | done | rfl | (simp only [List.length_drop, List.length_take]; rfl)) ?_; (with_reducible refine (wringerlaw1_Err.calls t124 t127 _ A5.out).mono ?_); rintro e w' ⟨rfl, ⟨nd, rfl⟩⟩; refine ⟨_, rfl, ?_⟩; obtain ⟨Ao28, co28, eo28⟩ := Kd.R_slice HO126.out; subst eo28))
          go_ret
          exact ⟨by first | rfl | (simp [errW_none, errW_some] <;> rfl) | (simp [*, errW_none, errW_some] <;> rfl), by repeat (first | (with_reducible first | exact HB.out | apply below_alloc | apply pw_below_drewN | apply below_drew1) | exact HB.out)⟩
      · rw [if_neg c6] at H
        have c6b0 : (t127 == 0) = false := beq_eq_false_iff_ne.mpr c6
        have c6b1 : (t127 != 0) = true := bne_iff_ne.mpr c6
        obtain rfl := Option.some.inj H
        go_enter Try.func9, Try.ntmps9
        go_wp2_with (first | ((with_reducible refine gate_dst (N := 4) rfl ?_); (try (refine gate_guard (by rfl) ?_; dsimp only)); refine Kd.R_make (Kd.int .i64) _ 3 rfl (N := 4) rfl 24 _ _ rfl 65 rfl rfl Try.underlying24 (.int .i64 0) 8 info3 rfl (by decide) (by omega) 0 (ok := fun _ => True) (okp := fun _ => True) rfl (fun _ hk => hk) trivial (by omega) (by omega) (Below.refl _ _) (Nat.le_refl _) ?_; intro v120 w29 ho30 hb hg_ hnew_; clear hg_ hnew_; (first | rw [← Ny119.out] at ho30 | (simp only [Int.reduceToNat] at ho30; rw [← Ny119.out] at ho30)); have n0_ := Aside0.mk (Kd.R_lower ho30 (below_size (by repeat (first | (with_reducible first | exact HB.out | apply below_alloc | apply pw_below_drewN | apply below_drew1) | exact HB.out)))); have n1_ := Aside0.mk (below_step (by repeat (first | (with_reducible first | exact HB.out | apply below_alloc | apply pw_below_drewN | apply below_drew1) | exact HB.out)) hb); clear HB; have HO121 := n0_; have HB := n1_; clear n0_ n1_; clear hb ho30; have p3 : 0 ≤ (7 : Int) := (by omega); have q3 : (7 : Int) < ((y119.length : Int) : Int) := of_decide_eq_true (by first | (with_reducible assumption) | assumption); have qi3 : (7 < y119.length) = True := eq_true (by omega); obtain ⟨go3, co3, eo3, gb3, gl3, cl3, HG3⟩ := Kd.R_form HO121.out (by omega); (first | cases eo3 | (injection eo3 with ea_ en_ ec_; (first | subst ea_ | (injection ea_ with ea_; subst ea_)); subst ec_; clear en_)); have GB3 := Aside0.mk gb3; have GG3 := Aside0.mk HG3; clear gb3 gl3 HG3; obtain ⟨hx3_0, hf3_0⟩ := Kd.R_celln 0 HO121.out (7 : Int) p3 q3; (try rw [show ((7 : Int)).toNat = 7 from rfl] at hx3_0); (try simp only [Nat.reduceMul, Nat.zero_mul, Nat.zero_add, Nat.reduceAdd] at hx3_0); (try rw [show ((7 : Int)).toNat = 7 from rfl] at hf3_0); (try simp only [Nat.reduceMul, Nat.zero_mul, Nat.zero_add, Nat.reduceAdd] at hf3_0); replace p3 := eq_true p3; replace q3 := eq_true q3; obtain ⟨hy31_, hz31_⟩ := Kd.R_celln 0 HO121.out (7 : Int) (by omega) (of_decide_eq_true (by first | (with_reducible assumption) | assumption)); (try simp only [Int.reduceToNat, Int.toNat_zero, Int.toNat_ofNat, Nat.reduceMul, Nat.zero_mul, Nat.zero_add] at hy31_ hz31_); (try rw [show ((7 : Int)).toNat = 7 from rfl] at hy31_); (try rw [show ((7 : Int)).toNat = 7 from rfl] at hz31_); have HP31 := Kd.R_putg HO121.out (7 : Int) 9) | ((with_reducible refine gate_store (t := 3) (p := 6) rfl ?_); refine store_event (t := 3) (p := 6) (v := ?vo_w32) (w1 := (w29.setCell ⟨go3, (7 : Int).toNat, none⟩ (.int .i64 9))) ?hg ?ho ?hn ?hr ?_; (case ho => rfl); (case hg => rfl); (case hn => rfl); (case hr => first | (go_simp; done) | (go_simp; rfl)); intro w32 hw; have hg : w29.grownBy w32 (some go3) := (by rw [hw]; exact HP31.2); have hp_ : Kd.R (Kd.int .i64) 3 w32 w.heap.size (fun _ => True) (.slice (some ⟨go3, 0, none⟩) y119.length co3) y122 := (by rw [hw, Ny122.out]; exact HP31.1); clear HP31; have n0_ := Aside0.mk (hp_); have n1_ := Aside0.mk ((by rw [hw]; exact below_set (HB.out) GB3.out : Below w.heap.size w w32)); clear HO121; clear HB; have HO121 := n0_; have HB := n1_; clear n0_ n1_; clear hg hw hp_) | ((with_reducible refine gate_callee (f := 11) rfl ?_); refine goesL_ (some 9) rfl rfl Try.func11 (by kernel_rfl) rfl #[.slice (some ⟨go3, 0, none⟩) y122.length co3, .int .i64 7] rfl (by (try simp only [List.map_toArray, List.map_cons, List.map_nil]); first | done | (rw [show y122.length = y119.length from (Kd.R_reads' HO121.out).1.symm] <;> rfl) | rfl | (simp only [List.length_drop, List.length_take]; rfl)) ?_; (with_reducible refine (norm_Of.calls _ _ y122 7 t123 t124 _ ?side1 ?side2 A4.out).mono ?_); (case side1 => repeat (first | exact (Kd.R_reads' HO121.out).2.2 | (with_reducible refine Kd.C_alloc ?_ _) | (with_reducible refine Kd.C_drewN ?_ _) | (with_reducible refine Kd.C_drew ?_))); (case side2 => rw [show y122.length = y119.length from (Kd.R_reads' HO121.out).1.symm]; exact (Kd.R_reads' HO121.out).2.1); rintro e w33 ⟨v125, rfl, ho0, hb⟩; refine ⟨_, rfl, ?_⟩; have n0_ := Aside0.mk (Kd.R_elder' (by (with_reducible repeat (first | apply Kd.R_alloc | apply Kd.R_drewN | apply Kd.R_drew)); exact HO121.out) (Kd.R_base ho0) hb); have n1_ := Aside0.mk (Kd.R_lower (Kd.R_new' ho0 (Kd.R_lt (by (with_reducible repeat (first | apply Kd.R_alloc | apply Kd.R_drewN | apply Kd.R_drew)); exact HO121.out))) (below_size (by repeat (first | (with_reducible first | exact HB.out | apply below_alloc | apply pw_below_drewN | apply below_drew1) | exact HB.out)))); have n2_ := Aside0.mk (below_step (by repeat (first | (with_reducible first | exact HB.out | apply below_alloc | apply pw_below_drewN | apply below_drew1) | exact HB.out)) hb); clear HO121; clear HB; have HO121 := n0_; have HO126 := n1_; have HB := n2_; clear n0_ n1_ n2_; (try clear hb); (try clear hb2); (try clear hk); (try clear hi); (try clear ho0)) | ((with_reducible refine gate_callee (f := 14) rfl ?_); refine goesL_ (some 13) rfl rfl Try.func14 (by kernel_rfl) rfl #[.int .i64 t124] rfl (by (try simp only [List.map_toArray, List.map_cons, List.map_nil]); first | done | rfl | (simp only [List.length_drop, List.length_take]; rfl)) ?_; (with_reducible refine (wringerlaw1_Err.calls t124 t127 _ A5.out).mono ?_); rintro e w' ⟨rfl, ⟨nd, rfl⟩⟩; refine ⟨_, rfl, ?_⟩))
        go_ret
        exact ⟨by first | rfl | (simp [errW_none, errW_some] <;> rfl) | (simp [*, errW_none, errW_some] <;> rfl), by repeat (first | (with_reducible first | exact HB.out | apply below_alloc | apply pw_below_drewN | apply below_drew1) | exact HB.out)⟩
    · rw [if_neg c2] at H
      exact absurd H (by simp)
  · rw [if_neg c1] at H
    exact absurd H (by simp)

end Go.Proofs.Ytbldocbijihpgaa.PA

-- ---- PAx20
/- The document's numbers of a sum: what the call answers, for every list and log. Conditions: the list's length fits a slice. -/
namespace Go.Proofs.Ytbldocbijihpgaa.PA
open Go.RowKit Go.Proofs.YtbldocbijihpgaaW.PrintWords Go.Proofs.YtbldocbijihpgaaW.PrintLast Go.Proofs.YtbldocbijihpgaaW.PrintMore
set_option linter.unusedVariables false
set_option linter.unusedSimpArgs false

def normE (l : List Int) (a : Int) : List Int × Int := if Nl.frB l = true ∧ 7 ≤ a ∧ a ≤ 12 then (Nl.normL l ((2 ^ a.toNat : Nat) : Int), 0) else ([], 1)
def wringerref7_Norm.f (l0 : List Int) (a1 : Int) : Option (List Int × Int) := if l0.length < 200000000000000 then some (normE l0 a1) else none
theorem wringerref7_Norm.calls (A0 : Option Addr) (c0 : Nat) (l0 : List Int) (a1 : Int) (r1 : List Int) (r2 : Int) (w : World) (hr0 : Kd.C (Kd.int .i64) w A0 l0.length l0) (hc0 : l0.length ≤ c0) (h : wringerref7_Norm.f l0 a1 = some (r1, r2)) :
    Calls Try.prog 12 #[.slice A0 l0.length c0, .int .i64 a1] w fun e w' => ∃ v0_ : Value, e = .returned (.agg #[v0_, .int .i64 r2]) ∧ Kd.R (Kd.int .i64) 3 w' w.heap.size (fun _ => True) v0_ r1 ∧ Below w.heap.size w w' := by
  unfold wringerref7_Norm.f at h
  split at h
  · rename_i hn
    have h := Option.some.inj h
    unfold normE at h
    split at h
    · rename_i hg
      obtain ⟨rfl, rfl⟩ := Prod.mk.inj h
      obtain ⟨m, rfl⟩ := Int.eq_ofNat_of_zero_le (show 0 ≤ a1 by omega)
      refine (rnorm_ok A0 c0 l0 m w hr0 hc0 ((Nl.frB_iff l0).1 hg.1) (by omega) (by omega)).mono ?_
      rintro e w' ⟨v, rfl, ho, hnew, hb⟩
      exact ⟨v, rfl, Own.R_of_owns (by rw [Int.toNat_natCast]; exact ho) hnew, hb⟩
    · rename_i hg
      obtain ⟨rfl, rfl⟩ := Prod.mk.inj h
      refine (rnorm_bad A0 c0 l0 a1 w hr0 hc0 hn hg).mono ?_
      rintro e w' ⟨rfl, hb⟩
      exact ⟨_, rfl, Kd.R_nil _ _ _ _ _, hb⟩
  · cases h
end Go.Proofs.Ytbldocbijihpgaa.PA

-- ---- PAx29

namespace Go.Proofs.Ytbldocbijihpgaa.PA
open Go.RowKit Go.Proofs.YtbldocbijihpgaaW.PrintWords Go.Proofs.YtbldocbijihpgaaW.PrintLast Go.Proofs.YtbldocbijihpgaaW.PrintMore
attribute [local go_sem] max2_int min2_int max_two min_two max_three min_three max_four min_four   -- for this text's walks alone
set_option linter.unusedVariables false
set_option linter.unusedSimpArgs false

/-! ### wringerref7_MayNorm: function 18 -/
mutual
def wringerref7_MayNorm.j0 : Nat → List Int → Int → Bool → Option (Bool)
  | 0, _, _, _ => none
  | k + 1, x0, x1, x14 => if x14 = true then (some false) else (wringerref7_MayNorm.l0 k x0 x1 0 0)
def wringerref7_MayNorm.l0 : Nat → List Int → Int → Int → Int → Option (Bool)
  | 0, _, _, _, _ => none
  | k + 1, x0, x1, x5, x6 => if x6 < (x0.length : Int) then (if 0 ≤ x6 then (if (rd x0 x6) < 0 then (some false) else (if 0 ≤ x1 then (if (rd x0 x6) > (shl .i64 1 x1) then (some false) else (wringerref7_MayNorm.l0 k x0 x1 (wrap64 (x5 + (rd x0 x6))) (wrap64 (x6 + 1)))) else (none))) else (none)) else (if 0 ≤ x1 then (some (x5 == (shl .i64 1 x1))) else (none))
end
def wringerref7_MayNorm.f (k : Nat) (l0 : List Int) (a1 : Int) : Option (Bool) := (wringerref7_isLog.f a1).bind fun t160 => (if t160 = true then (wringerref7_MayNorm.j0 k l0 a1 ((l0.length : Int) != 65)) else (wringerref7_MayNorm.j0 k l0 a1 true))
theorem wringerref7_MayNorm.mono_l : ∀ k, (∀ y0 y1 y2, LeO (wringerref7_MayNorm.j0 k y0 y1 y2) (wringerref7_MayNorm.j0 (k + 1) y0 y1 y2)) ∧ (∀ y0 y1 y2 y3, LeO (wringerref7_MayNorm.l0 k y0 y1 y2 y3) (wringerref7_MayNorm.l0 (k + 1) y0 y1 y2 y3))
  | 0 => ⟨fun _ _ _ r h => by simp [wringerref7_MayNorm.j0] at h, fun _ _ _ _ r h => by simp [wringerref7_MayNorm.l0] at h⟩
  | k + 1 => by
    obtain ⟨ih0, ih1⟩ := wringerref7_MayNorm.mono_l k
    refine ⟨?_, ?_⟩
    · intro y0 y1 y2
      unfold wringerref7_MayNorm.j0
      repeat' first
      | (with_reducible exact ih0 _ _ _)
      | (with_reducible exact ih1 _ _ _ _)
      | (with_reducible exact LeO.refl _)
      | (with_reducible exact LeO.none _)
      | (with_reducible refine LeO.ite ?_ ?_)
      | (with_reducible refine LeO.bind ?_ (fun _ => ?_))
      | exact ih0 _ _ _
      | exact ih1 _ _ _ _
      | exact LeO.none _
      | refine LeO.ite ?_ ?_
      | refine LeO.bind ?_ (fun _ => ?_)
    · intro y0 y1 y2 y3
      unfold wringerref7_MayNorm.l0
      repeat' first
      | (with_reducible exact ih0 _ _ _)
      | (with_reducible exact ih1 _ _ _ _)
      | (with_reducible exact LeO.refl _)
      | (with_reducible exact LeO.none _)
      | (with_reducible refine LeO.ite ?_ ?_)
      | (with_reducible refine LeO.bind ?_ (fun _ => ?_))
      | exact ih0 _ _ _
      | exact ih1 _ _ _ _
      | exact LeO.none _
      | refine LeO.ite ?_ ?_
      | refine LeO.bind ?_ (fun _ => ?_)
theorem wringerref7_MayNorm.mono : ∀ a0 a1 k, LeO (wringerref7_MayNorm.f k a0 a1) (wringerref7_MayNorm.f (k + 1) a0 a1) := by
  intro a0 a1 k
  obtain ⟨ih0, ih1⟩ := wringerref7_MayNorm.mono_l k
  unfold wringerref7_MayNorm.f
  repeat' first
      | (with_reducible exact ih0 _ _ _)
      | (with_reducible exact ih1 _ _ _ _)
      | (with_reducible exact LeO.refl _)
      | (with_reducible exact LeO.none _)
      | (with_reducible refine LeO.ite ?_ ?_)
      | (with_reducible refine LeO.bind ?_ (fun _ => ?_))
      | exact ih0 _ _ _
      | exact ih1 _ _ _ _
      | exact LeO.none _
      | refine LeO.ite ?_ ?_
      | refine LeO.bind ?_ (fun _ => ?_)
set_option maxHeartbeats 8000000 in
set_option maxRecDepth 100000 in
theorem wringerref7_MayNorm.calls (k : Nat) (A0 : Option Addr) (c0 : Nat) (l0 : List Int) (a1 : Int) (r : Bool) (w : World) (hr0 : Kd.C (Kd.int .i64) w A0 l0.length l0) (hc0 : l0.length ≤ c0) (h : wringerref7_MayNorm.f k l0 a1 = some r) :
    Calls Try.prog 18 #[.slice A0 l0.length c0, .int .i64 a1] w fun e w' => e = .returned (.bool r) ∧ Drawn0 w w' := by
  have HR0 := Aside0.mk hr0
  have HC0 := Aside0.mk hc0
  clear hr0 hc0
  have H : ((wringerref7_isLog.f a1).bind fun t160 => (if t160 = true then (wringerref7_MayNorm.j0 k l0 a1 ((l0.length : Int) != 65)) else (wringerref7_MayNorm.j0 k l0 a1 true))) = some r := h
  clear h
  have HC3 := Aside0.mk H
  clear H
  go_enter Try.func18, Try.ntmps18
  go_upto_region 1 with (fail)
  repeat (go_quiet (fail); go_upto_region 1 with (fail))
  go_cut [14] (fun v14 wc => ∃ (kq : Nat) (x14_2 : Bool), v14 = .bool x14_2 ∧ Aside0 (wringerref7_MayNorm.j0 kq l0 a1 x14_2 = some r) ∧ Aside0 (kq ≤ k) ∧ Drawn0 w wc)
  case first =>
    have H := HC3.out
    clear HC3
    replace H := Option.bind_eq_some_iff.mp H
    obtain ⟨t160, A40, H⟩ := H
    replace H : (if t160 = true then (wringerref7_MayNorm.j0 k l0 a1 ((l0.length : Int) != 65)) else (wringerref7_MayNorm.j0 k l0 a1 true)) = some r := H
    have A4 := Aside0.mk A40
    clear A40
    by_cases c5 : t160 = true
    · subst c5
      have H1 : (wringerref7_MayNorm.j0 k l0 a1 ((l0.length : Int) != 65)) = some r := by rw [if_pos rfl] at H; exact H
      clear H
      have H := H1
      clear H1
      have H' := Aside0.mk H
      clear H
      go_wp2_with (first | (go_at_call 28; (with_reducible refine (wringerref7_isLog.calls a1 true _ A4.out).mono ?_); rintro e w' ⟨rfl, ⟨nd, rfl⟩⟩; (try first | exact ⟨rfl, _, World.drewN_drewN _ _ _⟩ | exact ⟨rfl, _, Eq.trans (World.drewN_drewN _ _ _) (congrArg (World.drewN _) (Nat.add_assoc _ _ _))⟩)))
      repeat (go_quiet (first | (go_at_call 28; (with_reducible refine (wringerref7_isLog.calls a1 true _ A4.out).mono ?_); rintro e w' ⟨rfl, ⟨nd, rfl⟩⟩; (try first | exact ⟨rfl, _, World.drewN_drewN _ _ _⟩ | exact ⟨rfl, _, Eq.trans (World.drewN_drewN _ _ _) (congrArg (World.drewN _) (Nat.add_assoc _ _ _))⟩))); try go_wp2_with (first | (go_at_call 28; (with_reducible refine (wringerref7_isLog.calls a1 true _ A4.out).mono ?_); rintro e w' ⟨rfl, ⟨nd, rfl⟩⟩; (try first | exact ⟨rfl, _, World.drewN_drewN _ _ _⟩ | exact ⟨rfl, _, Eq.trans (World.drewN_drewN _ _ _) (congrArg (World.drewN _) (Nat.add_assoc _ _ _))⟩))))
      go_meet
      case rel => exact ⟨_, (((l0.length : Int) != 65)), (by first | rfl | (simp; done) | (simp [*]; done)), H', ⟨by first | omega | exact Nat.le_refl _⟩, by repeat (first | exact Drawn0.refl _ | apply Drawn0.step)⟩
    · replace c5 := Bool.eq_false_iff.mpr c5
      subst c5
      have H1 : (wringerref7_MayNorm.j0 k l0 a1 true) = some r := by rw [if_neg (show ¬ (false = true) by decide)] at H; exact H
      clear H
      have H := H1
      clear H1
      have H' := Aside0.mk H
      clear H
      go_wp2_with (first | (go_at_call 28; (with_reducible refine (wringerref7_isLog.calls a1 false _ A4.out).mono ?_); rintro e w' ⟨rfl, ⟨nd, rfl⟩⟩; (try first | exact ⟨rfl, _, World.drewN_drewN _ _ _⟩ | exact ⟨rfl, _, Eq.trans (World.drewN_drewN _ _ _) (congrArg (World.drewN _) (Nat.add_assoc _ _ _))⟩)))
      repeat (go_quiet (first | (go_at_call 28; (with_reducible refine (wringerref7_isLog.calls a1 false _ A4.out).mono ?_); rintro e w' ⟨rfl, ⟨nd, rfl⟩⟩; (try first | exact ⟨rfl, _, World.drewN_drewN _ _ _⟩ | exact ⟨rfl, _, Eq.trans (World.drewN_drewN _ _ _) (congrArg (World.drewN _) (Nat.add_assoc _ _ _))⟩))); try go_wp2_with (first | (go_at_call 28; (with_reducible refine (wringerref7_isLog.calls a1 false _ A4.out).mono ?_); rintro e w' ⟨rfl, ⟨nd, rfl⟩⟩; (try first | exact ⟨rfl, _, World.drewN_drewN _ _ _⟩ | exact ⟨rfl, _, Eq.trans (World.drewN_drewN _ _ _) (congrArg (World.drewN _) (Nat.add_assoc _ _ _))⟩))))
      go_meet
      case rel => exact ⟨_, (true), (by first | rfl | (simp; done) | (simp [*]; done)), H', ⟨by first | omega | exact Nat.le_refl _⟩, by repeat (first | exact Drawn0.refl _ | apply Drawn0.step)⟩
  case rest =>
    clear HC3
    try clear c1
    try clear p2
    try clear c5
    obtain ⟨kq, x14_2, rfl, HA, HJ2, ⟨mc2, rfl⟩⟩ := hcut
    cases kq with
    | zero => exact absurd HA.out (by simp [wringerref7_MayNorm.j0])
    | succ kj2 =>
      have H := HA.out
      clear HA
      simp only [wringerref7_MayNorm.j0] at H
      by_cases c6 : x14_2 = true
      · subst c6
        have H1 : (some false) = some r := by rw [if_pos rfl] at H; exact H
        clear H
        have H := H1
        clear H1
        obtain rfl := Option.some.inj H
        go_wp2
        repeat (go_quiet (fail); try go_wp2)
        go_ret
        exact ⟨by first | rfl | (simp; done) | (simp [*]; done), by repeat (first | exact Drawn0.refl _ | apply Drawn0.step)⟩
      · replace c6 := Bool.eq_false_iff.mpr c6
        subst c6
        have H1 : (wringerref7_MayNorm.l0 kj2 l0 a1 0 0) = some r := by rw [if_neg (show ¬ (false = true) by decide)] at H; exact H
        clear H
        have H := H1
        clear H1
        have H' := Aside0.mk H
        clear H
        go_wp2
        repeat (go_quiet (fail); try go_wp2)
        go_loopg [5, 6] kj2 (fun kq v5 v6 w' => ∃ (x5_2 : Int) (x6_2 : Int), v5 = .int .i64 x5_2 ∧ v6 = .int .i64 x6_2 ∧ Aside0 (wringerref7_MayNorm.l0 kq l0 a1 x5_2 x6_2 = some r) ∧ Aside0 (kq ≤ kj2) ∧ Drawn0 w w')
        case atStart => exact ⟨(0), (0), (by first | rfl | (simp; done) | (simp [*]; done)), (by first | rfl | (simp; done) | (simp [*]; done)), H', ⟨Nat.le_refl _⟩, by repeat (first | exact Drawn0.refl _ | apply Drawn0.step)⟩
        case round =>
          clear H'
          try clear c1
          try clear c2
          try clear p2
          try clear c5
          try clear c6
          try clear p2
          obtain ⟨x5_2, x6_2, rfl, rfl, HA, HK2, ⟨m2, rfl⟩⟩ := hrel
          cases gk with
          | zero => exact absurd HA.out (by simp [wringerref7_MayNorm.l0])
          | succ k2 =>
            have H := HA.out
            clear HA
            simp only [wringerref7_MayNorm.l0] at H
            by_cases c7 : x6_2 < (l0.length : Int)
            · rw [if_pos c7] at H
              have c7b0 : decide (x6_2 < (l0.length : Int)) = true := decide_eq_true c7
              clear c7
              by_cases c8 : 0 ≤ x6_2
              · rw [if_pos c8] at H
                have c8b0 : decide (0 ≤ x6_2) = true := decide_eq_true c8
                clear c8
                by_cases c9 : (rd l0 x6_2) < 0
                · rw [if_pos c9] at H
                  have c9b0 : decide ((rd l0 x6_2) < 0) = true := decide_eq_true c9
                  clear c9
                  obtain rfl := Option.some.inj H
                  have p161 : 0 ≤ (x6_2 : Int) := of_decide_eq_true (by first | (with_reducible assumption) | assumption)
                  have q161 : x6_2 < (l0.length : Int) := of_decide_eq_true (by first | (with_reducible assumption) | assumption)
                  obtain ⟨ad161, e161, hx161_0⟩ := Kd.at_int HR0.out x6_2 p161 q161
                  cases e161
                  replace p161 := eq_true p161
                  replace q161 := eq_true q161
                  go_wp2
                  repeat (go_quiet (fail); try go_wp2)
                  go_ret
                  exact ⟨by first | rfl | (simp; done) | (simp [*]; done), by repeat (first | exact Drawn0.refl _ | apply Drawn0.step)⟩
                · rw [if_neg c9] at H
                  have c9b0 : decide ((rd l0 x6_2) < 0) = false := decide_eq_false c9
                  clear c9
                  by_cases c10 : 0 ≤ a1
                  · rw [if_pos c10] at H
                    have c10b0 := eq_true c10
                    have c10b1 : decide (0 ≤ a1) = true := decide_eq_true c10
                    clear c10
                    obtain ⟨ji11, hji11⟩ : ∃ j_ : Int, (shl .i64 1 a1) = j_ := ⟨_, rfl⟩
                    replace H : (if (rd l0 x6_2) > (ji11) then (some false) else (wringerref7_MayNorm.l0 k2 l0 a1 (wrap64 (x5_2 + (rd l0 x6_2))) (wrap64 (x6_2 + 1)))) = some r := by first | (rw [hji11] at H; exact H) | (simp only [hji11] at H ⊢; exact H)
                    have hji11_ : (IntKind.i64.wrap (1 * 2 ^ min a1.toNat 64)) = ji11 := hji11
                    have hji11z : a1 ≤ 64 → (IntKind.i64.wrap (1 * 2 ^ a1.toNat)) = ji11 := shl_small hji11
                    have hji11u : (IntKind.i64.wrap (2 ^ min a1.toNat 64)) = ji11 := by have h_ := hji11_; rw [Int.one_mul] at h_; exact h_
                    have hji11v : a1 ≤ 64 → (IntKind.i64.wrap (2 ^ a1.toNat)) = ji11 := fun hle_ => by have h_ := hji11z hle_; rw [Int.one_mul] at h_; exact h_
                    have hji11y : (wrap64 (1 * 2 ^ min a1.toNat 64)) = ji11 := (i64_w _).symm.trans hji11_
                    have hji11x : a1 ≤ 64 → (wrap64 (1 * 2 ^ a1.toNat)) = ji11 := fun h_ => (i64_w _).symm.trans (hji11z h_)
                    by_cases c12 : (rd l0 x6_2) > (ji11)
                    · rw [if_pos c12] at H
                      have c12b0 : decide ((ji11) < (rd l0 x6_2)) = true := decide_eq_true c12
                      clear c12
                      obtain rfl := Option.some.inj H
                      have p161 : 0 ≤ (x6_2 : Int) := of_decide_eq_true (by first | (with_reducible assumption) | assumption)
                      have q161 : x6_2 < (l0.length : Int) := of_decide_eq_true (by first | (with_reducible assumption) | assumption)
                      obtain ⟨ad161, e161, hx161_0⟩ := Kd.at_int HR0.out x6_2 p161 q161
                      cases e161
                      replace p161 := eq_true p161
                      replace q161 := eq_true q161
                      have p162 : 0 ≤ (x6_2 : Int) := of_decide_eq_true (by first | (with_reducible assumption) | assumption)
                      have q162 : x6_2 < (l0.length : Int) := of_decide_eq_true (by first | (with_reducible assumption) | assumption)
                      obtain ⟨ad162, e162, hx162_0⟩ := Kd.at_int HR0.out x6_2 p162 q162
                      obtain rfl : ad161 = ad162 := (by injection e162)
                      replace p162 := eq_true p162
                      replace q162 := eq_true q162
                      go_wp2
                      repeat (go_quiet (fail); try go_wp2)
                      go_ret
                      exact ⟨by first | rfl | (simp; done) | (simp only [← hji11] <;> (first | rfl | simp)) | (simp [*]; done), by repeat (first | exact Drawn0.refl _ | apply Drawn0.step)⟩
                    · rw [if_neg c12] at H
                      have c12b0 : decide ((ji11) < (rd l0 x6_2)) = false := decide_eq_false c12
                      clear c12
                      have H' := Aside0.mk H
                      clear H
                      have p161 : 0 ≤ (x6_2 : Int) := of_decide_eq_true (by first | (with_reducible assumption) | assumption)
                      have q161 : x6_2 < (l0.length : Int) := of_decide_eq_true (by first | (with_reducible assumption) | assumption)
                      obtain ⟨ad161, e161, hx161_0⟩ := Kd.at_int HR0.out x6_2 p161 q161
                      cases e161
                      replace p161 := eq_true p161
                      replace q161 := eq_true q161
                      have p162 : 0 ≤ (x6_2 : Int) := of_decide_eq_true (by first | (with_reducible assumption) | assumption)
                      have q162 : x6_2 < (l0.length : Int) := of_decide_eq_true (by first | (with_reducible assumption) | assumption)
                      obtain ⟨ad162, e162, hx162_0⟩ := Kd.at_int HR0.out x6_2 p162 q162
                      obtain rfl : ad161 = ad162 := (by injection e162)
                      replace p162 := eq_true p162
                      replace q162 := eq_true q162
                      have p163 : 0 ≤ (x6_2 : Int) := of_decide_eq_true (by first | (with_reducible assumption) | assumption)
                      have q163 : x6_2 < (l0.length : Int) := of_decide_eq_true (by first | (with_reducible assumption) | assumption)
                      obtain ⟨ad163, e163, hx163_0⟩ := Kd.at_int HR0.out x6_2 p163 q163
                      obtain rfl : ad161 = ad163 := (by injection e163)
                      replace p163 := eq_true p163
                      replace q163 := eq_true q163
                      go_wp2
                      repeat (go_quiet (fail); try go_wp2)
                      go_roundg k2
                      case measure => have := HJ2.out; have := HK2.out; omega
                      case rel => exact ⟨(wrap64 (x5_2 + (rd l0 x6_2))), (wrap64 (x6_2 + 1)), (by first | rfl | (simp; done) | (simp [*]; done)), (by first | rfl | (simp; done) | (simp [*]; done)), H', ⟨by have := HJ2.out; have := HK2.out; omega⟩, by repeat (first | exact Drawn0.refl _ | apply Drawn0.step)⟩
                  · rw [if_neg c10] at H
                    exact absurd H (by simp)
              · rw [if_neg c8] at H
                exact absurd H (by simp)
            · rw [if_neg c7] at H
              have c7b0 : decide (x6_2 < (l0.length : Int)) = false := decide_eq_false c7
              clear c7
              by_cases c13 : 0 ≤ a1
              · rw [if_pos c13] at H
                have c13b0 := eq_true c13
                have c13b1 : decide (0 ≤ a1) = true := decide_eq_true c13
                clear c13
                obtain ⟨ji14, hji14⟩ : ∃ j_ : Int, (shl .i64 1 a1) = j_ := ⟨_, rfl⟩
                replace H : (some (x5_2 == (ji14))) = some r := by first | (rw [hji14] at H; exact H) | (simp only [hji14] at H ⊢; exact H)
                have hji14_ : (IntKind.i64.wrap (1 * 2 ^ min a1.toNat 64)) = ji14 := hji14
                have hji14z : a1 ≤ 64 → (IntKind.i64.wrap (1 * 2 ^ a1.toNat)) = ji14 := shl_small hji14
                have hji14u : (IntKind.i64.wrap (2 ^ min a1.toNat 64)) = ji14 := by have h_ := hji14_; rw [Int.one_mul] at h_; exact h_
                have hji14v : a1 ≤ 64 → (IntKind.i64.wrap (2 ^ a1.toNat)) = ji14 := fun hle_ => by have h_ := hji14z hle_; rw [Int.one_mul] at h_; exact h_
                have hji14y : (wrap64 (1 * 2 ^ min a1.toNat 64)) = ji14 := (i64_w _).symm.trans hji14_
                have hji14x : a1 ≤ 64 → (wrap64 (1 * 2 ^ a1.toNat)) = ji14 := fun h_ => (i64_w _).symm.trans (hji14z h_)
                obtain rfl := Option.some.inj H
                go_wp2
                repeat (go_quiet (fail); try go_wp2)
                go_ret
                exact ⟨by first | rfl | (simp; done) | (simp only [← hji14] <;> (first | rfl | simp)) | (simp [*]; done), by repeat (first | exact Drawn0.refl _ | apply Drawn0.step)⟩
              · rw [if_neg c13] at H
                exact absurd H (by simp)

end Go.Proofs.Ytbldocbijihpgaa.PA

-- ---- PAx35

namespace Go.Proofs.Ytbldocbijihpgaa.PA
open Go.RowKit Go.Proofs.YtbldocbijihpgaaW.PrintWords Go.Proofs.YtbldocbijihpgaaW.PrintLast Go.Proofs.YtbldocbijihpgaaW.PrintMore
attribute [local go_sem] max2_int min2_int max_two min_two max_three min_three max_four min_four   -- for this text's walks alone
set_option linter.unusedVariables false
set_option linter.unusedSimpArgs false

/-! ### wringerlaw8_Freq: function 10 -/
def wringerlaw8_Freq.l0 : Nat → List Int → List Int → Int → Option (List Int)
  | 0, _, _, _ => none
  | k + 1, x0, x3, x4 => if (wrap64 (x4 + 1)) < (x0.length : Int) then (if 0 ≤ x4 then (if x4 < (x0.length : Int) then (if 0 ≤ (wrap64 (x4 + 1)) then (if 0 ≤ (Int.tmod (IntKind.u16.wrap (Int.tdiv (rd x0 x4) 65)) 16) then (if 0 ≤ (Int.tmod (wrap64 (rd x0 x4)) 65) then (if (Int.tmod (wrap64 (rd x0 x4)) 65) < (x3.length : Int) then (wringerlaw8_Freq.l0 k x0 (x3.set ((Int.tmod (wrap64 (rd x0 x4)) 65) : Int).toNat (shr .i64 (wrap64 (rd x0 (wrap64 (x4 + 1)))) (Int.tmod (IntKind.u16.wrap (Int.tdiv (rd x0 x4) 65)) 16))) (wrap64 (x4 + 2))) else (none)) else (none)) else (none)) else (none)) else (none)) else (none)) else (some x3)
def wringerlaw8_Freq.f (k : Nat) (l0 : List Int) : Option (List Int) := if 65 ≤ 35184372088832 then (wringerlaw8_Freq.l0 k l0 (List.replicate 65 0) 0) else (none)
theorem wringerlaw8_Freq.mono_l : ∀ k, (∀ y0 y1 y2, LeO (wringerlaw8_Freq.l0 k y0 y1 y2) (wringerlaw8_Freq.l0 (k + 1) y0 y1 y2))
  | 0 => fun _ _ _ r h => by simp [wringerlaw8_Freq.l0] at h
  | k + 1 => by
    have ih0 := wringerlaw8_Freq.mono_l k
    · intro y0 y1 y2
      unfold wringerlaw8_Freq.l0
      repeat' first
      | (with_reducible exact ih0 _ _ _)
      | (with_reducible exact LeO.refl _)
      | (with_reducible exact LeO.none _)
      | (with_reducible refine LeO.ite ?_ ?_)
      | (with_reducible refine LeO.bind ?_ (fun _ => ?_))
      | exact ih0 _ _ _
      | exact LeO.none _
      | refine LeO.ite ?_ ?_
      | refine LeO.bind ?_ (fun _ => ?_)
theorem wringerlaw8_Freq.mono : ∀ a0 k, LeO (wringerlaw8_Freq.f k a0) (wringerlaw8_Freq.f (k + 1) a0) := by
  intro a0 k
  have ih0 := wringerlaw8_Freq.mono_l k
  unfold wringerlaw8_Freq.f
  repeat' first
      | (with_reducible exact ih0 _ _ _)
      | (with_reducible exact LeO.refl _)
      | (with_reducible exact LeO.none _)
      | (with_reducible refine LeO.ite ?_ ?_)
      | (with_reducible refine LeO.bind ?_ (fun _ => ?_))
      | exact ih0 _ _ _
      | exact LeO.none _
      | refine LeO.ite ?_ ?_
      | refine LeO.bind ?_ (fun _ => ?_)
def wringerlaw8_Freq.T5 : Bool × List (List Nat × List Nat) := (true, [([], []), ([], []), ([], []), ([1, 2], [1, 2]), ([3], [3]), ([4], [4]), ([5], [5]), ([], []), ([], []), ([8], [8]), ([7, 9], [7, 9]), ([10], [10]), ([11], [11]), ([], []), ([], []), ([13, 14], [13, 14]), ([15], [15]), ([16], [16]), ([17], [17]), ([12, 18], [12, 18]), ([0, 6, 0, 1, 2, 3, 4, 5, 6, 7, 8, 9, 10, 11, 12, 13, 14, 15, 16, 17, 18, 19], [0, 6]), ([20, 19, 0, 1, 2, 3, 4, 5, 6, 7, 8, 9, 10, 11, 12, 13, 14, 15, 16, 17, 18, 19], [19, 20])])
def wringerlaw8_Freq.B5 : List Nat := [0, 0, 0, 6, 14, 30, 62, 0, 0, 256, 896, 1920, 3968, 0, 0, 24576, 57344, 122880, 253952, 524160, 1048575, 2097151]
theorem wringerlaw8_Freq.tab5 : rtab .any (opsOf Try.f10 5) = wringerlaw8_Freq.T5 := by kernel_rfl
theorem wringerlaw8_Freq.bits5 : waitsOk wringerlaw8_Freq.T5.2 wringerlaw8_Freq.B5 = true := by kernel_rfl
set_option maxHeartbeats 8000000 in
set_option maxRecDepth 100000 in
theorem wringerlaw8_Freq.calls (k : Nat) (A0 : Option Addr) (c0 : Nat) (l0 : List Int) (r : List Int) (w : World) (hr0 : Kd.C (Kd.int .u16) w A0 l0.length l0) (hc0 : l0.length ≤ c0) (h : wringerlaw8_Freq.f k l0 = some r) :
    Calls Try.prog 10 #[.slice A0 l0.length c0] w fun e w' => ∃ v0_ : Value, e = .returned (v0_) ∧ Kd.R (Kd.int .i64) 3 w' w.heap.size (fun _ => True) v0_ r ∧ Below w.heap.size w w' := by
  have HR0 := Aside0.mk hr0
  have HC0 := Aside0.mk hc0
  clear hr0 hc0
  have HB := Aside0.mk (Below.refl w.heap.size w)
  have H : (if 65 ≤ 35184372088832 then (wringerlaw8_Freq.l0 k l0 (List.replicate 65 0) 0) else (none)) = some r := h
  clear h
  by_cases c2 : 65 ≤ 35184372088832
  · rw [if_pos c2] at H
    have c2b0 := eq_true c2
    have c2b1 : decide (65 ≤ 35184372088832) = true := decide_eq_true c2
    clear c2
    obtain ⟨y230, hy230⟩ : ∃ y_ : List Int, y_ = (List.replicate 65 0) := ⟨_, rfl⟩
    replace H : (wringerlaw8_Freq.l0 k l0 y230 0) = some r := by first | (rw [hy230]; with_reducible exact H) | (have H2_ := (Option.bind_some _ _).symm.trans H; rw [hy230]; with_reducible exact H2_) | (have H2_ := (Option.bind_some _ _).symm.trans H; with_reducible exact H2_) | with_reducible exact H | (rw [hy230]; exact H) | exact H
    have Ny230 := Aside0.mk hy230
    clear hy230
    have H' := Aside0.mk H
    clear H
    go_enter Try.func10, Try.ntmps10
    go_wp2_with (first | ((with_reducible refine gate_dst (N := 5) rfl ?_); refine Kd.R_make (Kd.int .i64) _ 3 rfl (N := 5) rfl 24 _ _ rfl 65 rfl rfl Try.underlying24 (.int .i64 0) 8 info3 rfl (by decide) (by omega) 0 (ok := fun _ => True) (okp := fun _ => True) rfl (fun _ hk => hk) trivial (by omega) (by omega) (Below.refl _ _) (Nat.le_refl _) ?_; intro v231 w3 ho4 hb hg_ hnew_; clear hg_ hnew_; (first | rw [← Ny230.out] at ho4 | (simp only [Int.reduceToNat] at ho4; rw [← Ny230.out] at ho4)); have n0_ := Aside0.mk (Kd.R_lower ho4 (below_size (by repeat (first | (with_reducible first | exact HB.out | apply below_alloc | apply pw_below_drewN | apply below_drew1) | exact HB.out)))); have n1_ := Aside0.mk (below_step (by repeat (first | (with_reducible first | exact HB.out | apply below_alloc | apply pw_below_drewN | apply below_drew1) | exact HB.out)) hb); clear HB; have HO232 := n0_; have HB := n1_; clear n0_ n1_; clear hb ho4))
    go_loopg [4] k (fun kq v4 w' => ∃ (x3_1 : List Int) (x4_1 : Int), v4 = .int .i64 x4_1 ∧ Aside0 (wringerlaw8_Freq.l0 kq l0 x3_1 x4_1 = some r) ∧ Aside0 (kq ≤ k) ∧ Aside0 (Kd.R (Kd.int .i64) 3 w' w.heap.size (fun _ => True) v231 x3_1) ∧ Aside0 (Below w.heap.size w w'))
    case atStart => exact ⟨(y230), (0), (by first | rfl | (simp; done) | (simp [*]; done)), H', ⟨Nat.le_refl _⟩, ⟨by (with_reducible repeat (first | apply Kd.R_alloc | apply Kd.R_drewN | apply Kd.R_drew)); exact HO232.out⟩, ⟨by repeat (first | (with_reducible first | exact HB.out | apply below_alloc | apply pw_below_drewN | apply below_drew1) | exact HB.out)⟩⟩
    case round =>
      clear H'
      try clear c1
      try clear c2
      try clear c2b0
      try clear c2b1
      try clear p2
      obtain ⟨x3_1, x4_1, rfl, HA, HK1, HO_3, HB⟩ := hrel
      cases gk with
      | zero => exact absurd HA.out (by simp [wringerlaw8_Freq.l0])
      | succ k1 =>
        have H := HA.out
        clear HA
        simp only [wringerlaw8_Freq.l0] at H
        by_cases c5 : (wrap64 (x4_1 + 1)) < (l0.length : Int)
        · rw [if_pos c5] at H
          have c5b0 : decide ((wrap64 (x4_1 + 1)) < (l0.length : Int)) = true := decide_eq_true c5
          clear c5
          by_cases c6 : 0 ≤ x4_1
          · rw [if_pos c6] at H
            have c6b0 : decide (0 ≤ x4_1) = true := decide_eq_true c6
            clear c6
            by_cases c7 : x4_1 < (l0.length : Int)
            · rw [if_pos c7] at H
              have c7b0 : decide (x4_1 < (l0.length : Int)) = true := decide_eq_true c7
              clear c7
              obtain ⟨ji8, hji8⟩ : ∃ j_ : Int, (wrap64 (x4_1 + 1)) = j_ := ⟨_, rfl⟩
              replace H : (if 0 ≤ (ji8) then (if 0 ≤ (Int.tmod (IntKind.u16.wrap (Int.tdiv (rd l0 x4_1) 65)) 16) then (if 0 ≤ (Int.tmod (wrap64 (rd l0 x4_1)) 65) then (if (Int.tmod (wrap64 (rd l0 x4_1)) 65) < (x3_1.length : Int) then (wringerlaw8_Freq.l0 k1 l0 (x3_1.set ((Int.tmod (wrap64 (rd l0 x4_1)) 65) : Int).toNat (shr .i64 (wrap64 (rd l0 (ji8))) (Int.tmod (IntKind.u16.wrap (Int.tdiv (rd l0 x4_1) 65)) 16))) (wrap64 (x4_1 + 2))) else (none)) else (none)) else (none)) else (none)) = some r := by first | (rw [hji8] at H; exact H) | (simp only [hji8] at H ⊢; exact H)
              (try rw [hji8] at c5b0)
              have hji8w : (IntKind.i64.wrap (x4_1 + 1)) = ji8 := (i64_w _).trans hji8
              by_cases c9 : 0 ≤ (ji8)
              · rw [if_pos c9] at H
                have c9b0 : decide (0 ≤ (ji8)) = true := decide_eq_true c9
                clear c9
                obtain ⟨ji10, hji10⟩ : ∃ j_ : Int, (Int.tmod (IntKind.u16.wrap (Int.tdiv (rd l0 x4_1) 65)) 16) = j_ := ⟨_, rfl⟩
                replace H : (if 0 ≤ (ji10) then (if 0 ≤ (Int.tmod (wrap64 (rd l0 x4_1)) 65) then (if (Int.tmod (wrap64 (rd l0 x4_1)) 65) < (x3_1.length : Int) then (wringerlaw8_Freq.l0 k1 l0 (x3_1.set ((Int.tmod (wrap64 (rd l0 x4_1)) 65) : Int).toNat (shr .i64 (wrap64 (rd l0 (ji8))) (ji10))) (wrap64 (x4_1 + 2))) else (none)) else (none)) else (none)) = some r := by first | (rw [hji10] at H; exact H) | (simp only [hji10] at H ⊢; exact H)
                by_cases c11 : 0 ≤ (ji10)
                · rw [if_pos c11] at H
                  have c11b0 := eq_true c11
                  have c11b1 : decide (0 ≤ (ji10)) = true := decide_eq_true c11
                  clear c11
                  obtain ⟨ji12, hji12⟩ : ∃ j_ : Int, (shr .i64 (wrap64 (rd l0 (ji8))) (ji10)) = j_ := ⟨_, rfl⟩
                  replace H : (if 0 ≤ (Int.tmod (wrap64 (rd l0 x4_1)) 65) then (if (Int.tmod (wrap64 (rd l0 x4_1)) 65) < (x3_1.length : Int) then (wringerlaw8_Freq.l0 k1 l0 (x3_1.set ((Int.tmod (wrap64 (rd l0 x4_1)) 65) : Int).toNat (ji12)) (wrap64 (x4_1 + 2))) else (none)) else (none)) = some r := by first | (rw [hji12] at H; exact H) | (simp only [hji12] at H ⊢; exact H)
                  have hji12_ : ((wrap64 (rd l0 (ji8))) / 2 ^ min (ji10).toNat 64) = ji12 := hji12
                  have hji12z : (ji10) ≤ 64 → ((wrap64 (rd l0 (ji8))) / 2 ^ (ji10).toNat) = ji12 := shr_small hji12
                  obtain ⟨ji13, hji13⟩ : ∃ j_ : Int, (Int.tmod (wrap64 (rd l0 x4_1)) 65) = j_ := ⟨_, rfl⟩
                  replace H : (if 0 ≤ (ji13) then (if (ji13) < (x3_1.length : Int) then (wringerlaw8_Freq.l0 k1 l0 (x3_1.set ((ji13) : Int).toNat (ji12)) (wrap64 (x4_1 + 2))) else (none)) else (none)) = some r := by first | (rw [hji13] at H; exact H) | (simp only [hji13] at H ⊢; exact H)
                  by_cases c14 : 0 ≤ (ji13)
                  · rw [if_pos c14] at H
                    have c14b0 : decide (0 ≤ (ji13)) = true := decide_eq_true c14
                    clear c14
                    by_cases c15 : (ji13) < (x3_1.length : Int)
                    · rw [if_pos c15] at H
                      have c15b0 : decide ((ji13) < (x3_1.length : Int)) = true := decide_eq_true c15
                      clear c15
                      obtain ⟨y236, hy236⟩ : ∃ y_ : List Int, y_ = (x3_1.set ((ji13) : Int).toNat (ji12)) := ⟨_, rfl⟩
                      replace H : (wringerlaw8_Freq.l0 k1 l0 y236 (wrap64 (x4_1 + 2))) = some r := by first | (rw [hy236]; with_reducible exact H) | (have H2_ := (Option.bind_some _ _).symm.trans H; rw [hy236]; with_reducible exact H2_) | (have H2_ := (Option.bind_some _ _).symm.trans H; with_reducible exact H2_) | with_reducible exact H | (rw [hy236]; exact H) | exact H
                      have Ny236 := Aside0.mk hy236
                      clear hy236
                      have H' := Aside0.mk H
                      clear H
                      try go_wp2
                      have n0_ := Aside0.mk (Kd.R_drew HO_3.out)
                      have n1_ := Aside0.mk (below_drew1 HB.out)
                      clear HO_3
                      clear HB
                      have HO_3 := n0_
                      have HB := n1_
                      clear n0_ n1_
                      have p233 : 0 ≤ (x4_1 : Int) := of_decide_eq_true (by first | (with_reducible assumption) | assumption)
                      have q233 : x4_1 < (l0.length : Int) := of_decide_eq_true (by first | (with_reducible assumption) | assumption)
                      obtain ⟨ad233, e233, hx233_0⟩ := Kd.at_int HR0.out x4_1 p233 q233
                      have hw233_0 := hx233_0
                      cases e233
                      replace hx233_0 := (HB.out.cell (World.block_lt_of_cell? w _ hx233_0)).trans hx233_0
                      replace p233 := eq_true p233
                      replace q233 := eq_true q233
                      have p234 : 0 ≤ ((ji8) : Int) := of_decide_eq_true (by first | (with_reducible assumption) | assumption)
                      have q234 : (ji8) < (l0.length : Int) := of_decide_eq_true (by first | (with_reducible assumption) | assumption)
                      obtain ⟨ad234, e234, hx234_0⟩ := Kd.at_int HR0.out (ji8) p234 q234
                      have hw234_0 := hx234_0
                      obtain rfl : ad233 = ad234 := (by injection e234)
                      replace hx234_0 := (HB.out.cell (World.block_lt_of_cell? w _ hx234_0)).trans hx234_0
                      replace p234 := eq_true p234
                      replace q234 := eq_true q234
                      have p235 : 0 ≤ (x4_1 : Int) := of_decide_eq_true (by first | (with_reducible assumption) | assumption)
                      have q235 : x4_1 < (l0.length : Int) := of_decide_eq_true (by first | (with_reducible assumption) | assumption)
                      obtain ⟨ad235, e235, hx235_0⟩ := Kd.at_int HR0.out x4_1 p235 q235
                      have hw235_0 := hx235_0
                      obtain rfl : ad233 = ad235 := (by injection e235)
                      replace hx235_0 := (HB.out.cell (World.block_lt_of_cell? w _ hx235_0)).trans hx235_0
                      replace p235 := eq_true p235
                      replace q235 := eq_true q235
                      have p16 : 0 ≤ ((ji13) : Int) := of_decide_eq_true (by first | (with_reducible assumption) | assumption)
                      have q16 : ((ji13) : Int) < ((x3_1.length : Int) : Int) := of_decide_eq_true (by first | (with_reducible assumption) | assumption)
                      obtain ⟨go16, co16, eo16, gb16, gl16, cl16, HG16⟩ := Kd.R_form HO_3.out (by omega)
                      (first | cases eo16 | (injection eo16 with ea_ en_ ec_; (first | subst ea_ | (injection ea_ with ea_; subst ea_)); subst ec_; clear en_))
                      have GB16 := Aside0.mk gb16
                      have GG16 := Aside0.mk HG16
                      clear gb16 gl16 HG16
                      obtain ⟨hx16_0, hf16_0⟩ := Kd.R_celln 0 HO_3.out ((ji13) : Int) p16 q16
                      replace p16 := eq_true p16
                      replace q16 := eq_true q16
                      have HP18 := Kd.R_putn HO_3.out ((ji13) : Int) ji12
                      rw [← Ny236.out] at HP18
                      have HQ18 := Aside0.mk HP18
                      clear HP18
                      refine start_ (n := 22) (S := fun w' => w'.cell? (ad233.add (x4_1).toNat) = some (.int .u16 (rd l0 x4_1)) ∧ w'.cell? (ad233.add ((ji8)).toNat) = some (.int .u16 (rd l0 (ji8))) ∧ w'.cell? (ad233.add (x4_1).toNat) = some (.int .u16 (rd l0 x4_1))) (ds := [21]) #[false, false, false, false, false, false, false, false, false, false, false, false, false, false, false, false, false, false, false, false, false, false] (by kernel_rfl) rfl rfl ⟨((HB.out.cell (World.block_lt_of_cell? w _ hw233_0)).trans hw233_0), ((HB.out.cell (World.block_lt_of_cell? w _ hw234_0)).trans hw234_0), ((HB.out.cell (World.block_lt_of_cell? w _ hw235_0)).trans hw235_0)⟩ (fun hHeld => ?_); refine with_tabW wringerlaw8_Freq.tab5 wringerlaw8_Freq.bits5 (fun HT_ HW_ => ?_)
                      generalize wr.drew = w17 at HO_3 HB GG16 HQ18 hf16_0 hx16_0 hx233_0 hx234_0 hx235_0 hHeld ⊢
                      refine pure_ (i := 0) (N := some 13) (v := ?_) (a' := ?_) #[true, false, false, false, false, false, false, false, false, false, false, false, false, false, false, false, false, false, false, false, false, false] rfl rfl (any_of HT_.out (by kernel_rfl)) (fun _ _ _ h => h) (Or.inl ⟨by rfl, ?_⟩) ?_ ?_
                      rotate_left
                      · intro w'
                        go_simp
                        with_reducible rfl
                      rotate_left
                      · simp only [Act.put, List.setIfInBounds_toArray, List.set_cons_zero, List.set_cons_succ, i64_w, i32_w]
                        rfl
                      refine pure_ (i := 1) (N := some 14) (v := ?_) (a' := ?_) #[true, true, false, false, false, false, false, false, false, false, false, false, false, false, false, false, false, false, false, false, false, false] rfl rfl (any_of HT_.out (by kernel_rfl)) (fun _ _ _ h => h) (Or.inl ⟨by rfl, ?_⟩) ?_ ?_
                      rotate_left
                      · intro w'
                        go_simp
                        with_reducible rfl
                      rotate_left
                      · simp only [Act.put, List.setIfInBounds_toArray, List.set_cons_zero, List.set_cons_succ, i64_w, i32_w]
                        rfl
                      refine pure_ (i := 2) (N := some 15) (v := ?_) (a' := ?_) #[true, true, true, false, false, false, false, false, false, false, false, false, false, false, false, false, false, false, false, false, false, false] rfl rfl (any_of HT_.out (by kernel_rfl)) (fun _ _ _ h => h) (Or.inl ⟨by rfl, ?_⟩) ?_ ?_
                      rotate_left
                      · intro w'
                        go_simp
                        with_reducible rfl
                      rotate_left
                      · simp only [Act.put, List.setIfInBounds_toArray, List.set_cons_zero, List.set_cons_succ, i64_w, i32_w]
                        rfl
                      refine pure_ (i := 3) (N := some 16) (v := ?_) (a' := ?_) #[true, true, true, true, false, false, false, false, false, false, false, false, false, false, false, false, false, false, false, false, false, false] rfl rfl (any_of HT_.out (by kernel_rfl)) (fun _ _ _ h => h) (Or.inl ⟨by rfl, ?_⟩) ?_ ?_
                      rotate_left
                      · intro w'
                        go_simp
                        with_reducible rfl
                      rotate_left
                      · simp only [Act.put, List.setIfInBounds_toArray, List.set_cons_zero, List.set_cons_succ, i64_w, i32_w]
                        rfl
                      refine pure_ (i := 7) (N := some 20) (v := ?_) (a' := ?_) #[true, true, true, true, false, false, false, true, false, false, false, false, false, false, false, false, false, false, false, false, false, false] rfl rfl (any_of HT_.out (by kernel_rfl)) (fun _ _ _ h => h) (Or.inl ⟨by rfl, ?_⟩) ?_ ?_
                      rotate_left
                      · intro w'
                        go_simp
                        with_reducible rfl
                      rotate_left
                      · simp only [Act.put, List.setIfInBounds_toArray, List.set_cons_zero, List.set_cons_succ, i64_w, i32_w]
                        rfl
                      refine pure_ (i := 8) (N := some 21) (v := ?_) (a' := ?_) #[true, true, true, true, false, false, false, true, true, false, false, false, false, false, false, false, false, false, false, false, false, false] rfl rfl (any_of HT_.out (by kernel_rfl)) (fun _ _ _ h => h) (Or.inl ⟨by rfl, ?_⟩) ?_ ?_
                      rotate_left
                      · intro w'
                        go_simp
                        with_reducible rfl
                      rotate_left
                      · simp only [Act.put, List.setIfInBounds_toArray, List.set_cons_zero, List.set_cons_succ, i64_w, i32_w]
                        rfl
                      refine pure_ (i := 9) (N := some 22) (v := ?_) (a' := ?_) #[true, true, true, true, false, false, false, true, true, true, false, false, false, false, false, false, false, false, false, false, false, false] rfl rfl (any_of HT_.out (by kernel_rfl)) (fun _ _ _ h => h) (Or.inl ⟨by rfl, ?_⟩) ?_ ?_
                      rotate_left
                      · intro w'
                        go_simp
                        with_reducible rfl
                      rotate_left
                      · simp only [Act.put, List.setIfInBounds_toArray, List.set_cons_zero, List.set_cons_succ, i64_w, i32_w]
                        rfl
                      refine pure_ (i := 10) (N := some 23) (v := ?_) (a' := ?_) #[true, true, true, true, false, false, false, true, true, true, true, false, false, false, false, false, false, false, false, false, false, false] rfl rfl (any_of HT_.out (by kernel_rfl)) (fun _ _ _ h => h) (Or.inl ⟨by rfl, ?_⟩) ?_ ?_
                      rotate_left
                      · intro w'
                        go_simp
                        with_reducible rfl
                      rotate_left
                      · simp only [Act.put, List.setIfInBounds_toArray, List.set_cons_zero, List.set_cons_succ, i64_w, i32_w]
                        rfl
                      refine pure_ (i := 13) (N := some 26) (v := ?_) (a' := ?_) #[true, true, true, true, false, false, false, true, true, true, true, false, false, true, false, false, false, false, false, false, false, false] rfl rfl (any_of HT_.out (by kernel_rfl)) (fun _ _ _ h => h) (Or.inl ⟨by rfl, ?_⟩) ?_ ?_
                      rotate_left
                      · intro w'
                        go_simp
                        with_reducible rfl
                      rotate_left
                      · simp only [Act.put, List.setIfInBounds_toArray, List.set_cons_zero, List.set_cons_succ, i64_w, i32_w]
                        rfl
                      refine pure_ (i := 14) (N := some 27) (v := ?_) (a' := ?_) #[true, true, true, true, false, false, false, true, true, true, true, false, false, true, true, false, false, false, false, false, false, false] rfl rfl (any_of HT_.out (by kernel_rfl)) (fun _ _ _ h => h) (Or.inl ⟨by rfl, ?_⟩) ?_ ?_
                      rotate_left
                      · intro w'
                        go_simp
                        with_reducible rfl
                      rotate_left
                      · simp only [Act.put, List.setIfInBounds_toArray, List.set_cons_zero, List.set_cons_succ, i64_w, i32_w]
                        rfl
                      refine pure_ (i := 15) (N := some 28) (v := ?_) (a' := ?_) #[true, true, true, true, false, false, false, true, true, true, true, false, false, true, true, true, false, false, false, false, false, false] rfl rfl (any_of HT_.out (by kernel_rfl)) (fun _ _ _ h => h) (Or.inl ⟨by rfl, ?_⟩) ?_ ?_
                      rotate_left
                      · intro w'
                        go_simp
                        with_reducible rfl
                      rotate_left
                      · simp only [Act.put, List.setIfInBounds_toArray, List.set_cons_zero, List.set_cons_succ, i64_w, i32_w]
                        rfl
                      refine take_ (i := 4) (N := some 17) (v := ?_) (a' := ?_) #[true, true, true, true, true, false, false, true, true, true, true, false, false, true, true, true, false, false, false, false, false, false] rfl rfl (take_ofW HT_.out HW_.out (by kernel_rfl)) (fun _ _ _ h => h) (Or.inl ⟨by rfl, ?_⟩) hHeld ?_ ?_
                      rotate_left
                      · rintro w' ⟨s0, s1, s2⟩
                        go_simp
                        with_reducible rfl
                      rotate_left
                      · simp only [Act.put, List.setIfInBounds_toArray, List.set_cons_zero, List.set_cons_succ, i64_w, i32_w]
                        rfl
                      refine pure_ (i := 5) (N := some 18) (v := ?_) (a' := ?_) #[true, true, true, true, true, true, false, true, true, true, true, false, false, true, true, true, false, false, false, false, false, false] rfl rfl (any_of HT_.out (by kernel_rfl)) (fun _ _ _ h => h) (Or.inl ⟨by rfl, ?_⟩) ?_ ?_
                      rotate_left
                      · intro w'
                        go_simp
                        with_reducible rfl
                      rotate_left
                      · simp only [Act.put, List.setIfInBounds_toArray, List.set_cons_zero, List.set_cons_succ, i64_w, i32_w]
                        rfl
                      refine pure_ (i := 6) (N := some 19) (v := ?_) (a' := ?_) #[true, true, true, true, true, true, true, true, true, true, true, false, false, true, true, true, false, false, false, false, false, false] rfl rfl (any_of HT_.out (by kernel_rfl)) (fun _ _ _ h => h) (Or.inl ⟨by rfl, ?_⟩) ?_ ?_
                      rotate_left
                      · intro w'
                        go_simp
                        with_reducible rfl
                      rotate_left
                      · simp only [Act.put, List.setIfInBounds_toArray, List.set_cons_zero, List.set_cons_succ, i64_w, i32_w]
                        rfl
                      refine take_ (i := 11) (N := some 24) (v := ?_) (a' := ?_) #[true, true, true, true, true, true, true, true, true, true, true, true, false, true, true, true, false, false, false, false, false, false] rfl rfl (take_ofW HT_.out HW_.out (by kernel_rfl)) (fun _ _ _ h => h) (Or.inl ⟨by rfl, ?_⟩) hHeld ?_ ?_
                      rotate_left
                      · rintro w' ⟨s0, s1, s2⟩
                        go_simp
                        with_reducible rfl
                      rotate_left
                      · simp only [Act.put, List.setIfInBounds_toArray, List.set_cons_zero, List.set_cons_succ, i64_w, i32_w]
                        rfl
                      refine pure_ (i := 12) (N := some 25) (v := ?_) (a' := ?_) #[true, true, true, true, true, true, true, true, true, true, true, true, true, true, true, true, false, false, false, false, false, false] rfl rfl (any_of HT_.out (by kernel_rfl)) (fun _ _ _ h => h) (Or.inl ⟨by rfl, ?_⟩) ?_ ?_
                      rotate_left
                      · intro w'
                        go_simp
                        with_reducible rfl
                      rotate_left
                      · simp only [Act.put, List.setIfInBounds_toArray, List.set_cons_zero, List.set_cons_succ, i64_w, i32_w]
                        rfl
                      refine take_ (i := 16) (N := some 29) (v := ?_) (a' := ?_) #[true, true, true, true, true, true, true, true, true, true, true, true, true, true, true, true, true, false, false, false, false, false] rfl rfl (take_ofW HT_.out HW_.out (by kernel_rfl)) (fun _ _ _ h => h) (Or.inl ⟨by rfl, ?_⟩) hHeld ?_ ?_
                      rotate_left
                      · rintro w' ⟨s0, s1, s2⟩
                        go_simp
                        with_reducible rfl
                      rotate_left
                      · simp only [Act.put, List.setIfInBounds_toArray, List.set_cons_zero, List.set_cons_succ, i64_w, i32_w]
                        rfl
                      refine pure_ (i := 17) (N := some 30) (v := ?_) (a' := ?_) #[true, true, true, true, true, true, true, true, true, true, true, true, true, true, true, true, true, true, false, false, false, false] rfl rfl (any_of HT_.out (by kernel_rfl)) (fun _ _ _ h => h) (Or.inl ⟨by rfl, ?_⟩) ?_ ?_
                      rotate_left
                      · intro w'
                        go_simp
                        with_reducible rfl
                      rotate_left
                      · simp only [Act.put, List.setIfInBounds_toArray, List.set_cons_zero, List.set_cons_succ, i64_w, i32_w]
                        rfl
                      refine pure_ (i := 18) (N := some 31) (v := ?_) (a' := ?_) #[true, true, true, true, true, true, true, true, true, true, true, true, true, true, true, true, true, true, true, false, false, false] rfl rfl (any_of HT_.out (by kernel_rfl)) (fun _ _ _ h => h) (Or.inl ⟨by rfl, ?_⟩) ?_ ?_
                      rotate_left
                      · intro w'
                        go_simp
                        with_reducible rfl
                      rotate_left
                      · simp only [Act.put, List.setIfInBounds_toArray, List.set_cons_zero, List.set_cons_succ, i64_w, i32_w]
                        rfl
                      refine pure_ (i := 19) (N := some 32) (v := ?_) (a' := ?_) #[true, true, true, true, true, true, true, true, true, true, true, true, true, true, true, true, true, true, true, true, false, false] rfl rfl (any_of HT_.out (by kernel_rfl)) (fun _ _ _ h => h) (Or.inl ⟨by rfl, ?_⟩) ?_ ?_
                      rotate_left
                      · intro w'
                        go_simp
                        with_reducible rfl
                      rotate_left
                      · simp only [Act.put, List.setIfInBounds_toArray, List.set_cons_zero, List.set_cons_succ, i64_w, i32_w]
                        rfl
                      refine pure_ (i := 20) (N := some 33) (v := ?_) (a' := ?_) #[true, true, true, true, true, true, true, true, true, true, true, true, true, true, true, true, true, true, true, true, true, false] rfl rfl (any_of HT_.out (by kernel_rfl)) (fun _ _ _ h => h) (Or.inl ⟨by rfl, ?_⟩) ?_ ?_
                      rotate_left
                      · intro w'
                        go_simp
                        with_reducible rfl
                      rotate_left
                      · simp only [Act.put, List.setIfInBounds_toArray, List.set_cons_zero, List.set_cons_succ, i64_w, i32_w]
                        rfl
                      refine last_ (i := 21) (N := none) #[true, true, true, true, true, true, true, true, true, true, true, true, true, true, true, true, true, true, true, true, true, true] rfl rfl (one_of HT_.out (by kernel_rfl)) (by decide) (fun K hK => ?_)
                      refine skip_ (w1 := ?_) (by rfl) rfl ?_ ?_
                      rotate_left
                      · go_simp
                        rfl
                      refine hK.out _ _ ?_
                      clear hK K
                      refine done_ (done_of HT_.out (by kernel_rfl)) ?_
                      try go_wp2
                      go_roundg k1
                      case measure => have := HK1.out; omega
                      case rel => exact ⟨(y236), (wrap64 (x4_1 + 2)), (by first | rfl | (simp; done) | (simp [*]; done)), H', ⟨by have := HK1.out; omega⟩, ⟨by (with_reducible repeat (first | apply Kd.R_alloc | apply Kd.R_drewN | apply Kd.R_drew)); exact HQ18.out⟩, ⟨by repeat (first | (with_reducible first | exact HB.out | apply below_alloc | apply pw_below_drewN | apply below_drew1 | refine below_set ?_ GB16.out) | exact HB.out)⟩⟩
                    · rw [if_neg c15] at H
                      exact absurd H (by simp)
                  · rw [if_neg c14] at H
                    exact absurd H (by simp)
                · rw [if_neg c11] at H
                  exact absurd H (by simp)
              · rw [if_neg c9] at H
                exact absurd H (by simp)
            · rw [if_neg c7] at H
              exact absurd H (by simp)
          · rw [if_neg c6] at H
            exact absurd H (by simp)
        · rw [if_neg c5] at H
          have c5b0 : decide ((wrap64 (x4_1 + 1)) < (l0.length : Int)) = false := decide_eq_false c5
          clear c5
          obtain rfl := Option.some.inj H
          go_wp2
          go_ret
          exact ⟨_, by first | rfl | (simp [errW_none, errW_some] <;> rfl) | (simp [*, errW_none, errW_some] <;> rfl), by (with_reducible repeat (first | apply Kd.R_alloc | apply Kd.R_drewN | apply Kd.R_drew)); exact HO_3.out, by repeat (first | (with_reducible first | exact HB.out | apply below_alloc | apply pw_below_drewN | apply below_drew1) | exact HB.out)⟩
  · rw [if_neg c2] at H
    exact absurd H (by simp)

end Go.Proofs.Ytbldocbijihpgaa.PA

-- ---- Sp
/- Classes at their places, and the table of states: plain facts. No program in sight. -/
namespace Go.Proofs.Ytbldocbijihpgaa.Sp
set_option linter.unusedSimpArgs false
set_option linter.unusedVariables false
set_option linter.unusedSectionVars false
open Hp Ol Nl

/-- Numbers that may be: 65 of them, each from nought to the sum, which is 2 to the log. -/
def mayN (l : List Int) (log : Int) : Bool :=
  decide (7 ≤ log ∧ log ≤ 12 ∧ l.length = 65 ∧ (∀ x ∈ l, 0 ≤ x ∧ x ≤ ((2 ^ log.toNat : Nat) : Int)) ∧ l.sum = ((2 ^ log.toNat : Nat) : Int))

/-- One more class at its place. -/
def put1 (size : Nat) (st : List Int × Nat) (c : Int) : List Int × Nat := (st.1.set st.2 c, (st.2 + size / 2 + size / 8 + 3) % size)
def putN (size : Nat) (cs : List Int) : List Int × Nat := cs.foldl (put1 size) (List.replicate size 0, 0)
theorem putN_snoc (size : Nat) (cs : List Int) (c : Int) : putN size (cs ++ [c]) = put1 size (putN size cs) c := by simp [putN]
theorem length_putN (size : Nat) (cs : List Int) : (putN size cs).1.length = size := by
  refine snoc_ind (P := fun cs => (putN size cs).1.length = size) (by simp [putN]) (fun cs c ih => ?_) cs
  rw [putN_snoc]; simp [put1, ih]
theorem at_putN (size : Nat) (h : 0 < size) (cs : List Int) : (putN size cs).2 < size := by
  refine snoc_ind (P := fun cs => (putN size cs).2 < size) (by simpa [putN] using h) (fun cs c ih => ?_) cs
  rw [putN_snoc]; exact Nat.mod_lt _ h

/-- Each class as often as it is said. -/
def expand (l : List Int) : Nat → List Int
  | 0 => []
  | n + 1 => expand l n ++ List.replicate (l.getD n 0).toNat (n : Int)
def spread (l : List Int) (size : Nat) : List Int := (putN size (expand l l.length)).1
theorem length_spread (l : List Int) (size : Nat) : (spread l size).length = size := length_putN ..
theorem length_expand (l : List Int) (h : ∀ x ∈ l, 0 ≤ x) : ∀ n, n ≤ l.length → ((expand l n).length : Int) = (l.take n).sum := by
  intro n
  induction n with
  | zero => intro _; simp [expand]
  | succ n ih =>
    intro hn
    have h0 := h _ (getD_mem (show n < l.length by omega))
    rw [List.take_succ_eq_append_getElem (by omega), List.sum_append]
    have e : l.getD n 0 = l[n] := by simp [List.getD_eq_getElem?_getD, show n < l.length by omega]
    have := ih (by omega)
    simp only [expand, List.length_append, List.length_replicate, List.sum_cons, List.sum_nil]
    rw [← e]
    omega

/-- A cell: its class, how many bits come, what they are added to. -/
def cellOf (log : Nat) (c : Int) (x : Nat) : Int × Int × Int := (c, ((log - Nat.log2 x : Nat) : Int), ((x * 2 ^ (log - Nat.log2 x) : Nat) : Int) - ((2 ^ log : Nat) : Int))
/-- The cells of places, one by one; next: of each class its next state. -/
def cells (log : Nat) : List Int → List Int → List (Int × Int × Int)
  | _, [] => []
  | next, c :: cs => cellOf log c (next.getD c.toNat 0).toNat :: cells log (bump next c.toNat 1) cs
def nexts : List Int → List Int → List Int
  | next, [] => next
  | next, c :: cs => nexts (bump next c.toNat 1) cs
theorem cells_snoc (log : Nat) (cs : List Int) (c : Int) : ∀ next, cells log next (cs ++ [c]) = cells log next cs ++ [cellOf log c ((nexts next cs).getD c.toNat 0).toNat] := by
  induction cs with
  | nil => intro next; rfl
  | cons a t ih => intro next; simp only [List.cons_append, cells, nexts, ih]
theorem nexts_snoc (cs : List Int) (c : Int) : ∀ next, nexts next (cs ++ [c]) = bump (nexts next cs) c.toNat 1 := by
  induction cs with
  | nil => intro next; rfl
  | cons a t ih => intro next; simp only [List.cons_append, nexts, ih]
theorem length_nexts (cs : List Int) : ∀ next, (nexts next cs).length = next.length := by
  induction cs with
  | nil => intro next; rfl
  | cons a t ih => intro next; simp only [nexts, ih, length_bump]
theorem length_cells (log : Nat) (cs : List Int) : ∀ next, (cells log next cs).length = cs.length := by
  induction cs with
  | nil => intro next; rfl
  | cons a t ih => intro next; simp only [cells, List.length_cons, ih]
def table (l : List Int) (log : Nat) : List (Int × Int × Int) := cells log l (spread l (2 ^ log))
theorem length_table (l : List Int) (log : Nat) : (table l log).length = 2 ^ log := by unfold table; rw [length_cells, length_spread]

/-- How often a class has come. -/
def cnt (c : Int) (cs : List Int) : Nat := cs.count c
theorem nexts_at (cs : List Int) (h : ∀ c ∈ cs, 0 ≤ c) : ∀ (next : List Int) (c : Nat), c < next.length → (nexts next cs).getD c 0 = next.getD c 0 + (cs.count (c : Int) : Int) := by
  induction cs with
  | nil => intro next c _; simp [nexts]
  | cons a t ih =>
    intro next c hc
    have ha := h a (by simp)
    have := ih (fun x hx => h x (List.mem_cons_of_mem _ hx)) (bump next a.toNat 1) c (by rw [length_bump]; exact hc)
    simp only [nexts, this]
    by_cases hal : a.toNat < next.length
    · rw [getD_bump _ _ _ _ hal, List.count_cons]
      by_cases e : c = a.toNat
      · subst e
        have e2 : (a == ((a.toNat : Nat) : Int)) = true := by rw [beq_iff_eq]; omega
        rw [if_pos rfl, e2]; simp; omega
      · have e2 : (a == (c : Int)) = false := by rw [beq_eq_false_iff_ne]; omega
        rw [if_neg e, e2]; simp
    · have e1 : bump next a.toNat 1 = next := by unfold bump; exact List.set_eq_of_length_le (by omega)
      have e2 : (a == (c : Int)) = false := by rw [beq_eq_false_iff_ne]; omega
      rw [e1, List.count_cons, e2]; simp
end Go.Proofs.Ytbldocbijihpgaa.Sp

-- ---- Uq
/- Frequencies by numbers: what they are good for. -/
namespace Go.Proofs.Ytbldocbijihpgaa.PA
set_option linter.unusedVariables false
set_option linter.unusedSimpArgs false
open Go.RowKit Go.Proofs.YtbldocbijihpgaaW.PrintWords Go.Proofs.YtbldocbijihpgaaW.PrintLast Go.Proofs.YtbldocbijihpgaaW.PrintMore Nl

/-- 65 numbers, none below nought, none above 65535. -/
structure FreqOk (f : List Int) : Prop where
  len : f.length = 65
  each : ∀ x ∈ f, 0 ≤ x ∧ x ≤ 65535
theorem mem_set_or {l : List Int} {i : Nat} {v x : Int} (h : x ∈ l.set i v) : x ∈ l ∨ x = v := List.mem_or_eq_of_mem_set h
theorem freqOk_set {f : List Int} (h : FreqOk f) (i : Nat) (v : Int) (h0 : 0 ≤ v) (h1 : v ≤ 65535) : FreqOk (f.set i v) :=
  ⟨by rw [List.length_set]; exact h.len, fun x hx => by
    rcases mem_set_or hx with hx | rfl
    · exact h.each x hx
    · exact ⟨h0, h1⟩⟩
theorem u16_at {ns : List Int} (h : ∀ x ∈ ns, (Lit.int .u16 x).wf = true) (i : Nat) (hi : i < ns.length) : ∃ v : Nat, ns.getD i 0 = (v : Int) ∧ v ≤ 65535 := by
  have hw := h _ (getD_mem hi)
  simp only [Lit.wf, Bool.and_eq_true, decide_eq_true_eq] at hw
  have h1 : IntKind.u16.min = 0 := rfl
  have h2 : IntKind.u16.max = 65535 := rfl
  exact ⟨(ns.getD i 0).toNat, by omega, by omega⟩
theorem u16_wrap (n : Nat) (h : n ≤ 65535) : IntKind.u16.wrap (n : Int) = (n : Int) := by
  simp [IntKind.wrap, IntKind.bits, IntKind.signed]; omega
theorem freq_l0 (ns : List Int) (hw : ∀ x ∈ ns, (Lit.int .u16 x).wf = true) (hl : ns.length < 1000000) : ∀ (d i : Nat) (f : List Int), i + d = ns.length + 1 → FreqOk f →
    ∃ g, Ev (fun k => wringerlaw8_Freq.l0 k ns f (i : Int)) g ∧ FreqOk g := by
  intro d
  induction d using Nat.strongRecOn with
  | _ d ih =>
    intro i f hi hf
    by_cases hlt : i + 1 < ns.length
    · obtain ⟨v, hv, hvb⟩ := u16_at hw i (by omega)
      obtain ⟨u, hu, hub⟩ := u16_at hw (i + 1) hlt
      have hfl := hf.len
      have e5 : u / 2 ^ (v / 65 % 16) ≤ u := Nat.div_le_self _ _
      obtain ⟨p, hp⟩ : ∃ p, p = u / 2 ^ (v / 65 % 16) := ⟨_, rfl⟩
      rw [← hp] at e5
      obtain ⟨g, hg, hgf⟩ := ih (d - 2) (by omega) (i + 2) (f.set (v % 65) (p : Int)) (by omega) (freqOk_set hf _ _ (by omega) (by omega))
      refine ⟨g, Ev.step (f := fun k => wringerlaw8_Freq.l0 k ns (f.set (v % 65) (p : Int)) ((i + 2 : Nat) : Int)) (fun k => ?_) hg, hgf⟩
      have c1 : ((i + 1 : Nat) : Int) < (ns.length : Int) := by omega
      have c2 : (0 : Int) ≤ (i : Int) := by omega
      have c3 : (i : Int) < (ns.length : Int) := by omega
      have c4 : (0 : Int) ≤ ((i + 1 : Nat) : Int) := by omega
      have c5 : (0 : Int) ≤ ((v / 65 % 16 : Nat) : Int) := Int.natCast_nonneg _
      have c6 : (0 : Int) ≤ ((v % 65 : Nat) : Int) := Int.natCast_nonneg _
      have c7 : ((v % 65 : Nat) : Int) < (f.length : Int) := by omega
      have w1 : wrap64 ((i : Int) + 1) = ((i + 1 : Nat) : Int) := by rw [w64 (by omega) (by omega)]; rfl
      have w2 : wrap64 ((i : Int) + 2) = ((i + 2 : Nat) : Int) := by clear w1; rw [w64 (by omega) (by omega)]; rfl
      have w3 : wrap64 (v : Int) = (v : Int) := by clear w1 w2; exact w64 (by omega) (by omega)
      have w4 : wrap64 (u : Int) = (u : Int) := by clear w1 w2 w3; exact w64 (by omega) (by omega)
      have w5 : IntKind.u16.wrap ((v / 65 : Nat) : Int) = ((v / 65 : Nat) : Int) := by clear w1 w2 w3 w4; exact u16_wrap _ (by omega)
      have e4 := shr_nat u (v / 65 % 16) (by clear w1 w2 w3 w4 w5; omega)
      rw [← hp] at e4
      have e1 : Int.tdiv (v : Int) 65 = ((v / 65 : Nat) : Int) := tdiv_nat v 65
      have e2 : Int.tmod (v : Int) 65 = ((v % 65 : Nat) : Int) := tmod_nat v 65
      have e3 : Int.tmod ((v / 65 : Nat) : Int) 16 = ((v / 65 % 16 : Nat) : Int) := tmod_nat _ 16
      simp only [wringerlaw8_Freq.l0]
      rw [w1, w2, rd_nat, rd_nat, hv, hu, w3, w4, e1, w5, e3, e2, e4]
      rw [if_pos c1, if_pos c2, if_pos c3, if_pos c4, if_pos c5, if_pos c6, if_pos c7, Int.toNat_natCast]
    · refine ⟨f, Ev.step (f := fun _ => some f) (fun k => ?_) (Ev.now _), hf⟩
      simp only [wringerlaw8_Freq.l0]
      rw [w64 (x := (i : Int) + 1) (by omega) (by omega), if_neg (by omega)]
theorem freq_is (ns : List Int) (hw : ∀ x ∈ ns, (Lit.int .u16 x).wf = true) (hl : ns.length < 1000000) : ∃ f, Ev (fun k => wringerlaw8_Freq.f k ns) f ∧ FreqOk f := by
  obtain ⟨g, hg, hgf⟩ := freq_l0 ns hw hl (ns.length + 1) 0 (List.replicate 65 0) (by omega) ⟨by simp, fun x hx => by rw [(List.mem_replicate.1 hx).2]; omega⟩
  refine ⟨g, ?_, hgf⟩
  unfold wringerlaw8_Freq.f
  exact Ev.ite_pos (by decide) hg

/-- One more of one class: then they may be asked. -/
theorem fr_more {f : List Int} (h : FreqOk f) (i : Nat) (hi : i < 65) : Fr (f.set i (f.getD i 0 + 1)) := by
  have hg := h.each _ (getD_mem (show i < f.length by rw [h.len]; exact hi))
  have hx : ∀ x ∈ f.set i (f.getD i 0 + 1), 0 ≤ x ∧ x ≤ 65536 := fun x hx => by
    rcases mem_set_or hx with hx | rfl
    · have := h.each x hx; omega
    · omega
  refine ⟨by rw [List.length_set]; exact h.len, fun x hm => (hx x hm).1, fun x hm => by have := (hx x hm).2; omega, ?_⟩
  have h1 := sum_bump f i 1 (by rw [h.len]; exact hi)
  unfold bump at h1
  rw [h1]
  have := sum_nonneg f fun x hx => (h.each x hx).1
  omega
end Go.Proofs.Ytbldocbijihpgaa.PA

-- ---- Ua
/- Numbers of a sum, and arguments of a byte: plain facts. No program in sight. -/
namespace Go.Proofs.Ytbldocbijihpgaa.PA
set_option linter.unusedVariables false
set_option linter.unusedSimpArgs false
open Go.RowKit Go.Proofs.YtbldocbijihpgaaW.PrintWords Go.Proofs.YtbldocbijihpgaaW.PrintLast Go.Proofs.YtbldocbijihpgaaW.PrintMore Nl Sp

theorem norm_mayN {f : List Int} (h : Fr f) {m : Nat} (h7 : 7 ≤ m) (h12 : m ≤ 12) : mayN (normL f ((2 ^ m : Nat) : Int)) (m : Int) = true := by
  have hp : 128 ≤ 2 ^ m := by have := Nat.pow_le_pow_right (show 0 < 2 by decide) h7; omega
  unfold mayN
  rw [decide_eq_true_eq, Int.toNat_natCast]
  exact ⟨by omega, by omega, h.norm_len (by omega), h.norm_at (by omega), (h.norm (by omega)).2⟩
theorem norm_f {f : List Int} (h : Fr f) {m : Nat} (h7 : 7 ≤ m) (h12 : m ≤ 12) : wringerref7_Norm.f f (m : Int) = some (normL f ((2 ^ m : Nat) : Int), 0) := by
  unfold wringerref7_Norm.f normE
  rw [if_pos (by rw [h.len]; decide), if_pos ⟨(frB_iff f).2 h, by omega, by omega⟩, Int.toNat_natCast]
theorem u8_at {a : Int} (h : (Lit.int .u8 a).wf = true) : ∃ v : Nat, a = (v : Int) ∧ v ≤ 255 := by
  simp only [Lit.wf, Bool.and_eq_true, decide_eq_true_eq] at h
  have h1 : IntKind.u8.min = 0 := rfl
  have h2 : IntKind.u8.max = 255 := rfl
  exact ⟨a.toNat, by omega, by omega⟩
theorem log_of (v : Nat) (hv : v ≤ 255) : wrap64 (7 + Int.tmod (wrap64 (v : Int)) 6) = ((7 + v % 6 : Nat) : Int) := by
  have e : Int.tmod (v : Int) 6 = ((v % 6 : Nat) : Int) := tmod_nat v 6
  rw [w64 (x := (v : Int)) (by omega) (by omega), e, w64 (by omega) (by omega)]; omega

end Go.Proofs.Ytbldocbijihpgaa.PA

-- ---- Um
/- Which numbers may be: what both functions come to. -/
namespace Go.Proofs.Ytbldocbijihpgaa.PA
set_option linter.unusedVariables false
set_option linter.unusedSimpArgs false
open Go.RowKit Go.Proofs.YtbldocbijihpgaaW.PrintWords Go.Proofs.YtbldocbijihpgaaW.PrintLast Go.Proofs.YtbldocbijihpgaaW.PrintMore Nl Sp

theorem mayLog_is (a : Int) : norm_mayLog.f a = some (decide (7 ≤ a ∧ a ≤ 12)) := by
  unfold norm_mayLog.f
  by_cases h : a ≥ 7
  · rw [if_pos h]; congr 1; simp; omega
  · rw [if_neg h]; congr 1; simp; omega
theorem isLog_is (a : Int) : wringerref7_isLog.f a = some (decide (7 ≤ a ∧ a ≤ 12)) := by
  unfold wringerref7_isLog.f
  by_cases h : a ≥ 7
  · rw [if_pos h]; congr 1; simp; omega
  · rw [if_neg h]; congr 1; simp; omega

theorem drop_getD (l : List Int) (i : Nat) (h : i < l.length) : l.drop i = l.getD i 0 :: l.drop (i + 1) := by
  rw [List.drop_eq_getElem_cons h]; simp [List.getD_eq_getElem?_getD, h]

theorem may_l0 (P : Nat) (hP : P ≤ 4096) (l : List Int) (hl : l.length ≤ 100) : ∀ (d i : Nat) (t : Int), i + d = l.length → 0 ≤ t → t ≤ 4096 * (i : Int) →
    Ev (fun k => norm_May.l0 k (P : Int) t l (l.length : Int) (i : Int)) (decide ((∀ x ∈ l.drop i, 0 ≤ x ∧ x ≤ (P : Int)) ∧ t + (l.drop i).sum = (P : Int))) := by
  intro d
  induction d with
  | zero =>
    intro i t hi h0 h1
    refine Ev.step (f := fun _ => some (t == (P : Int))) (fun k => by simp only [norm_May.l0]; rw [if_neg (by omega)]) (Ev.ofSome ?_)
    rw [List.drop_eq_nil_of_le (by omega), Bool.eq_iff_iff]; simp
  | succ d ih =>
    intro i t hi h0 h1
    have hil : i < l.length := by omega
    rw [drop_getD l i hil]
    generalize hy : l.getD i 0 = y
    by_cases hy0 : y < 0
    · refine Ev.step (f := fun _ => some false) (fun k => by simp only [norm_May.l0]; rw [if_pos (by omega), if_pos (by omega), if_pos (by omega), rd_nat, hy, if_pos hy0]) (Ev.ofSome ?_)
      symm; rw [decide_eq_false_iff_not]; intro h; have := h.1 y (by simp); omega
    · by_cases hyP : y > (P : Int)
      · refine Ev.step (f := fun _ => some false) (fun k => by simp only [norm_May.l0]; rw [if_pos (by omega), if_pos (by omega), if_pos (by omega), rd_nat, hy, if_neg hy0, if_pos hyP]) (Ev.ofSome ?_)
        symm; rw [decide_eq_false_iff_not]; intro h; have := h.1 y (by simp); omega
      · refine evq ?_ (Ev.step (f := fun k => norm_May.l0 k (P : Int) (t + y) l (l.length : Int) ((i + 1 : Nat) : Int)) (fun k => by simp only [norm_May.l0]; rw [if_pos (by omega), if_pos (by omega), if_pos (by omega), rd_nat, hy, if_neg hy0, if_neg hyP, w64 (by omega) (by omega), w64 (by omega) (by omega)]; rfl) (ih (i + 1) (t + y) (by omega) (by omega) (by omega)))
        congr 1
        simp only [List.mem_cons, forall_eq_or_imp, List.sum_cons, eq_iff_iff]
        constructor
        · rintro ⟨a, b⟩; exact ⟨⟨⟨by omega, by omega⟩, a⟩, by omega⟩
        · rintro ⟨⟨_, a⟩, b⟩; exact ⟨a, by omega⟩

theorem may_is (l : List Int) (a : Int) : Ev (fun k => norm_May.f k l a) (mayN l a) := by
  unfold norm_May.f
  refine Ev.bind0 (mayLog_is a) ?_
  by_cases hlog : 7 ≤ a ∧ a ≤ 12
  · obtain ⟨m, rfl⟩ := Int.eq_ofNat_of_zero_le (show 0 ≤ a by omega)
    have hp : 2 ^ m ≤ 4096 := by have := pow2_le m 12 (by omega); omega
    refine Ev.ite_pos (by simpa using hlog) ?_
    by_cases h65 : l.length = 65
    · refine evq ?_ (Ev.step (f := fun k => norm_May.l0 k ((2 ^ m : Nat) : Int) 0 l (l.length : Int) ((0 : Nat) : Int)) (fun k => by simp only [norm_May.j0]; rw [if_neg (by simp; omega), if_pos (by omega), shl_1 m (by omega)]; rfl) (may_l0 (2 ^ m) hp l (by omega) l.length 0 0 (by omega) (by omega) (by omega)))
      unfold mayN
      rw [Int.toNat_natCast, List.drop_zero]
      congr 1
      rw [eq_iff_iff]
      constructor
      · rintro ⟨x, y⟩; exact ⟨by omega, by omega, h65, x, by omega⟩
      · rintro ⟨_, _, _, x, y⟩; exact ⟨x, by omega⟩
    · refine Ev.step (f := fun _ => some false) (fun k => by simp only [norm_May.j0]; rw [if_pos (by simp; omega)]) (Ev.ofSome ?_)
      symm; unfold mayN; rw [decide_eq_false_iff_not]; rintro ⟨_, _, h, _⟩; exact h65 h
  · refine Ev.ite_neg (by simpa using hlog) ?_
    refine Ev.step (f := fun _ => some false) (fun k => by simp only [norm_May.j0]; rfl) (Ev.ofSome ?_)
    symm; unfold mayN; rw [decide_eq_false_iff_not]; rintro ⟨h1, h2, _⟩; exact hlog ⟨h1, h2⟩

theorem rmay_l0 (m : Nat) (hm : m ≤ 12) (l : List Int) (hl : l.length ≤ 100) : ∀ (d i : Nat) (t : Int), i + d = l.length → 0 ≤ t → t ≤ 4096 * (i : Int) →
    Ev (fun k => wringerref7_MayNorm.l0 k l (m : Int) t (i : Int)) (decide ((∀ x ∈ l.drop i, 0 ≤ x ∧ x ≤ ((2 ^ m : Nat) : Int)) ∧ t + (l.drop i).sum = ((2 ^ m : Nat) : Int))) := by
  have hP : 2 ^ m ≤ 4096 := by have := pow2_le m 12 hm; omega
  have hs := shl_1 m (by omega)
  generalize 2 ^ m = P at hP hs
  intro d
  induction d with
  | zero =>
    intro i t hi h0 h1
    refine Ev.step (f := fun _ => some (t == (P : Int))) (fun k => by simp only [wringerref7_MayNorm.l0]; rw [if_neg (by omega), if_pos (by omega), hs]) (Ev.ofSome ?_)
    rw [List.drop_eq_nil_of_le (by omega), Bool.eq_iff_iff]; simp
  | succ d ih =>
    intro i t hi h0 h1
    have hil : i < l.length := by omega
    rw [drop_getD l i hil]
    generalize hy : l.getD i 0 = y
    by_cases hy0 : y < 0
    · refine Ev.step (f := fun _ => some false) (fun k => by simp only [wringerref7_MayNorm.l0]; rw [if_pos (by omega), if_pos (by omega), rd_nat, hy, if_pos hy0]) (Ev.ofSome ?_)
      symm; rw [decide_eq_false_iff_not]; intro h; have := h.1 y (by simp); omega
    · by_cases hyP : y > (P : Int)
      · refine Ev.step (f := fun _ => some false) (fun k => by simp only [wringerref7_MayNorm.l0]; rw [if_pos (by omega), if_pos (by omega), rd_nat, hy, if_neg hy0, if_pos (by omega), hs, if_pos hyP]) (Ev.ofSome ?_)
        symm; rw [decide_eq_false_iff_not]; intro h; have := h.1 y (by simp); omega
      · refine evq ?_ (Ev.step (f := fun k => wringerref7_MayNorm.l0 k l (m : Int) (t + y) ((i + 1 : Nat) : Int)) (fun k => by simp only [wringerref7_MayNorm.l0]; rw [if_pos (by omega), if_pos (by omega), rd_nat, hy, if_neg hy0, if_pos (by omega), hs, if_neg hyP, w64 (by omega) (by omega), w64 (by omega) (by omega)]; rfl) (ih (i + 1) (t + y) (by omega) (by omega) (by omega)))
        congr 1
        simp only [List.mem_cons, forall_eq_or_imp, List.sum_cons, eq_iff_iff]
        constructor
        · rintro ⟨a, b⟩; exact ⟨⟨⟨by omega, by omega⟩, a⟩, by omega⟩
        · rintro ⟨⟨_, a⟩, b⟩; exact ⟨a, by omega⟩

theorem rmay_is (l : List Int) (a : Int) : Ev (fun k => wringerref7_MayNorm.f k l a) (mayN l a) := by
  unfold wringerref7_MayNorm.f
  refine Ev.bind0 (isLog_is a) ?_
  by_cases hlog : 7 ≤ a ∧ a ≤ 12
  · obtain ⟨m, rfl⟩ := Int.eq_ofNat_of_zero_le (show 0 ≤ a by omega)
    refine Ev.ite_pos (by simpa using hlog) ?_
    by_cases h65 : l.length = 65
    · refine evq ?_ (Ev.step (f := fun k => wringerref7_MayNorm.l0 k l (m : Int) 0 ((0 : Nat) : Int)) (fun k => by simp only [wringerref7_MayNorm.j0]; rw [if_neg (by simp; omega)]; rfl) (rmay_l0 m (by omega) l (by omega) l.length 0 0 (by omega) (by omega) (by omega)))
      unfold mayN
      rw [Int.toNat_natCast, List.drop_zero]
      congr 1
      rw [eq_iff_iff]
      constructor
      · rintro ⟨x, y⟩; exact ⟨by omega, by omega, h65, x, by omega⟩
      · rintro ⟨_, _, _, x, y⟩; exact ⟨x, by omega⟩
    · refine Ev.step (f := fun _ => some false) (fun k => by simp only [wringerref7_MayNorm.j0]; rw [if_pos (by simp; omega)]) (Ev.ofSome ?_)
      symm; unfold mayN; rw [decide_eq_false_iff_not]; rintro ⟨_, _, h, _⟩; exact h65 h
  · refine Ev.ite_neg (by simpa using hlog) ?_
    refine Ev.step (f := fun _ => some false) (fun k => by simp only [wringerref7_MayNorm.j0]; rfl) (Ev.ofSome ?_)
    symm; unfold mayN; rw [decide_eq_false_iff_not]; rintro ⟨h1, h2, _⟩; exact hlog ⟨h1, h2⟩

/-- What those that may be are. -/
structure May (l : List Int) (m : Nat) : Prop where
  lo : 7 ≤ m
  hi : m ≤ 12
  len : l.length = 65
  each : ∀ x ∈ l, 0 ≤ x ∧ x ≤ ((2 ^ m : Nat) : Int)
  sum : l.sum = ((2 ^ m : Nat) : Int)
theorem may_iff (l : List Int) (a : Int) : mayN l a = true ↔ ∃ m : Nat, a = (m : Int) ∧ May l m := by
  unfold mayN
  rw [decide_eq_true_eq]
  constructor
  · rintro ⟨h1, h2, h3, h4, h5⟩
    exact ⟨a.toNat, by omega, by omega, by omega, h3, h4, h5⟩
  · rintro ⟨m, rfl, h⟩
    exact ⟨by have := h.lo; omega, by have := h.hi; omega, h.len, by rw [Int.toNat_natCast]; exact h.each, by rw [Int.toNat_natCast]; exact h.sum⟩
end Go.Proofs.Ytbldocbijihpgaa.PA

-- ---- Uo
/- Layer 12's plain functions: what they come to. No program in sight. -/
namespace Go.Proofs.Ytbldocbijihpgaa.PA
set_option linter.unusedVariables false
set_option linter.unusedSimpArgs false
open Go.RowKit Go.Proofs.YtbldocbijihpgaaW.PrintWords Go.Proofs.YtbldocbijihpgaaW.PrintLast Go.Proofs.YtbldocbijihpgaaW.PrintMore Nl Sp

theorem awake12 : Ev (fun k => wringerlaw12_awake.f k) true := Ev.of wringerlaw12_awake.mono (k := 400) (by kernel_rfl)
theorem of_ok {f : List Int} (h : Fr f) {m : Nat} (h7 : 7 ≤ m) (h12 : m ≤ 12) : norm_Of.f f (m : Int) = some (normL f ((2 ^ m : Nat) : Int), 0) := by
  unfold norm_Of.f normO
  rw [if_pos (by rw [h.len]; decide), if_pos ⟨(frB_iff f).2 h, by omega, by omega⟩, Int.toNat_natCast]
theorem of_bad {f : List Int} {a : Int} (hl : f.length < 1000000) (h : ¬ (frB f = true ∧ 7 ≤ a ∧ a ≤ 12)) : norm_Of.f f a = some ([], 1) := by
  unfold norm_Of.f normO
  rw [if_pos (by omega), if_neg h]
theorem rnorm_bad' {f : List Int} {a : Int} (hl : f.length < 1000000) (h : ¬ (frB f = true ∧ 7 ≤ a ∧ a ≤ 12)) : wringerref7_Norm.f f a = some ([], 1) := by
  unfold wringerref7_Norm.f normE
  rw [if_pos (by omega), if_neg h]
end Go.Proofs.Ytbldocbijihpgaa.PA
