/- Part HuffKnown2 of what the layer's laws stand on: Hdc, Hec, Kd, Ub, PAx2, PAx24, Ul, Ce, Jh, PAx8, Jk, PAx15, PAx22, Jb, Rw, Bx, Bf, Bg, Jc, Mt, Jd, Br, Je. Written by a program (merge.py) out of this session's own texts and of what the kit's print wrote over stand-ins (sp.py). Conditions: those that each theorem names. -/
import Derived.Test.YtnakjencodicmaaQHuffKnown1
import Derived.Test.YtnakjencodicmaaWWords
import Derived.Test.YtnakjencodicmaaWMore
import Derived.Test.YtnakjencodicmaaWLast
import Derived.OwnWalk
import Derived.Test.YtnakjencodicmaaProg
import Derived.Maps.OwnSet
import Derived.DeepKeys4
import Derived.Deep.LoopGhost
-- ---- Hdc
/- The library's heap: down. -/
namespace Go.Proofs.Ytnakjencodicmaa.CanonH
set_option maxRecDepth 100000
set_option linter.unusedSimpArgs false
set_option linter.unusedVariables false
open Go.RowKit Mix _root_.Go.Proofs.Ytnakjencodicmaa.Own Ol Hp
attribute [local go_sem] Own.max_int Own.min_int
attribute [local go_sem] method_len method_less method_swap method_push method_pop

theorem par_two {i k : Nat} (h0 : 0 < i) (h : par i = k) : i = 2 * k + 1 ∨ i = 2 * k + 2 := by unfold par at h; omega
theorem par_l (k : Nat) : par (2 * k + 1) = k := by unfold par; omega
theorem par_r (k : Nat) : par (2 * k + 2) = k := by unfold par; omega

/-- What holds on the way down. -/
structure DownS (w wr : World) (p g N cap n : Nat) (l l1 : List (Int × Int)) (k : Nat) : Prop where
  hp : IsHp wr p (.slice (some ⟨g, 0, none⟩) N cap) l1
  len : l1.length = N
  inv : DownInv ltL l1 n k
  perm : l1.Perm l
  far : ∀ i, n ≤ i → at_ l1 i = at_ l i
  chg : Chg (fun b => b = g) w wr

theorem DownS.later {w wr w' : World} {p g N cap n : Nat} {l l1 : List (Int × Int)} {k : Nat} (h : DownS w wr p g N cap n l l1 k) (hb : Below wr.heap.size wr w') : DownS w w' p g N cap n l l1 k :=
  ⟨h.hp.later hb, h.len, h.inv, h.perm, h.far, h.chg.trans (Chg.of_below (S := fun _ => False) hb) (fun _ _ h => h.elim)⟩
theorem DownS.row {w wr : World} {p g N cap n : Nat} {l l1 : List (Int × Int)} {k : Nat} (h : DownS w wr p g N cap n l l1 k) : OwnK wr 106 2 (.slice (some ⟨g, 0, none⟩) N cap) N (fl l1) := by
  have := h.hp.row; rw [h.len] at this; exact this
theorem DownS.swap {w wr w' : World} {p g N cap n : Nat} {l l1 : List (Int × Int)} {k j : Nat} (h : DownS w wr p g N cap n l l1 k) (hn : n ≤ N) (hj0 : 0 < j) (hj : j < n) (hp : par j = k) (hlt : ltL (at_ l1 j) (at_ l1 k) = true) (hc : ∀ i, 0 < i → i < n → par i = k → ltL (at_ l1 i) (at_ l1 j) = false)
    (ho : OwnK w' 106 2 (.slice (some ⟨g, 0, none⟩) N cap) N (fl (swapL l1 k j))) (hch : Chg (fun b => b = g) wr w') : DownS w w' p g N cap n l (swapL l1 k j) j := by
  have hpl := par_lt hj0
  rw [hp] at hpl
  refine ⟨⟨hch.keep h.hp.blk (fun e => h.hp.ne (by simp [Value.ownBlock, e])), by rw [length_swapL, h.len]; exact ho⟩, by rw [length_swapL]; exact h.len, down_step oL h.inv hj0 hj (by rw [h.len]; exact hn) hp hlt hc, (perm_swap l1 k j (by rw [h.len]; omega) (by rw [h.len]; omega)).trans h.perm, fun i hi => ?_, h.chg.trans hch (fun _ _ h => h)⟩
  rw [at_swap l1 k j i (by rw [h.len]; omega) (by rw [h.len]; omega), if_neg (by omega), if_neg (by omega)]
  exact h.far i hi

set_option maxHeartbeats 16000000 in
theorem down_calls (p g N cap n : Nat) (l : List (Int × Int)) (i0 : Nat) (w : World) (h : IsHp w p (.slice (some ⟨g, 0, none⟩) N cap) l) (hN : l.length = N) (hNb : N ≤ 1000000) (hn : n ≤ N) (hi0 : i0 ≤ N) (hu : DownInv ltL l n i0) :
    Calls Try.prog 59 #[.iface 101 (.pointer (some ⟨p, 0, none⟩)), .int .i64 (i0 : Int), .int .i64 (n : Int)] w fun e w' => ∃ b l', e = .returned (.bool b) ∧ IsHp w' p (.slice (some ⟨g, 0, none⟩) N cap) l' ∧ l'.length = N ∧ Heap ltL l' n ∧ l'.Perm l ∧ (∀ i, n ≤ i → at_ l' i = at_ l i) ∧ Chg (fun b => b = g) w w' := by
  have HS0 : Kept (DownS w w p g N cap n l l i0) := kept ⟨h, hN, hu, List.Perm.refl _, fun _ _ => rfl, Chg.refl _ _⟩
  clear h hu hN
  go_enter Try.func59, Try.ntmps59
  go_wp2_with fail
  go_loopw [7] (fun s7 wr => ∃ (k : Nat) (l1 : List (Int × Int)), s7 = .int .i64 (k : Int) ∧ k ≤ N ∧ DownS w wr p g N cap n l l1 k) (fun s7 _ => N - (intOf s7).toNat)
  case atStart => exact ⟨i0, l, rfl, hi0, HS0.out⟩
  case round =>
    obtain ⟨k, l1, rfl, hk, hs⟩ := hrel
    have c0 : wr.cell? ⟨p, 0, none⟩ = some (.slice (some ⟨g, 0, none⟩) N cap) := hs.hp.blk.cell rfl
    have HS := kept hs
    have hless := fun i j (wx : World) (hx : DownS w wx p g N cap n l l1 k) (hi : i < N) (hj : j < N) => less_calls g N cap l1 i j wx hx.row hi hj _ rfl
    have HLess := kept hless
    clear hs hless HS0
    by_cases hA : n ≤ 2 * k + 1
    · have hd : decide ((2 * (k : Int) + 1) < (n : Int)) = false := by simp; omega
      have hA2 : (n : Int) ≤ 2 * (k : Int) + 1 := by omega
      have HF : Kept (Heap ltL l1 n) := kept (down_done HS.out.inv fun i h0 hi hp => by rcases par_two h0 hp with e | e <;> omega)
      go_wp2_with fail
      go_ret
      exact ⟨_, l1, rfl, HS.out.hp, HS.out.len, HF.out, HS.out.perm, HS.out.far, HS.out.chg⟩
    · have hB : 2 * k + 1 < n := by omega
      have hB2 : ¬ (n : Int) ≤ 2 * (k : Int) + 1 := by omega
      have hB3 : (2 * (k : Int) + 1) < (n : Int) := by omega
      by_cases hC : 2 * k + 2 < n
      · have hC2 : (2 * (k : Int) + 1 + 1) < (n : Int) := by omega
        cases hR : ltL (at_ l1 (2 * k + 2)) (at_ l1 (2 * k + 1)) with
        | true =>
          have HL1 : Kept (Calls Try.prog 78 #[.slice (some ⟨g, 0, none⟩) N cap, .int .i64 (2 * (k : Int) + 1 + 1), .int .i64 (2 * (k : Int) + 1)] wr fun e w' => e = .returned (.bool true) ∧ Below wr.heap.size wr w') := kept (by have h := HLess.out (2 * k + 2) (2 * k + 1) wr HS.out (by omega) (by omega); rw [hR, show ((2 * k + 2 : Nat) : Int) = 2 * (k : Int) + 1 + 1 by omega, show ((2 * k + 1 : Nat) : Int) = 2 * (k : Int) + 1 by omega] at h; exact h)
          have HKids : Kept (∀ i, 0 < i → i < n → par i = k → ltL (at_ l1 i) (at_ l1 (2 * k + 2)) = false) := kept (fun i h0 hi hp => by
            rcases par_two h0 hp with e | e <;> subst e; exact oL.asym hR; exact oL.irr _)
          have hL2 := fun wx hx => HLess.out (2 * k + 2) k wx hx (by omega) (by omega)
          rw [show ((2 * k + 2 : Nat) : Int) = 2 * (k : Int) + 1 + 1 by omega] at hL2
          have HL2 := kept hL2
          clear hL2
          cases hb : ltL (at_ l1 (2 * k + 2)) (at_ l1 k) with
          | false =>
            rw [hb] at HL2
            have HB := kept hb
            clear hb HLess
            go_wp2_with fail
            refine HL1.out.mono ?_
            rintro e w1 ⟨rfl, hb1⟩
            have HS1 := kept (HS.out.later hb1)
            have c1 : w1.cell? ⟨p, 0, none⟩ = some (.slice (some ⟨g, 0, none⟩) N cap) := HS1.out.hp.blk.cell rfl
            clear hb1
            go_wp2_with fail
            refine (HL2.out _ HS1.out).mono ?_
            rintro e w2 ⟨rfl, hb2⟩
            have HS2 := kept (HS1.out.later hb2)
            have c2 : w2.cell? ⟨p, 0, none⟩ = some (.slice (some ⟨g, 0, none⟩) N cap) := HS2.out.hp.blk.cell rfl
            clear hb2
            have HF : Kept (Heap ltL l1 n) := kept (down_done HS2.out.inv fun i h0 hi hp => oL.le HB.out (HKids.out i h0 hi hp))
            go_wp2_with fail
            go_ret
            exact ⟨_, l1, rfl, HS2.out.hp, HS2.out.len, HF.out, HS2.out.perm, HS2.out.far, HS2.out.chg⟩
          | true =>
            rw [hb] at HL2
            have HB := kept hb
            clear hb HLess
            go_wp2_with fail
            refine HL1.out.mono ?_
            rintro e w1 ⟨rfl, hb1⟩
            have HS1 := kept (HS.out.later hb1)
            have c1 : w1.cell? ⟨p, 0, none⟩ = some (.slice (some ⟨g, 0, none⟩) N cap) := HS1.out.hp.blk.cell rfl
            clear hb1
            go_wp2_with fail
            refine (HL2.out _ HS1.out).mono ?_
            rintro e w2 ⟨rfl, hb2⟩
            have HS2 := kept (HS1.out.later hb2)
            have c2 : w2.cell? ⟨p, 0, none⟩ = some (.slice (some ⟨g, 0, none⟩) N cap) := HS2.out.hp.blk.cell rfl
            clear hb2
            have HSw := kept (swap_calls g N cap l1 k (2 * k + 2) w2 HS2.out.row (by omega) (by omega))
            rw [show ((2 * k + 2 : Nat) : Int) = 2 * (k : Int) + 1 + 1 by omega] at HSw
            go_wp2_with fail
            refine HSw.out.mono ?_
            rintro e w3 ⟨rfl, ho3, hc3⟩
            have HS3 := kept (HS2.out.swap hn (by omega) (by omega) (par_r k) HB.out HKids.out ho3 hc3)
            clear ho3 hc3
            go_wp2_with fail
            go_roundw
            case rel => exact ⟨2 * k + 2, _, by congr 1, by omega, HS3.out⟩
            case measure => simp [intOf]; omega
        | false =>
          have HL1 : Kept (Calls Try.prog 78 #[.slice (some ⟨g, 0, none⟩) N cap, .int .i64 (2 * (k : Int) + 1 + 1), .int .i64 (2 * (k : Int) + 1)] wr fun e w' => e = .returned (.bool false) ∧ Below wr.heap.size wr w') := kept (by have h := HLess.out (2 * k + 2) (2 * k + 1) wr HS.out (by omega) (by omega); rw [hR, show ((2 * k + 2 : Nat) : Int) = 2 * (k : Int) + 1 + 1 by omega, show ((2 * k + 1 : Nat) : Int) = 2 * (k : Int) + 1 by omega] at h; exact h)
          have HKids : Kept (∀ i, 0 < i → i < n → par i = k → ltL (at_ l1 i) (at_ l1 (2 * k + 1)) = false) := kept (fun i h0 hi hp => by
            rcases par_two h0 hp with e | e <;> subst e; exact oL.irr _; exact hR)
          have hL2 := fun wx hx => HLess.out (2 * k + 1) k wx hx (by omega) (by omega)
          rw [show ((2 * k + 1 : Nat) : Int) = 2 * (k : Int) + 1 by omega] at hL2
          have HL2 := kept hL2
          clear hL2
          cases hb : ltL (at_ l1 (2 * k + 1)) (at_ l1 k) with
          | false =>
            rw [hb] at HL2
            have HB := kept hb
            clear hb HLess
            go_wp2_with fail
            refine HL1.out.mono ?_
            rintro e w1 ⟨rfl, hb1⟩
            have HS1 := kept (HS.out.later hb1)
            have c1 : w1.cell? ⟨p, 0, none⟩ = some (.slice (some ⟨g, 0, none⟩) N cap) := HS1.out.hp.blk.cell rfl
            clear hb1
            go_wp2_with fail
            refine (HL2.out _ HS1.out).mono ?_
            rintro e w2 ⟨rfl, hb2⟩
            have HS2 := kept (HS1.out.later hb2)
            have c2 : w2.cell? ⟨p, 0, none⟩ = some (.slice (some ⟨g, 0, none⟩) N cap) := HS2.out.hp.blk.cell rfl
            clear hb2
            have HF : Kept (Heap ltL l1 n) := kept (down_done HS2.out.inv fun i h0 hi hp => oL.le HB.out (HKids.out i h0 hi hp))
            go_wp2_with fail
            go_ret
            exact ⟨_, l1, rfl, HS2.out.hp, HS2.out.len, HF.out, HS2.out.perm, HS2.out.far, HS2.out.chg⟩
          | true =>
            rw [hb] at HL2
            have HB := kept hb
            clear hb HLess
            go_wp2_with fail
            refine HL1.out.mono ?_
            rintro e w1 ⟨rfl, hb1⟩
            have HS1 := kept (HS.out.later hb1)
            have c1 : w1.cell? ⟨p, 0, none⟩ = some (.slice (some ⟨g, 0, none⟩) N cap) := HS1.out.hp.blk.cell rfl
            clear hb1
            go_wp2_with fail
            refine (HL2.out _ HS1.out).mono ?_
            rintro e w2 ⟨rfl, hb2⟩
            have HS2 := kept (HS1.out.later hb2)
            have c2 : w2.cell? ⟨p, 0, none⟩ = some (.slice (some ⟨g, 0, none⟩) N cap) := HS2.out.hp.blk.cell rfl
            clear hb2
            have HSw := kept (swap_calls g N cap l1 k (2 * k + 1) w2 HS2.out.row (by omega) (by omega))
            rw [show ((2 * k + 1 : Nat) : Int) = 2 * (k : Int) + 1 by omega] at HSw
            go_wp2_with fail
            refine HSw.out.mono ?_
            rintro e w3 ⟨rfl, ho3, hc3⟩
            have HS3 := kept (HS2.out.swap hn (by omega) (by omega) (par_l k) HB.out HKids.out ho3 hc3)
            clear ho3 hc3
            go_wp2_with fail
            go_roundw
            case rel => exact ⟨2 * k + 1, _, by congr 1, by omega, HS3.out⟩
            case measure => simp [intOf]; omega
      · have hC2 : ¬ (2 * (k : Int) + 1 + 1) < (n : Int) := by omega
        have HKids : Kept (∀ i, 0 < i → i < n → par i = k → ltL (at_ l1 i) (at_ l1 (2 * k + 1)) = false) := kept (fun i h0 hi hp => by
          rcases par_two h0 hp with e | e; subst e; exact oL.irr _; omega)
        have hL2 := fun wx hx => HLess.out (2 * k + 1) k wx hx (by omega) (by omega)
        rw [show ((2 * k + 1 : Nat) : Int) = 2 * (k : Int) + 1 by omega] at hL2
        have HL2 := kept hL2
        clear hL2
        cases hb : ltL (at_ l1 (2 * k + 1)) (at_ l1 k) with
        | false =>
          rw [hb] at HL2
          have HB := kept hb
          clear hb HLess
          go_wp2_with fail
          refine (HL2.out _ HS.out).mono ?_
          rintro e w2 ⟨rfl, hb2⟩
          have HS2 := kept (HS.out.later hb2)
          have c2 : w2.cell? ⟨p, 0, none⟩ = some (.slice (some ⟨g, 0, none⟩) N cap) := HS2.out.hp.blk.cell rfl
          clear hb2
          have HF : Kept (Heap ltL l1 n) := kept (down_done HS2.out.inv fun i h0 hi hp => oL.le HB.out (HKids.out i h0 hi hp))
          go_wp2_with fail
          go_ret
          exact ⟨_, l1, rfl, HS2.out.hp, HS2.out.len, HF.out, HS2.out.perm, HS2.out.far, HS2.out.chg⟩
        | true =>
          rw [hb] at HL2
          have HB := kept hb
          clear hb HLess
          go_wp2_with fail
          refine (HL2.out _ HS.out).mono ?_
          rintro e w2 ⟨rfl, hb2⟩
          have HS2 := kept (HS.out.later hb2)
          have c2 : w2.cell? ⟨p, 0, none⟩ = some (.slice (some ⟨g, 0, none⟩) N cap) := HS2.out.hp.blk.cell rfl
          clear hb2
          have HSw := kept (swap_calls g N cap l1 k (2 * k + 1) w2 HS2.out.row (by omega) (by omega))
          rw [show ((2 * k + 1 : Nat) : Int) = 2 * (k : Int) + 1 by omega] at HSw
          go_wp2_with fail
          refine HSw.out.mono ?_
          rintro e w3 ⟨rfl, ho3, hc3⟩
          have HS3 := kept (HS2.out.swap hn (by omega) (by omega) (par_l k) HB.out HKids.out ho3 hc3)
          clear ho3 hc3
          go_wp2_with fail
          go_roundw
          case rel => exact ⟨2 * k + 1, _, by congr 1, by omega, HS3.out⟩
          case measure => simp [intOf]; omega
end Go.Proofs.Ytnakjencodicmaa.CanonH

-- ---- Hec
/- The library's heap: Push and Pop. -/
namespace Go.Proofs.Ytnakjencodicmaa.CanonH
set_option maxRecDepth 100000
set_option linter.unusedSimpArgs false
set_option linter.unusedVariables false
open Go.RowKit Mix _root_.Go.Proofs.Ytnakjencodicmaa.Own Ol Hp
attribute [local go_sem] Own.max_int Own.min_int
attribute [local go_sem] method_len method_less method_swap method_push method_pop

theorem hlen_calls (a : Option Addr) (n cap : Nat) (w : World) : Calls Try.prog 45 #[.slice a n cap] w fun e w' => e = .returned (.int .i64 (n : Int)) ∧ Below w.heap.size w w' := by
  go_enter Try.func45, Try.ntmps45
  go_wp2_with fail
  go_ret
  exact ⟨rfl, Below.refl _ _⟩

set_option maxHeartbeats 4000000 in
theorem hpush_calls (p : Nat) (v : Value) (l : List (Int × Int)) (a1 a2 : Int) (w : World) (h : IsHp w p v l) (hl : l.length < 1000000) (hh : Heap ltL l l.length) :
    Calls Try.prog 44 #[.iface 101 (.pointer (some ⟨p, 0, none⟩)), .iface 106 (.agg #[.int .i64 a1, .int .i64 a2])] w fun e w' => e = .returned (.tuple #[]) ∧
      ∃ v' l', IsHp w' p v' l' ∧ Heap ltL l' l'.length ∧ l'.Perm (l ++ [(a1, a2)]) ∧ Chg (fun b => b = p ∨ some b = v.ownBlock) w w' ∧ ∀ g, v'.ownBlock = some g → some g = v.ownBlock ∨ w.heap.size ≤ g := by
  have H := kept h
  have HHe := kept hh
  clear h hh
  go_enter Try.func44, Try.ntmps44
  go_wp2_with fail
  refine (push_calls p v l a1 a2 _ H.out (by omega)).mono ?_
  rintro e w1 ⟨rfl, v1, h1, hc1, hf1⟩
  have hl1 : (l ++ [(a1, a2)]).length = l.length + 1 := by simp
  obtain ⟨g, cap, rfl, _, _, hgp, hgl⟩ := h1.row0 (by omega)
  rw [hl1] at h1 hf1
  have c1 : w1.cell? ⟨p, 0, none⟩ = some (.slice (some ⟨g, 0, none⟩) (l.length + 1) cap) := by
    have := h1.blk.cell (i := 0) rfl
    exact this
  have hup := fun w1b (hb : Below w1.heap.size w1 w1b) => up_calls p g (l.length + 1) cap (l ++ [(a1, a2)]) l.length w1b (h1.later hb) hl1 (by omega) (by omega) (up_start HHe.out)
  have HUp := kept hup
  have HC1 := kept hc1
  have HF1 := kept (hf1 g rfl)

  clear hup hc1 hf1 h1
  go_wp2_with (first | (go_at_call 45; refine (hlen_calls _ _ _ _).mono ?_; rintro e w1b ⟨rfl, hbl⟩; have HC1b := kept (HC1.out.trans (Chg.of_below (S := fun _ => False) hbl) (fun _ _ h => h.elim)); have HUpb := HUp.out w1b hbl; clear hbl) | (go_at_call 58; refine HUpb.mono ?_; rintro e w2 ⟨rfl, l', h2, hl2, hh2, hp2, hc2⟩; have H2 := kept h2; have HL2 := kept hl2; have HH2 := kept hh2; have HP2 := kept hp2; have HC2 := kept hc2; clear h2 hl2 hh2 hp2 hc2))
  go_end0
  refine ⟨rfl, _, l', H2.out, by rw [HL2.out]; exact HH2.out, HP2.out, HC1b.out.trans HC2.out (fun b hb h => ?_), ?_⟩
  · subst h
    rcases HF1.out with h | h
    · exact .inr h
    · omega
  · intro g' hg'
    simp only [Value.ownBlock, Option.map_some, Option.some.injEq] at hg'
    rw [← hg']; exact HF1.out

set_option maxHeartbeats 4000000 in
theorem hpop_calls (p g n cap : Nat) (l : List (Int × Int)) (w : World) (h : IsHp w p (.slice (some ⟨g, 0, none⟩) (n + 1) cap) l) (hn : l.length = n + 1) (hl : n < 1000000) (hh : Heap ltL l (n + 1)) :
    Calls Try.prog 46 #[.iface 101 (.pointer (some ⟨p, 0, none⟩))] w fun e w' => e = .returned (.iface 106 (.agg #[.int .i64 (at_ l 0).1, .int .i64 (at_ l 0).2])) ∧
      ∃ l', IsHp w' p (.slice (some ⟨g, 0, none⟩) n cap) l' ∧ l'.length = n ∧ Heap ltL l' n ∧ l.Perm (at_ l 0 :: l') ∧ (∀ y ∈ l', ltL y (at_ l 0) = false) ∧ Chg (fun b => b = p ∨ b = g) w w' := by
  have hgp : g ≠ p := fun e => h.ne (by simp [Value.ownBlock, e])
  have H := kept h
  have HHe := kept hh
  have HN := kept hn
  have c0 : w.cell? ⟨p, 0, none⟩ = some (.slice (some ⟨g, 0, none⟩) (n + 1) cap) := h.blk.cell rfl
  have hrow : OwnK w 106 2 (.slice (some ⟨g, 0, none⟩) (n + 1) cap) (n + 1) (fl l) := by have := h.row; rw [hn] at this; exact this
  have HSw0 := kept (fun w0 (hb : Below w.heap.size w w0) => swap_calls g (n + 1) cap l 0 n w0 (hrow.later hb) (by omega) (by omega))

  clear h hh hn hrow
  go_enter Try.func46, Try.ntmps46
  go_wp2_with (first | (go_at_call 45; refine (hlen_calls _ _ _ _).mono ?_; rintro e w0 ⟨rfl, hbl⟩; have H0 := kept (H.out.later hbl); have HC0 := kept (Chg.of_below (S := fun b => b = p ∨ b = g) hbl); have HSw := kept (HSw0.out w0 hbl); have c00 : w0.cell? ⟨p, 0, none⟩ = some (.slice (some ⟨g, 0, none⟩) (n + 1) cap) := H0.out.blk.cell rfl; clear hbl)
                     | (go_at_call 81; refine HSw.out.mono ?_; rintro e w1 ⟨rfl, ho1, hc1⟩
                        have H1 : Kept (IsHp w1 p (.slice (some ⟨g, 0, none⟩) (n + 1) cap) (swapL l 0 n)) := kept ⟨hc1.keep H0.out.blk (fun e => H0.out.ne (by simp [Value.ownBlock, e])), by rw [length_swapL, HN.out]; exact ho1⟩
                        have HC1 := kept (HC0.out.trans hc1 (fun _ _ h => .inr h))
                        have c1 : w1.cell? ⟨p, 0, none⟩ = some (.slice (some ⟨g, 0, none⟩) (n + 1) cap) := H1.out.blk.cell rfl
                        have HDn := kept (down_calls p g (n + 1) cap n (swapL l 0 n) 0 w1 H1.out (by rw [length_swapL]; exact HN.out) (by omega) (by omega) (by omega) (pop_start HN.out HHe.out))
                        clear ho1 hc1)
                     | (go_at_call 59; refine HDn.out.mono ?_; rintro e w2 ⟨b, l2, rfl, h2, hl2, hh2, hp2, hf2, hc2⟩
                        have HPop := kept (pop_calls p g n cap l2 w2 h2 hl2 (by omega))
                        have HH2 := kept hh2
                        have HP2 : Kept (l2.Perm l) := kept (hp2.trans (perm_swap l 0 n (by rw [HN.out]; omega) (by rw [HN.out]; omega)))
                        have HF2 : Kept (at_ l2 n = at_ l 0) := kept (by rw [hf2 n (Nat.le_refl _), at_swap l 0 n n (by rw [HN.out]; omega) (by rw [HN.out]; omega), if_pos rfl])
                        have HC2 := kept hc2
                        have HL2 := kept hl2
                        clear h2 hl2 hh2 hp2 hf2 hc2)
                     | (go_at_call 79; refine HPop.out.mono ?_; rintro e w3 ⟨rfl, h3, hc3⟩; have H3 := kept h3; have HC3 := kept hc3; clear h3 hc3))
  go_ret
  obtain ⟨h1, h2⟩ := pop_end oL HN.out HHe.out HP2.out HF2.out
  rw [HF2.out] at h1 h2 ⊢
  refine ⟨rfl, l2.take n, H3.out, by rw [List.length_take, HL2.out]; omega, heap_take HH2.out, h1, h2, ?_⟩
  exact (HC1.out.trans HC2.out (fun _ _ h => .inr h)).trans HC3.out (fun _ _ h => .inl h)
end Go.Proofs.Ytnakjencodicmaa.CanonH

-- ---- Kd
/- Between the print's words for rows and those of this claim's own texts. No program in sight. -/
namespace Go.Proofs.Ytnakjencodicmaa.Own
set_option maxRecDepth 100000
set_option linter.unusedSimpArgs false
set_option linter.unusedVariables false
open Go Go.RowKit Go.Proofs.YtnakjencodicmaaW.PrintWords

theorem rd_of_C {k : IntKind} {w : World} {A : Option Addr} {n : Nat} {xs : List Int} (h : Kd.C (Kd.int k) w A n xs) : Rd w (.slice A n n) (ints k xs) := by
  obtain ⟨h1, h2, h3⟩ := h
  subst h1
  refine ⟨A, xs.length, by rw [length_ints], by rw [length_ints]; exact Nat.le_refl _, h2, fun i u hu => ?_⟩
  have hi : i < xs.length := by have := (List.getElem?_eq_some_iff.1 hu).1; rwa [length_ints] at this
  obtain ⟨ad, rfl, hc⟩ := h3 (by omega)
  obtain ⟨c, hcl, hK, hcell⟩ := hc i _ (List.getElem?_eq_getElem hi)
  refine ⟨ad, rfl, ?_⟩
  have hK2 : c = [.int k xs[i]] := hK
  have := hcell 0 (.int k xs[i]) (by rw [hK2]; rfl)
  have e : u = .int k xs[i] := by
    unfold ints at hu; rw [List.getElem?_map, List.getElem?_eq_getElem hi] at hu; simp at hu; exact hu.symm
  rw [e]; simpa [Kd.int, Kd.scalar] using this

theorem C_of_rd {k : IntKind} {w : World} {A : Option Addr} {n c : Nat} {xs : List Int} (h : Rd w (.slice A n c) (ints k xs)) : Kd.C (Kd.int k) w A n xs := by
  obtain ⟨a, cap, hv, h1, h2, hc⟩ := h
  simp only [Value.slice.injEq, length_ints] at hv h1
  obtain ⟨rfl, rfl, rfl⟩ := hv
  refine ⟨rfl, by simp only [maxLen] at h2; omega, fun h0 => ?_⟩
  obtain ⟨x, hx, _⟩ := hc 0 _ (ints_at k xs 0 (by omega))
  refine ⟨x, hx, fun i y hy => ?_⟩
  have hi : i < xs.length := (List.getElem?_eq_some_iff.1 hy).1
  obtain ⟨x2, hx2, hcell⟩ := hc i _ (ints_at k xs i hi)
  rw [hx] at hx2; cases hx2
  have e : xs.getD i 0 = y := by rw [List.getD_eq_getElem?_getD, hy]; rfl
  rw [e] at hcell
  refine ⟨[.int k y], rfl, rfl, fun j u hj => ?_⟩
  match j, hj with
  | 0, hj => simp at hj; subst hj; simpa [Kd.int, Kd.scalar] using hcell

theorem own_low {w : World} {base e size n : Nat} {v : Value} {xs : List Value} (h : w.ownsRow 0 e size v n xs) (hb : ∀ g, v.ownBlock = some g → base ≤ g) : w.ownsRow base e size v n xs := by
  refine ⟨h.1, ?_⟩
  rcases h.2 with hn | ⟨g, cap, cur, rfl, _, r⟩
  · exact .inl hn
  · exact .inr ⟨g, cap, cur, rfl, hb g rfl, r⟩

/-- A row of elements, their cells one behind the other. -/
theorem R_of_flat {α : Type} (d : Kd α) (enc : α → List Value) {e : Nat} {w : World} {base : Nat} {v : Value} {xs : List α} (hM : ∀ ok x, d.M w base ok x (enc x)) (hl : ∀ x, (enc x).length = d.sz)
    (h : w.ownsRow 0 e d.sz v xs.length (xs.flatMap enc)) (hb : ∀ g, v.ownBlock = some g → base ≤ g) : Kd.R d e w base (fun _ => True) v xs := by
  refine ⟨fun _ _ => trivial, xs.flatMap enc, own_low h hb, ?_⟩
  have key : ∀ (xs : List α), (xs.flatMap enc).length = xs.length * d.sz ∧ ∀ j p, xs[j]? = some p → ((xs.flatMap enc).drop (j * d.sz)).take d.sz = enc p := by
    intro xs
    induction xs with
    | nil => exact ⟨by simp, fun j p hj => by simp at hj⟩
    | cons a t ih =>
      have ha := hl a
      refine ⟨by rw [List.flatMap_cons, List.length_append, ih.1, ha, List.length_cons, Nat.succ_mul]; omega, fun j p hj => ?_⟩
      rw [List.flatMap_cons]
      cases j with
      | zero => simp at hj; subst hj; rw [Nat.zero_mul, List.drop_zero]; exact List.take_left' ha
      | succ j =>
        have e2 : (j + 1) * d.sz = (enc a).length + j * d.sz := by rw [ha, Nat.succ_mul]; omega
        rw [e2, ← List.drop_drop, List.drop_left]
        exact ih.2 j p (by simpa using hj)
  exact ⟨(key xs).1, fun j p hj => by rw [(key xs).2 j p hj]; exact hM _ p⟩

theorem flat_ints (k : IntKind) (xs : List Int) : xs.flatMap (fun x => [Value.int k x]) = ints k xs := by
  unfold ints; induction xs with
  | nil => rfl
  | cons a t ih => simp [ih]
theorem R_of_owns {k : IntKind} {e : Nat} {w : World} {base : Nat} {v : Value} {xs : List Int} (h : Owns w e v (ints k xs)) (hb : ∀ g, v.ownBlock = some g → base ≤ g) : Kd.R (Kd.int k) e w base (fun _ => True) v xs := by
  refine R_of_flat (Kd.int k) (fun x => [Value.int k x]) (fun ok x => rfl) (fun _ => rfl) ?_ hb
  rw [flat_ints]
  have h2 : w.ownsRow 0 e 1 v (ints k xs).length (ints k xs) := h
  rwa [length_ints] at h2
theorem owns_of_R {k : IntKind} {e : Nat} {w : World} {base : Nat} {ok : Nat → Prop} {v : Value} {xs : List Int} (h : Kd.R (Kd.int k) e w base ok v xs) : Owns w e v (ints k xs) ∧ ∀ g, v.ownBlock = some g → base ≤ g := by
  obtain ⟨_, inner, ho, hl, hr⟩ := h
  have e1 : inner = ints k xs := by
    apply List.ext_getElem
    · rw [length_ints, hl]; simp [Kd.int, Kd.scalar]
    · intro i h1 h2
      rw [length_ints] at h2
      have h3 := hr i _ (List.getElem?_eq_getElem h2)
      have h4 : (inner.drop (i * 1)).take 1 = [Value.int k xs[i]] := h3
      rw [Nat.mul_one, List.drop_eq_getElem_cons h1] at h4
      simp only [List.take_succ_cons, List.take_zero, List.cons.injEq, and_true] at h4
      rw [h4]; simp [ints]
  subst e1
  refine ⟨?_, fun g hg => (World.ownsRow.lt ho g hg).1⟩
  have h2 : w.ownsRow base e 1 v xs.length (ints k xs) := ho
  refine ⟨by simp, ?_⟩
  rcases h2.2 with ⟨hv, hn⟩ | ⟨g, cap, cur, hv, _, r⟩
  · left; exact ⟨hv, by simpa using hn⟩
  · right; exact ⟨g, cap, cur, by simpa using hv, Nat.zero_le _, by simpa using r⟩
end Go.Proofs.Ytnakjencodicmaa.Own

-- ---- Ub
/- Words of the print's plain functions: small facts. No program in sight. -/
namespace Go.Proofs.Ytnakjencodicmaa.PA
set_option maxRecDepth 100000
set_option linter.unusedVariables false
set_option linter.unusedSimpArgs false
open Go.RowKit Go.Proofs.YtnakjencodicmaaW.PrintWords Go.Proofs.YtnakjencodicmaaW.PrintLast Go.Proofs.YtnakjencodicmaaW.PrintMore

theorem w64 {x : Int} (h1 : -9223372036854775808 ≤ x) (h2 : x ≤ 9223372036854775807) : wrap64 x = x := by unfold wrap64; omega
theorem rd_nat (xs : List Int) (i : Nat) : rd xs (i : Int) = xs.getD i 0 := by unfold rd; rw [Int.toNat_natCast]
theorem pow2_le (k m : Nat) (h : k ≤ m) : 2 ^ k ≤ 2 ^ m := Nat.pow_le_pow_right (by decide) h
theorem i64_wrap_nat (n : Nat) (h : n < 9223372036854775808) : IntKind.i64.wrap (n : Int) = (n : Int) := by
  simp [IntKind.wrap, IntKind.bits, IntKind.signed]; omega
theorem shl_nat (x k : Nat) (hk : k ≤ 62) (h : x * 2 ^ k < 9223372036854775808) : shl .i64 (x : Int) (k : Int) = ((x * 2 ^ k : Nat) : Int) := by
  unfold shl
  have e : min ((k : Int).toNat) (IntKind.bits .i64) = k := by simp [IntKind.bits]; omega
  rw [e]
  have e2 : (x : Int) * 2 ^ k = ((x * 2 ^ k : Nat) : Int) := by simp
  rw [e2, i64_wrap_nat _ h]
theorem shl_1 (k : Nat) (hk : k ≤ 62) : shl .i64 1 (k : Int) = ((2 ^ k : Nat) : Int) := by
  have h := shl_nat 1 k hk (by have := pow2_le k 62 hk; rw [Nat.one_mul]; have e : 2 ^ 62 = 4611686018427387904 := by decide
                               omega)
  rw [Nat.one_mul] at h; exact h
theorem shr_nat (x k : Nat) (hk : k ≤ 64) : shr .i64 (x : Int) (k : Int) = ((x / 2 ^ k : Nat) : Int) := by
  unfold shr
  have e : min ((k : Int).toNat) (IntKind.bits .i64) = k := by simp [IntKind.bits]; omega
  rw [e]; simp
theorem tdiv_nat (a b : Nat) : Int.tdiv (a : Int) (b : Int) = ((a / b : Nat) : Int) := by
  rw [Int.tdiv_eq_ediv_of_nonneg (by omega)]; simp
theorem tmod_nat (a b : Nat) : Int.tmod (a : Int) (b : Int) = ((a % b : Nat) : Int) := by
  rw [Int.tmod_eq_emod_of_nonneg (by omega)]; simp

/-- What a loop comes to, from some number of rounds on: by what is left to do. -/
theorem evq {α : Type} {g : Nat → Option α} {r s : α} (e : r = s) (h : Ev g r) : Ev g s := e ▸ h
/-- A call whose answer needs no rounds. -/
theorem Ev.bind0 {α β : Type} {x : Option α} {f : Nat → α → Option β} {a : α} {r : β} (h : x = some a) (k : Ev (fun n => f n a) r) : Ev (fun n => x.bind (f n)) r := by
  subst h; exact k
theorem Ev.ite_pos {α : Type} {c : Prop} [Decidable c] {f g : Nat → Option α} {r : α} (h : c) (k : Ev f r) : Ev (fun n => if c then f n else g n) r := by
  simpa only [if_pos h] using k
theorem Ev.ite_neg {α : Type} {c : Prop} [Decidable c] {f g : Nat → Option α} {r : α} (h : ¬ c) (k : Ev g r) : Ev (fun n => if c then f n else g n) r := by
  simpa only [if_neg h] using k
theorem Ev.ofSome {α : Type} {r s : α} (h : r = s) : Ev (fun _ => some r) s := by subst h; exact Ev.now r
theorem mx_max (x y : Int) : mx x y = max x y := by unfold mx; split <;> omega
theorem mn_min (x y : Int) : mn x y = min x y := by unfold mn; split <;> omega
end Go.Proofs.Ytnakjencodicmaa.PA

-- ---- PAx2

namespace Go.Proofs.Ytnakjencodicmaa.PA
open Go.RowKit Go.Proofs.YtnakjencodicmaaW.PrintWords Go.Proofs.YtnakjencodicmaaW.PrintLast Go.Proofs.YtnakjencodicmaaW.PrintMore
attribute [local go_sem] max2_int min2_int max_two min_two max_three min_three max_four min_four   -- for this text's walks alone
set_option linter.unusedVariables false
set_option linter.unusedSimpArgs false

/-! ### canon_May: function 43 -/
mutual
def canon_May.l0 : Nat → Int → Int → List Int → Int → Int → Option (Bool)
  | 0, _, _, _, _, _ => none
  | k + 1, x3, x4, x10, x11, x12 => if x12 < x11 then (if 0 ≤ x12 then (if x12 < (x10.length : Int) then (if (rd x10 x12) < 0 then (canon_May.j1 k x3 x4 (rd x10 x12) x10 x11 x12 true) else (canon_May.j1 k x3 x4 (rd x10 x12) x10 x11 x12 (decide ((rd x10 x12) > 15)))) else (none)) else (none)) else (if x4 = 0 then (some true) else (if x3 = 32768 then (some true) else (if x4 = 1 then (some (x3 == 16384)) else (some false))))
def canon_May.j1 : Nat → Int → Int → Int → List Int → Int → Int → Bool → Option (Bool)
  | 0, _, _, _, _, _, _, _ => none
  | k + 1, x3, x4, x6, x10, x11, x12, x21 => if x21 = true then (some false) else (if x6 > 0 then (if 0 ≤ (wrap64 (15 - x6)) then (canon_May.l0 k (wrap64 (x3 + (shl .i64 1 (wrap64 (15 - x6))))) (wrap64 (x4 + 1)) x10 x11 (wrap64 (x12 + 1))) else (none)) else (canon_May.l0 k x3 x4 x10 x11 (wrap64 (x12 + 1))))
end
def canon_May.f (k : Nat) (l0 : List Int) : Option (Bool) := if (l0.length : Int) = 65 then (canon_May.l0 k 0 0 l0 (l0.length : Int) 0) else (some false)
theorem canon_May.mono_l : ∀ k, (∀ y0 y1 y2 y3 y4, LeO (canon_May.l0 k y0 y1 y2 y3 y4) (canon_May.l0 (k + 1) y0 y1 y2 y3 y4)) ∧ (∀ y0 y1 y2 y3 y4 y5 y6, LeO (canon_May.j1 k y0 y1 y2 y3 y4 y5 y6) (canon_May.j1 (k + 1) y0 y1 y2 y3 y4 y5 y6))
  | 0 => ⟨fun _ _ _ _ _ r h => by simp [canon_May.l0] at h, fun _ _ _ _ _ _ _ r h => by simp [canon_May.j1] at h⟩
  | k + 1 => by
    obtain ⟨ih0, ih1⟩ := canon_May.mono_l k
    refine ⟨?_, ?_⟩
    · intro y0 y1 y2 y3 y4
      unfold canon_May.l0
      repeat' first
      | (with_reducible exact ih0 _ _ _ _ _)
      | (with_reducible exact ih1 _ _ _ _ _ _ _)
      | (with_reducible exact LeO.refl _)
      | (with_reducible exact LeO.none _)
      | (with_reducible refine LeO.ite ?_ ?_)
      | (with_reducible refine LeO.bind ?_ (fun _ => ?_))
      | exact ih0 _ _ _ _ _
      | exact ih1 _ _ _ _ _ _ _
      | exact LeO.none _
      | refine LeO.ite ?_ ?_
      | refine LeO.bind ?_ (fun _ => ?_)
    · intro y0 y1 y2 y3 y4 y5 y6
      unfold canon_May.j1
      repeat' first
      | (with_reducible exact ih0 _ _ _ _ _)
      | (with_reducible exact ih1 _ _ _ _ _ _ _)
      | (with_reducible exact LeO.refl _)
      | (with_reducible exact LeO.none _)
      | (with_reducible refine LeO.ite ?_ ?_)
      | (with_reducible refine LeO.bind ?_ (fun _ => ?_))
      | exact ih0 _ _ _ _ _
      | exact ih1 _ _ _ _ _ _ _
      | exact LeO.none _
      | refine LeO.ite ?_ ?_
      | refine LeO.bind ?_ (fun _ => ?_)
theorem canon_May.mono : ∀ a0 k, LeO (canon_May.f k a0) (canon_May.f (k + 1) a0) := by
  intro a0 k
  obtain ⟨ih0, ih1⟩ := canon_May.mono_l k
  unfold canon_May.f
  repeat' first
      | (with_reducible exact ih0 _ _ _ _ _)
      | (with_reducible exact ih1 _ _ _ _ _ _ _)
      | (with_reducible exact LeO.refl _)
      | (with_reducible exact LeO.none _)
      | (with_reducible refine LeO.ite ?_ ?_)
      | (with_reducible refine LeO.bind ?_ (fun _ => ?_))
      | exact ih0 _ _ _ _ _
      | exact ih1 _ _ _ _ _ _ _
      | exact LeO.none _
      | refine LeO.ite ?_ ?_
      | refine LeO.bind ?_ (fun _ => ?_)
set_option maxHeartbeats 8000000 in
set_option maxRecDepth 100000 in
theorem canon_May.calls (k : Nat) (A0 : Option Addr) (c0 : Nat) (l0 : List Int) (r : Bool) (w : World) (hr0 : Kd.C (Kd.int .i64) w A0 l0.length l0) (hc0 : l0.length ≤ c0) (h : canon_May.f k l0 = some r) :
    Calls Try.prog 43 #[.slice A0 l0.length c0] w fun e w' => e = .returned (.bool r) ∧ Drawn0 w w' := by
  have HR0 := Aside0.mk hr0
  have HC0 := Aside0.mk hc0
  clear hr0 hc0
  have H : (if (l0.length : Int) = 65 then (canon_May.l0 k 0 0 l0 (l0.length : Int) 0) else (some false)) = some r := h
  clear h
  by_cases c2 : (l0.length : Int) = 65
  · rw [if_pos c2] at H
    have c2b0 : ((l0.length : Int) == 65) = true := beq_iff_eq.mpr c2
    have c2b1 : ((l0.length : Int) != 65) = false := bne_eq_false_iff_eq.mpr c2
    clear c2
    have H' := Aside0.mk H
    clear H
    go_enter Try.func43, Try.ntmps43
    go_wp2
    go_loopg [3, 4, 12] k (fun kq v3 v4 v12 w' => ∃ (x3_1 : Int) (x4_1 : Int) (x12_1 : Int), v3 = .int .i64 x3_1 ∧ v4 = .int .i64 x4_1 ∧ v12 = .int .i64 x12_1 ∧ Aside0 (canon_May.l0 kq x3_1 x4_1 l0 (l0.length : Int) x12_1 = some r) ∧ Aside0 (kq ≤ k) ∧ Drawn0 w w')
    case atStart => exact ⟨(0), (0), (0), (by first | rfl | (simp; done) | (simp [*]; done)), (by first | rfl | (simp; done) | (simp [*]; done)), (by first | rfl | (simp; done) | (simp [*]; done)), H', ⟨Nat.le_refl _⟩, by repeat (first | exact Drawn0.refl _ | apply Drawn0.step)⟩
    case round =>
      clear H'
      try clear c2
      try clear c2b0
      try clear c2b1
      try clear p2
      obtain ⟨x3_1, x4_1, x12_1, rfl, rfl, rfl, HA, HK1, ⟨m1, rfl⟩⟩ := hrel
      cases gk with
      | zero => exact absurd HA.out (by simp [canon_May.l0])
      | succ k1 =>
        have H := HA.out
        clear HA
        simp only [canon_May.l0] at H
        by_cases c3 : x12_1 < (l0.length : Int)
        · rw [if_pos c3] at H
          have c3b0 : decide (x12_1 < (l0.length : Int)) = true := decide_eq_true c3
          clear c3
          by_cases c4 : 0 ≤ x12_1
          · rw [if_pos c4] at H
            have c4b0 : decide (0 ≤ x12_1) = true := decide_eq_true c4
            clear c4
            by_cases c5 : x12_1 < (l0.length : Int)
            · rw [if_pos c5] at H
              have c5b0 : decide (x12_1 < (l0.length : Int)) = true := decide_eq_true c5
              clear c5
              have HC6 := Aside0.mk H
              clear H
              have p101 : 0 ≤ (x12_1 : Int) := of_decide_eq_true (by first | (with_reducible assumption) | assumption)
              have q101 : x12_1 < (l0.length : Int) := of_decide_eq_true (by first | (with_reducible assumption) | assumption)
              obtain ⟨ad101, e101, hx101_0⟩ := Kd.at_int HR0.out x12_1 p101 q101
              cases e101
              replace p101 := eq_true p101
              replace q101 := eq_true q101
              go_upto_region 7 with (fail)
              go_cut [21] (fun v21 wc => ∃ (kq : Nat) (x21_5 : Bool), v21 = .bool x21_5 ∧ Aside0 (canon_May.j1 kq x3_1 x4_1 (rd l0 x12_1) l0 (l0.length : Int) x12_1 x21_5 = some r) ∧ Aside0 (kq ≤ k1) ∧ Drawn0 w wc)
              case first =>
                have H := HC6.out
                clear HC6
                by_cases c7 : (rd l0 x12_1) < 0
                · rw [if_pos c7] at H
                  have c7b0 : decide ((rd l0 x12_1) < 0) = true := decide_eq_true c7
                  clear c7
                  (first | rw [c7b0] | (simp only [i64_w, i32_w]; rw [c7b0]) | skip)
                  have H' := Aside0.mk H
                  clear H
                  go_wp2
                  go_meet
                  case rel => exact ⟨_, (true), (by first | rfl | (simp; done) | (simp [*]; done)), H', ⟨by have := HK1.out; first | omega | exact Nat.le_refl _⟩, by repeat (first | exact Drawn0.refl _ | apply Drawn0.step)⟩
                · rw [if_neg c7] at H
                  have c7b0 : decide ((rd l0 x12_1) < 0) = false := decide_eq_false c7
                  clear c7
                  (first | rw [c7b0] | (simp only [i64_w, i32_w]; rw [c7b0]) | skip)
                  have H' := Aside0.mk H
                  clear H
                  go_wp2
                  go_meet
                  case rel => exact ⟨_, (decide ((rd l0 x12_1) > 15)), (by first | rfl | (simp; done) | (simp [*]; done)), H', ⟨by have := HK1.out; first | omega | exact Nat.le_refl _⟩, by repeat (first | exact Drawn0.refl _ | apply Drawn0.step)⟩
              case rest =>
                clear HC6
                try clear p1
                try clear q1
                try clear hx1
                try clear c2
                try clear c2b0
                try clear c2b1
                try clear p2
                try clear c3
                try clear c3b0
                try clear c4
                try clear c4b0
                try clear c5
                try clear c5b0
                try clear c7
                try clear c7b0
                try clear hx101_0
                try clear p101
                try clear p2
                try clear q101
                obtain ⟨kq, x21_5, rfl, HA, HJ5, ⟨mc5, rfl⟩⟩ := hcut
                cases kq with
                | zero => exact absurd HA.out (by simp [canon_May.j1])
                | succ kj5 =>
                  have H := HA.out
                  clear HA
                  simp only [canon_May.j1] at H
                  by_cases c8 : x21_5 = true
                  · subst c8
                    have H1 : (some false) = some r := by rw [if_pos rfl] at H; exact H
                    clear H
                    have H := H1
                    clear H1
                    obtain rfl := Option.some.inj H
                    go_wp2
                    go_ret
                    exact ⟨by first | rfl | (simp; done) | (simp [*]; done), by repeat (first | exact Drawn0.refl _ | apply Drawn0.step)⟩
                  · replace c8 := Bool.eq_false_iff.mpr c8
                    subst c8
                    have H1 : (if (rd l0 x12_1) > 0 then (if 0 ≤ (wrap64 (15 - (rd l0 x12_1))) then (canon_May.l0 kj5 (wrap64 (x3_1 + (shl .i64 1 (wrap64 (15 - (rd l0 x12_1)))))) (wrap64 (x4_1 + 1)) l0 (l0.length : Int) (wrap64 (x12_1 + 1))) else (none)) else (canon_May.l0 kj5 x3_1 x4_1 l0 (l0.length : Int) (wrap64 (x12_1 + 1)))) = some r := by rw [if_neg (show ¬ (false = true) by decide)] at H; exact H
                    clear H
                    have H := H1
                    clear H1
                    by_cases c9 : (rd l0 x12_1) > 0
                    · rw [if_pos c9] at H
                      have c9b0 : decide (0 < (rd l0 x12_1)) = true := decide_eq_true c9
                      clear c9
                      obtain ⟨ji10, hji10⟩ : ∃ j_ : Int, (wrap64 (15 - (rd l0 x12_1))) = j_ := ⟨_, rfl⟩
                      replace H : (if 0 ≤ (ji10) then (canon_May.l0 kj5 (wrap64 (x3_1 + (shl .i64 1 (ji10)))) (wrap64 (x4_1 + 1)) l0 (l0.length : Int) (wrap64 (x12_1 + 1))) else (none)) = some r := by first | (rw [hji10] at H; exact H) | (simp only [hji10] at H ⊢; exact H)
                      have hji10w : (IntKind.i64.wrap (15 - (rd l0 x12_1))) = ji10 := (i64_w _).trans hji10
                      by_cases c11 : 0 ≤ (ji10)
                      · rw [if_pos c11] at H
                        have c11b0 := eq_true c11
                        have c11b1 : decide (0 ≤ (ji10)) = true := decide_eq_true c11
                        clear c11
                        obtain ⟨ji12, hji12⟩ : ∃ j_ : Int, (shl .i64 1 (ji10)) = j_ := ⟨_, rfl⟩
                        replace H : (canon_May.l0 kj5 (wrap64 (x3_1 + (ji12))) (wrap64 (x4_1 + 1)) l0 (l0.length : Int) (wrap64 (x12_1 + 1))) = some r := by first | (rw [hji12] at H; exact H) | (simp only [hji12] at H ⊢; exact H)
                        have hji12_ : (IntKind.i64.wrap (1 * 2 ^ min (ji10).toNat 64)) = ji12 := hji12
                        have hji12z : (ji10) ≤ 64 → (IntKind.i64.wrap (1 * 2 ^ (ji10).toNat)) = ji12 := shl_small hji12
                        have hji12u : (IntKind.i64.wrap (2 ^ min (ji10).toNat 64)) = ji12 := by have h_ := hji12_; rw [Int.one_mul] at h_; exact h_
                        have hji12v : (ji10) ≤ 64 → (IntKind.i64.wrap (2 ^ (ji10).toNat)) = ji12 := fun hle_ => by have h_ := hji12z hle_; rw [Int.one_mul] at h_; exact h_
                        have hji12y : (wrap64 (1 * 2 ^ min (ji10).toNat 64)) = ji12 := (i64_w _).symm.trans hji12_
                        have hji12x : (ji10) ≤ 64 → (wrap64 (1 * 2 ^ (ji10).toNat)) = ji12 := fun h_ => (i64_w _).symm.trans (hji12z h_)
                        have H' := Aside0.mk H
                        clear H
                        go_wp2
                        go_roundg kj5
                        case measure => have := HK1.out; have := HJ5.out; omega
                        case rel => exact ⟨(wrap64 (x3_1 + (ji12))), (wrap64 (x4_1 + 1)), (wrap64 (x12_1 + 1)), (by first | rfl | (simp; done) | (simp only [← hji12] <;> (first | rfl | simp)) | (simp [*]; done)), (by first | rfl | (simp; done) | (simp [*]; done)), (by first | rfl | (simp; done) | (simp [*]; done)), H', ⟨by have := HK1.out; have := HJ5.out; omega⟩, by repeat (first | exact Drawn0.refl _ | apply Drawn0.step)⟩
                      · rw [if_neg c11] at H
                        exact absurd H (by simp)
                    · rw [if_neg c9] at H
                      have c9b0 : decide (0 < (rd l0 x12_1)) = false := decide_eq_false c9
                      clear c9
                      have H' := Aside0.mk H
                      clear H
                      go_wp2
                      go_roundg kj5
                      case measure => have := HK1.out; have := HJ5.out; omega
                      case rel => exact ⟨(x3_1), (x4_1), (wrap64 (x12_1 + 1)), (by first | rfl | (simp; done) | (simp [*]; done)), (by first | rfl | (simp; done) | (simp [*]; done)), (by first | rfl | (simp; done) | (simp [*]; done)), H', ⟨by have := HK1.out; have := HJ5.out; omega⟩, by repeat (first | exact Drawn0.refl _ | apply Drawn0.step)⟩
            · rw [if_neg c5] at H
              exact absurd H (by simp)
          · rw [if_neg c4] at H
            exact absurd H (by simp)
        · rw [if_neg c3] at H
          have c3b0 : decide (x12_1 < (l0.length : Int)) = false := decide_eq_false c3
          clear c3
          by_cases c13 : x4_1 = 0
          · rw [if_pos c13] at H
            have c13b0 : (x4_1 == 0) = true := beq_iff_eq.mpr c13
            have c13b1 : (x4_1 != 0) = false := bne_eq_false_iff_eq.mpr c13
            clear c13
            obtain rfl := Option.some.inj H
            go_wp2
            go_ret
            exact ⟨by first | rfl | (simp; done) | (simp [*]; done), by repeat (first | exact Drawn0.refl _ | apply Drawn0.step)⟩
          · rw [if_neg c13] at H
            have c13b0 : (x4_1 == 0) = false := beq_eq_false_iff_ne.mpr c13
            have c13b1 : (x4_1 != 0) = true := bne_iff_ne.mpr c13
            by_cases c14 : x3_1 = 32768
            · rw [if_pos c14] at H
              have c14b0 : (x3_1 == 32768) = true := beq_iff_eq.mpr c14
              have c14b1 : (x3_1 != 32768) = false := bne_eq_false_iff_eq.mpr c14
              clear c14
              obtain rfl := Option.some.inj H
              go_wp2
              go_ret
              exact ⟨by first | rfl | (simp; done) | (simp [*]; done), by repeat (first | exact Drawn0.refl _ | apply Drawn0.step)⟩
            · rw [if_neg c14] at H
              have c14b0 : (x3_1 == 32768) = false := beq_eq_false_iff_ne.mpr c14
              have c14b1 : (x3_1 != 32768) = true := bne_iff_ne.mpr c14
              by_cases c15 : x4_1 = 1
              · rw [if_pos c15] at H
                have c15b0 : (x4_1 == 1) = true := beq_iff_eq.mpr c15
                have c15b1 : (x4_1 != 1) = false := bne_eq_false_iff_eq.mpr c15
                clear c15
                obtain rfl := Option.some.inj H
                go_wp2
                go_ret
                exact ⟨by first | rfl | (simp; done) | (simp [*]; done), by repeat (first | exact Drawn0.refl _ | apply Drawn0.step)⟩
              · rw [if_neg c15] at H
                have c15b0 : (x4_1 == 1) = false := beq_eq_false_iff_ne.mpr c15
                have c15b1 : (x4_1 != 1) = true := bne_iff_ne.mpr c15
                obtain rfl := Option.some.inj H
                go_wp2
                go_ret
                exact ⟨by first | rfl | (simp; done) | (simp [*]; done), by repeat (first | exact Drawn0.refl _ | apply Drawn0.step)⟩
  · rw [if_neg c2] at H
    have c2b0 : ((l0.length : Int) == 65) = false := beq_eq_false_iff_ne.mpr c2
    have c2b1 : ((l0.length : Int) != 65) = true := bne_iff_ne.mpr c2
    obtain rfl := Option.some.inj H
    go_enter Try.func43, Try.ntmps43
    go_wp2
    go_ret
    exact ⟨by first | rfl | (simp; done) | (simp [*]; done), by repeat (first | exact Drawn0.refl _ | apply Drawn0.step)⟩

end Go.Proofs.Ytnakjencodicmaa.PA

-- ---- PAx24

namespace Go.Proofs.Ytnakjencodicmaa.PA
open Go.RowKit Go.Proofs.YtnakjencodicmaaW.PrintWords Go.Proofs.YtnakjencodicmaaW.PrintLast Go.Proofs.YtnakjencodicmaaW.PrintMore
attribute [local go_sem] max2_int min2_int max_two min_two max_three min_three max_four min_four   -- for this text's walks alone
set_option linter.unusedVariables false
set_option linter.unusedSimpArgs false

/-! ### wringerref7_MayLens: function 50 -/
mutual
def wringerref7_MayLens.l0 : Nat → List Int → Int → Int → Int → Option (Bool)
  | 0, _, _, _, _ => none
  | k + 1, x0, x3, x4, x5 => if x5 < (x0.length : Int) then (if 0 ≤ x5 then (if (rd x0 x5) < 0 then (wringerref7_MayLens.j1 k x0 x3 x4 x5 true) else (wringerref7_MayLens.j1 k x0 x3 x4 x5 (decide ((rd x0 x5) > 15)))) else (none)) else (if x4 = 0 then (some true) else (if x3 = 32768 then (some true) else (if x4 = 1 then (some (x3 == 16384)) else (some false))))
def wringerref7_MayLens.j1 : Nat → List Int → Int → Int → Int → Bool → Option (Bool)
  | 0, _, _, _, _, _ => none
  | k + 1, x0, x3, x4, x5, x26 => if x26 = true then (some false) else (if 0 ≤ x5 then (if x5 < (x0.length : Int) then (if (rd x0 x5) > 0 then (if 0 ≤ (wrap64 (15 - (rd x0 x5))) then (wringerref7_MayLens.l0 k x0 (wrap64 (x3 + (shl .i64 1 (wrap64 (15 - (rd x0 x5)))))) (wrap64 (x4 + 1)) (wrap64 (x5 + 1))) else (none)) else (wringerref7_MayLens.l0 k x0 x3 x4 (wrap64 (x5 + 1)))) else (none)) else (none))
end
def wringerref7_MayLens.f (k : Nat) (l0 : List Int) : Option (Bool) := if (l0.length : Int) = 65 then (wringerref7_MayLens.l0 k l0 0 0 0) else (some false)
theorem wringerref7_MayLens.mono_l : ∀ k, (∀ y0 y1 y2 y3, LeO (wringerref7_MayLens.l0 k y0 y1 y2 y3) (wringerref7_MayLens.l0 (k + 1) y0 y1 y2 y3)) ∧ (∀ y0 y1 y2 y3 y4, LeO (wringerref7_MayLens.j1 k y0 y1 y2 y3 y4) (wringerref7_MayLens.j1 (k + 1) y0 y1 y2 y3 y4))
  | 0 => ⟨fun _ _ _ _ r h => by simp [wringerref7_MayLens.l0] at h, fun _ _ _ _ _ r h => by simp [wringerref7_MayLens.j1] at h⟩
  | k + 1 => by
    obtain ⟨ih0, ih1⟩ := wringerref7_MayLens.mono_l k
    refine ⟨?_, ?_⟩
    · intro y0 y1 y2 y3
      unfold wringerref7_MayLens.l0
      repeat' first
      | (with_reducible exact ih0 _ _ _ _)
      | (with_reducible exact ih1 _ _ _ _ _)
      | (with_reducible exact LeO.refl _)
      | (with_reducible exact LeO.none _)
      | (with_reducible refine LeO.ite ?_ ?_)
      | (with_reducible refine LeO.bind ?_ (fun _ => ?_))
      | exact ih0 _ _ _ _
      | exact ih1 _ _ _ _ _
      | exact LeO.none _
      | refine LeO.ite ?_ ?_
      | refine LeO.bind ?_ (fun _ => ?_)
    · intro y0 y1 y2 y3 y4
      unfold wringerref7_MayLens.j1
      repeat' first
      | (with_reducible exact ih0 _ _ _ _)
      | (with_reducible exact ih1 _ _ _ _ _)
      | (with_reducible exact LeO.refl _)
      | (with_reducible exact LeO.none _)
      | (with_reducible refine LeO.ite ?_ ?_)
      | (with_reducible refine LeO.bind ?_ (fun _ => ?_))
      | exact ih0 _ _ _ _
      | exact ih1 _ _ _ _ _
      | exact LeO.none _
      | refine LeO.ite ?_ ?_
      | refine LeO.bind ?_ (fun _ => ?_)
theorem wringerref7_MayLens.mono : ∀ a0 k, LeO (wringerref7_MayLens.f k a0) (wringerref7_MayLens.f (k + 1) a0) := by
  intro a0 k
  obtain ⟨ih0, ih1⟩ := wringerref7_MayLens.mono_l k
  unfold wringerref7_MayLens.f
  repeat' first
      | (with_reducible exact ih0 _ _ _ _)
      | (with_reducible exact ih1 _ _ _ _ _)
      | (with_reducible exact LeO.refl _)
      | (with_reducible exact LeO.none _)
      | (with_reducible refine LeO.ite ?_ ?_)
      | (with_reducible refine LeO.bind ?_ (fun _ => ?_))
      | exact ih0 _ _ _ _
      | exact ih1 _ _ _ _ _
      | exact LeO.none _
      | refine LeO.ite ?_ ?_
      | refine LeO.bind ?_ (fun _ => ?_)
set_option maxHeartbeats 8000000 in
set_option maxRecDepth 100000 in
theorem wringerref7_MayLens.calls (k : Nat) (A0 : Option Addr) (c0 : Nat) (l0 : List Int) (r : Bool) (w : World) (hr0 : Kd.C (Kd.int .i64) w A0 l0.length l0) (hc0 : l0.length ≤ c0) (h : wringerref7_MayLens.f k l0 = some r) :
    Calls Try.prog 50 #[.slice A0 l0.length c0] w fun e w' => e = .returned (.bool r) ∧ Drawn0 w w' := by
  have HR0 := Aside0.mk hr0
  have HC0 := Aside0.mk hc0
  clear hr0 hc0
  have H : (if (l0.length : Int) = 65 then (wringerref7_MayLens.l0 k l0 0 0 0) else (some false)) = some r := h
  clear h
  by_cases c2 : (l0.length : Int) = 65
  · rw [if_pos c2] at H
    have c2b0 : ((l0.length : Int) == 65) = true := beq_iff_eq.mpr c2
    have c2b1 : ((l0.length : Int) != 65) = false := bne_eq_false_iff_eq.mpr c2
    clear c2
    have H' := Aside0.mk H
    clear H
    go_enter Try.func50, Try.ntmps50
    go_wp2
    go_loopg [3, 4, 5] k (fun kq v3 v4 v5 w' => ∃ (x3_1 : Int) (x4_1 : Int) (x5_1 : Int), v3 = .int .i64 x3_1 ∧ v4 = .int .i64 x4_1 ∧ v5 = .int .i64 x5_1 ∧ Aside0 (wringerref7_MayLens.l0 kq l0 x3_1 x4_1 x5_1 = some r) ∧ Aside0 (kq ≤ k) ∧ Drawn0 w w')
    case atStart => exact ⟨(0), (0), (0), (by first | rfl | (simp; done) | (simp [*]; done)), (by first | rfl | (simp; done) | (simp [*]; done)), (by first | rfl | (simp; done) | (simp [*]; done)), H', ⟨Nat.le_refl _⟩, by repeat (first | exact Drawn0.refl _ | apply Drawn0.step)⟩
    case round =>
      clear H'
      try clear c2
      try clear c2b0
      try clear c2b1
      try clear p2
      obtain ⟨x3_1, x4_1, x5_1, rfl, rfl, rfl, HA, HK1, ⟨m1, rfl⟩⟩ := hrel
      cases gk with
      | zero => exact absurd HA.out (by simp [wringerref7_MayLens.l0])
      | succ k1 =>
        have H := HA.out
        clear HA
        simp only [wringerref7_MayLens.l0] at H
        by_cases c3 : x5_1 < (l0.length : Int)
        · rw [if_pos c3] at H
          have c3b0 : decide (x5_1 < (l0.length : Int)) = true := decide_eq_true c3
          clear c3
          have HC4 := Aside0.mk H
          clear H
          go_upto_region 7 with (fail)
          go_cut [26] (fun v26 wc => ∃ (kq : Nat) (x26_3 : Bool), v26 = .bool x26_3 ∧ Aside0 (wringerref7_MayLens.j1 kq l0 x3_1 x4_1 x5_1 x26_3 = some r) ∧ Aside0 (kq ≤ k1) ∧ Drawn0 w wc)
          case first =>
            have H := HC4.out
            clear HC4
            by_cases c5 : 0 ≤ x5_1
            · rw [if_pos c5] at H
              have c5b0 : decide (0 ≤ x5_1) = true := decide_eq_true c5
              clear c5
              (first | rw [c5b0] | (simp only [i64_w, i32_w]; rw [c5b0]) | skip)
              by_cases c6 : (rd l0 x5_1) < 0
              · rw [if_pos c6] at H
                have c6b0 : decide ((rd l0 x5_1) < 0) = true := decide_eq_true c6
                clear c6
                have H' := Aside0.mk H
                clear H
                have p146 : 0 ≤ (x5_1 : Int) := of_decide_eq_true (by first | (with_reducible assumption) | assumption)
                have q146 : x5_1 < (l0.length : Int) := of_decide_eq_true (by first | (with_reducible assumption) | assumption)
                obtain ⟨ad146, e146, hx146_0⟩ := Kd.at_int HR0.out x5_1 p146 q146
                cases e146
                replace p146 := eq_true p146
                replace q146 := eq_true q146
                go_wp2
                go_meet
                case rel => exact ⟨_, (true), (by first | rfl | (simp; done) | (simp [*]; done)), H', ⟨by have := HK1.out; first | omega | exact Nat.le_refl _⟩, by repeat (first | exact Drawn0.refl _ | apply Drawn0.step)⟩
              · rw [if_neg c6] at H
                have c6b0 : decide ((rd l0 x5_1) < 0) = false := decide_eq_false c6
                clear c6
                have H' := Aside0.mk H
                clear H
                have p146 : 0 ≤ (x5_1 : Int) := of_decide_eq_true (by first | (with_reducible assumption) | assumption)
                have q146 : x5_1 < (l0.length : Int) := of_decide_eq_true (by first | (with_reducible assumption) | assumption)
                obtain ⟨ad146, e146, hx146_0⟩ := Kd.at_int HR0.out x5_1 p146 q146
                cases e146
                replace p146 := eq_true p146
                replace q146 := eq_true q146
                have p147 : 0 ≤ (x5_1 : Int) := of_decide_eq_true (by first | (with_reducible assumption) | assumption)
                have q147 : x5_1 < (l0.length : Int) := of_decide_eq_true (by first | (with_reducible assumption) | assumption)
                obtain ⟨ad147, e147, hx147_0⟩ := Kd.at_int HR0.out x5_1 p147 q147
                obtain rfl : ad146 = ad147 := (by injection e147)
                replace p147 := eq_true p147
                replace q147 := eq_true q147
                go_wp2
                go_meet
                case rel => exact ⟨_, (decide ((rd l0 x5_1) > 15)), (by first | rfl | (simp; done) | (simp [*]; done)), H', ⟨by have := HK1.out; first | omega | exact Nat.le_refl _⟩, by repeat (first | exact Drawn0.refl _ | apply Drawn0.step)⟩
            · rw [if_neg c5] at H
              exact absurd H (by simp)
          case rest =>
            clear HC4
            try clear p1
            try clear q1
            try clear hx1
            try clear c2
            try clear c2b0
            try clear c2b1
            try clear p2
            try clear c3
            try clear c3b0
            try clear c5
            try clear c5b0
            try clear c6
            try clear c6b0
            try clear hx146_0
            try clear hx147_0
            try clear p146
            try clear p147
            try clear p2
            try clear q146
            try clear q147
            obtain ⟨kq, x26_3, rfl, HA, HJ3, ⟨mc3, rfl⟩⟩ := hcut
            cases kq with
            | zero => exact absurd HA.out (by simp [wringerref7_MayLens.j1])
            | succ kj3 =>
              have H := HA.out
              clear HA
              simp only [wringerref7_MayLens.j1] at H
              by_cases c7 : x26_3 = true
              · subst c7
                have H1 : (some false) = some r := by rw [if_pos rfl] at H; exact H
                clear H
                have H := H1
                clear H1
                obtain rfl := Option.some.inj H
                go_wp2
                go_ret
                exact ⟨by first | rfl | (simp; done) | (simp [*]; done), by repeat (first | exact Drawn0.refl _ | apply Drawn0.step)⟩
              · replace c7 := Bool.eq_false_iff.mpr c7
                subst c7
                have H1 : (if 0 ≤ x5_1 then (if x5_1 < (l0.length : Int) then (if (rd l0 x5_1) > 0 then (if 0 ≤ (wrap64 (15 - (rd l0 x5_1))) then (wringerref7_MayLens.l0 kj3 l0 (wrap64 (x3_1 + (shl .i64 1 (wrap64 (15 - (rd l0 x5_1)))))) (wrap64 (x4_1 + 1)) (wrap64 (x5_1 + 1))) else (none)) else (wringerref7_MayLens.l0 kj3 l0 x3_1 x4_1 (wrap64 (x5_1 + 1)))) else (none)) else (none)) = some r := by rw [if_neg (show ¬ (false = true) by decide)] at H; exact H
                clear H
                have H := H1
                clear H1
                by_cases c8 : 0 ≤ x5_1
                · rw [if_pos c8] at H
                  have c8b0 : decide (0 ≤ x5_1) = true := decide_eq_true c8
                  clear c8
                  by_cases c9 : x5_1 < (l0.length : Int)
                  · rw [if_pos c9] at H
                    have c9b0 : decide (x5_1 < (l0.length : Int)) = true := decide_eq_true c9
                    clear c9
                    by_cases c10 : (rd l0 x5_1) > 0
                    · rw [if_pos c10] at H
                      have c10b0 : decide (0 < (rd l0 x5_1)) = true := decide_eq_true c10
                      clear c10
                      obtain ⟨ji11, hji11⟩ : ∃ j_ : Int, (wrap64 (15 - (rd l0 x5_1))) = j_ := ⟨_, rfl⟩
                      replace H : (if 0 ≤ (ji11) then (wringerref7_MayLens.l0 kj3 l0 (wrap64 (x3_1 + (shl .i64 1 (ji11)))) (wrap64 (x4_1 + 1)) (wrap64 (x5_1 + 1))) else (none)) = some r := by first | (rw [hji11] at H; exact H) | (simp only [hji11] at H ⊢; exact H)
                      have hji11w : (IntKind.i64.wrap (15 - (rd l0 x5_1))) = ji11 := (i64_w _).trans hji11
                      by_cases c12 : 0 ≤ (ji11)
                      · rw [if_pos c12] at H
                        have c12b0 := eq_true c12
                        have c12b1 : decide (0 ≤ (ji11)) = true := decide_eq_true c12
                        clear c12
                        obtain ⟨ji13, hji13⟩ : ∃ j_ : Int, (shl .i64 1 (ji11)) = j_ := ⟨_, rfl⟩
                        replace H : (wringerref7_MayLens.l0 kj3 l0 (wrap64 (x3_1 + (ji13))) (wrap64 (x4_1 + 1)) (wrap64 (x5_1 + 1))) = some r := by first | (rw [hji13] at H; exact H) | (simp only [hji13] at H ⊢; exact H)
                        have hji13_ : (IntKind.i64.wrap (1 * 2 ^ min (ji11).toNat 64)) = ji13 := hji13
                        have hji13z : (ji11) ≤ 64 → (IntKind.i64.wrap (1 * 2 ^ (ji11).toNat)) = ji13 := shl_small hji13
                        have hji13u : (IntKind.i64.wrap (2 ^ min (ji11).toNat 64)) = ji13 := by have h_ := hji13_; rw [Int.one_mul] at h_; exact h_
                        have hji13v : (ji11) ≤ 64 → (IntKind.i64.wrap (2 ^ (ji11).toNat)) = ji13 := fun hle_ => by have h_ := hji13z hle_; rw [Int.one_mul] at h_; exact h_
                        have hji13y : (wrap64 (1 * 2 ^ min (ji11).toNat 64)) = ji13 := (i64_w _).symm.trans hji13_
                        have hji13x : (ji11) ≤ 64 → (wrap64 (1 * 2 ^ (ji11).toNat)) = ji13 := fun h_ => (i64_w _).symm.trans (hji13z h_)
                        have H' := Aside0.mk H
                        clear H
                        have p148 : 0 ≤ (x5_1 : Int) := of_decide_eq_true (by first | (with_reducible assumption) | assumption)
                        have q148 : x5_1 < (l0.length : Int) := of_decide_eq_true (by first | (with_reducible assumption) | assumption)
                        obtain ⟨ad148, e148, hx148_0⟩ := Kd.at_int HR0.out x5_1 p148 q148
                        cases e148
                        replace p148 := eq_true p148
                        replace q148 := eq_true q148
                        have p149 : 0 ≤ (x5_1 : Int) := of_decide_eq_true (by first | (with_reducible assumption) | assumption)
                        have q149 : x5_1 < (l0.length : Int) := of_decide_eq_true (by first | (with_reducible assumption) | assumption)
                        obtain ⟨ad149, e149, hx149_0⟩ := Kd.at_int HR0.out x5_1 p149 q149
                        obtain rfl : ad148 = ad149 := (by injection e149)
                        replace p149 := eq_true p149
                        replace q149 := eq_true q149
                        go_wp2
                        go_roundg kj3
                        case measure => have := HK1.out; have := HJ3.out; omega
                        case rel => exact ⟨(wrap64 (x3_1 + (ji13))), (wrap64 (x4_1 + 1)), (wrap64 (x5_1 + 1)), (by first | rfl | (simp; done) | (simp only [← hji13] <;> (first | rfl | simp)) | (simp [*]; done)), (by first | rfl | (simp; done) | (simp [*]; done)), (by first | rfl | (simp; done) | (simp [*]; done)), H', ⟨by have := HK1.out; have := HJ3.out; omega⟩, by repeat (first | exact Drawn0.refl _ | apply Drawn0.step)⟩
                      · rw [if_neg c12] at H
                        exact absurd H (by simp)
                    · rw [if_neg c10] at H
                      have c10b0 : decide (0 < (rd l0 x5_1)) = false := decide_eq_false c10
                      clear c10
                      have H' := Aside0.mk H
                      clear H
                      have p148 : 0 ≤ (x5_1 : Int) := of_decide_eq_true (by first | (with_reducible assumption) | assumption)
                      have q148 : x5_1 < (l0.length : Int) := of_decide_eq_true (by first | (with_reducible assumption) | assumption)
                      obtain ⟨ad148, e148, hx148_0⟩ := Kd.at_int HR0.out x5_1 p148 q148
                      cases e148
                      replace p148 := eq_true p148
                      replace q148 := eq_true q148
                      go_wp2
                      go_roundg kj3
                      case measure => have := HK1.out; have := HJ3.out; omega
                      case rel => exact ⟨(x3_1), (x4_1), (wrap64 (x5_1 + 1)), (by first | rfl | (simp; done) | (simp [*]; done)), (by first | rfl | (simp; done) | (simp [*]; done)), (by first | rfl | (simp; done) | (simp [*]; done)), H', ⟨by have := HK1.out; have := HJ3.out; omega⟩, by repeat (first | exact Drawn0.refl _ | apply Drawn0.step)⟩
                  · rw [if_neg c9] at H
                    exact absurd H (by simp)
                · rw [if_neg c8] at H
                  exact absurd H (by simp)
        · rw [if_neg c3] at H
          have c3b0 : decide (x5_1 < (l0.length : Int)) = false := decide_eq_false c3
          clear c3
          by_cases c14 : x4_1 = 0
          · rw [if_pos c14] at H
            have c14b0 : (x4_1 == 0) = true := beq_iff_eq.mpr c14
            have c14b1 : (x4_1 != 0) = false := bne_eq_false_iff_eq.mpr c14
            clear c14
            obtain rfl := Option.some.inj H
            go_wp2
            go_ret
            exact ⟨by first | rfl | (simp; done) | (simp [*]; done), by repeat (first | exact Drawn0.refl _ | apply Drawn0.step)⟩
          · rw [if_neg c14] at H
            have c14b0 : (x4_1 == 0) = false := beq_eq_false_iff_ne.mpr c14
            have c14b1 : (x4_1 != 0) = true := bne_iff_ne.mpr c14
            by_cases c15 : x3_1 = 32768
            · rw [if_pos c15] at H
              have c15b0 : (x3_1 == 32768) = true := beq_iff_eq.mpr c15
              have c15b1 : (x3_1 != 32768) = false := bne_eq_false_iff_eq.mpr c15
              clear c15
              obtain rfl := Option.some.inj H
              go_wp2
              go_ret
              exact ⟨by first | rfl | (simp; done) | (simp [*]; done), by repeat (first | exact Drawn0.refl _ | apply Drawn0.step)⟩
            · rw [if_neg c15] at H
              have c15b0 : (x3_1 == 32768) = false := beq_eq_false_iff_ne.mpr c15
              have c15b1 : (x3_1 != 32768) = true := bne_iff_ne.mpr c15
              by_cases c16 : x4_1 = 1
              · rw [if_pos c16] at H
                have c16b0 : (x4_1 == 1) = true := beq_iff_eq.mpr c16
                have c16b1 : (x4_1 != 1) = false := bne_eq_false_iff_eq.mpr c16
                clear c16
                obtain rfl := Option.some.inj H
                go_wp2
                go_ret
                exact ⟨by first | rfl | (simp; done) | (simp [*]; done), by repeat (first | exact Drawn0.refl _ | apply Drawn0.step)⟩
              · rw [if_neg c16] at H
                have c16b0 : (x4_1 == 1) = false := beq_eq_false_iff_ne.mpr c16
                have c16b1 : (x4_1 != 1) = true := bne_iff_ne.mpr c16
                obtain rfl := Option.some.inj H
                go_wp2
                go_ret
                exact ⟨by first | rfl | (simp; done) | (simp [*]; done), by repeat (first | exact Drawn0.refl _ | apply Drawn0.step)⟩
  · rw [if_neg c2] at H
    have c2b0 : ((l0.length : Int) == 65) = false := beq_eq_false_iff_ne.mpr c2
    have c2b1 : ((l0.length : Int) != 65) = true := bne_iff_ne.mpr c2
    obtain rfl := Option.some.inj H
    go_enter Try.func50, Try.ntmps50
    go_wp2
    go_ret
    exact ⟨by first | rfl | (simp; done) | (simp [*]; done), by repeat (first | exact Drawn0.refl _ | apply Drawn0.step)⟩

end Go.Proofs.Ytnakjencodicmaa.PA

-- ---- Ul
/- Which lengths may be: what both functions come to. -/
namespace Go.Proofs.Ytnakjencodicmaa.PA
set_option maxRecDepth 100000
set_option linter.unusedVariables false
set_option linter.unusedSimpArgs false
open Go.RowKit Go.Proofs.YtnakjencodicmaaW.PrintWords Go.Proofs.YtnakjencodicmaaW.PrintLast Go.Proofs.YtnakjencodicmaaW.PrintMore Dp

theorem dropG (l : List Int) (i : Nat) (h : i < l.length) : l.drop i = l.getD i 0 :: l.drop (i + 1) := by
  rw [List.drop_eq_getElem_cons h]; simp [List.getD_eq_getElem?_getD, h]
def finL (s m : Nat) : Prop := m = 0 ∨ s = 32768 ∨ (m = 1 ∧ s = 16384)
instance (s m : Nat) : Decidable (finL s m) := by unfold finL; infer_instance
def restL (l : List Int) (s m : Nat) : Bool := decide ((∀ n ∈ l, 0 ≤ n ∧ n ≤ 15) ∧ finL (s + ks l) (m + sm l))
theorem restL_nil (s m : Nat) : restL [] s m = decide (finL s m) := by unfold restL; simp [ks, sm]
theorem restL_bad (x : Int) (l : List Int) (s m : Nat) (h : x < 0 ∨ 15 < x) : restL (x :: l) s m = false := by
  unfold restL; rw [decide_eq_false_iff_not]; intro h2; have := h2.1 x (by simp); omega
theorem restL_zero (l : List Int) (s m : Nat) : restL (0 :: l) s m = restL l s m := by
  unfold restL ks sm
  congr 1
  simp
theorem restL_pos (x : Nat) (l : List Int) (s m : Nat) (h1 : 1 ≤ x) (h2 : x ≤ 15) : restL ((x : Int) :: l) s m = restL l (s + 2 ^ (15 - x)) (m + 1) := by
  unfold restL ks sm
  congr 1
  rw [List.map_cons, List.map_cons, List.sum_cons, List.sum_cons, if_pos (by omega), if_pos (by omega), Int.toNat_natCast, ← Nat.add_assoc, ← Nat.add_assoc]
  simp only [List.mem_cons, forall_eq_or_imp, eq_iff_iff]
  constructor
  · rintro ⟨⟨_, a⟩, b⟩; exact ⟨a, b⟩
  · rintro ⟨a, b⟩; exact ⟨⟨⟨by omega, by omega⟩, a⟩, b⟩
theorem mayL_eq (l : List Int) (h : l.length = 65) : mayL l = restL l 0 0 := by
  unfold mayL restL finL
  congr 1
  rw [Nat.zero_add, Nat.zero_add]
  simp [h]
theorem mayL_len (l : List Int) (h : l.length ≠ 65) : mayL l = false := by
  unfold mayL; rw [decide_eq_false_iff_not]; exact fun h2 => h h2.1
theorem pow15 (x : Nat) : 2 ^ (15 - x) ≤ 32768 := by
  have : 2 ^ (15 - x) ≤ 2 ^ 15 := Nat.pow_le_pow_right (by decide) (by omega)
  omega
theorem finI (s m : Nat) : (if (m : Int) = 0 then some true else (if (s : Int) = 32768 then some true else (if (m : Int) = 1 then some ((s : Int) == 16384) else some false))) = some (decide (finL s m)) := by
  by_cases h0 : m = 0
  · rw [if_pos (by omega), decide_eq_true (.inl h0)]
  · rw [if_neg (by omega)]
    by_cases h1 : s = 32768
    · rw [if_pos (by omega), decide_eq_true (.inr (.inl h1))]
    · rw [if_neg (by omega)]
      by_cases h2 : m = 1
      · rw [if_pos (by omega)]
        congr 1
        rw [Bool.eq_iff_iff, beq_iff_eq, decide_eq_true_eq]
        unfold finL
        omega
      · rw [if_neg (by omega), decide_eq_false (by unfold finL; omega)]

theorem may_l0 (l : List Int) (hl : l.length ≤ 65) : ∀ (d i s m : Nat), i + d = l.length → s ≤ 32768 * i → m ≤ i →
    Ev (fun k => canon_May.l0 k (s : Int) (m : Int) l (l.length : Int) (i : Int)) (restL (l.drop i) s m) := by
  intro d
  induction d with
  | zero =>
    intro i s m hi hs hm
    refine Ev.step (f := fun _ => some (decide (finL s m))) (fun k => by simp only [canon_May.l0]; rw [if_neg (by omega), finI]) (Ev.ofSome ?_)
    rw [List.drop_eq_nil_of_le (by omega), restL_nil]
  | succ d ih =>
    intro i s m hi hs hm
    have hil : i < l.length := by omega
    rw [dropG l i hil]
    generalize hy : l.getD i 0 = y
    have step : Ev (fun k => canon_May.l0 k (s : Int) (m : Int) l (l.length : Int) (i : Int)) (restL (y :: l.drop (i + 1)) s m) ↔ True := by
      refine iff_true_intro ?_
      by_cases hb : y < 0 ∨ 15 < y
      · refine Ev.step (f := fun k => canon_May.j1 k (s : Int) (m : Int) y l (l.length : Int) (i : Int) true) (fun k => ?_) (Ev.step (f := fun _ => some false) (fun k => by simp only [canon_May.j1]; rfl) (Ev.ofSome ?_))
        · simp only [canon_May.l0]
          rw [if_pos (by omega), if_pos (by omega), if_pos (by omega), rd_nat, hy]
          by_cases h0 : y < 0
          · rw [if_pos h0]
          · rw [if_neg h0, decide_eq_true (by omega)]
        · rw [restL_bad _ _ _ _ hb]
      · refine Ev.step (f := fun k => canon_May.j1 k (s : Int) (m : Int) y l (l.length : Int) (i : Int) false) (fun k => ?_) ?_
        · simp only [canon_May.l0]
          rw [if_pos (by omega), if_pos (by omega), if_pos (by omega), rd_nat, hy, if_neg (by omega), decide_eq_false (by omega)]
        · obtain ⟨x, rfl⟩ := Int.eq_ofNat_of_zero_le (show 0 ≤ y by omega)
          by_cases hx : x = 0
          · subst hx
            refine evq (restL_zero _ _ _).symm (Ev.step (f := fun k => canon_May.l0 k (s : Int) (m : Int) l (l.length : Int) ((i + 1 : Nat) : Int)) (fun k => ?_) (ih (i + 1) s m (by omega) (by omega) (by omega)))
            simp only [canon_May.j1]
            rw [if_neg (by simp), if_neg (by simp), w64 (by omega) (by omega)]; rfl
          · have hp := pow15 x
            refine evq (restL_pos x _ s m (by omega) (by omega)).symm (Ev.step (f := fun k => canon_May.l0 k ((s + 2 ^ (15 - x) : Nat) : Int) ((m + 1 : Nat) : Int) l (l.length : Int) ((i + 1 : Nat) : Int)) (fun k => ?_) (ih (i + 1) (s + 2 ^ (15 - x)) (m + 1) (by omega) (by omega) (by omega)))
            simp only [canon_May.j1]
            rw [if_neg (by simp), if_pos (by omega), w64 (x := 15 - (x : Int)) (by omega) (by omega), if_pos (by omega), show (15 - (x : Int)) = ((15 - x : Nat) : Int) by omega, shl_1 (15 - x) (by omega)]
            generalize 2 ^ (15 - x) = P at hp
            rw [w64 (by omega) (by omega), w64 (by omega) (by omega), w64 (by omega) (by omega)]; rfl
    exact step.2 trivial

theorem may_is (l : List Int) : Ev (fun k => canon_May.f k l) (mayL l) := by
  unfold canon_May.f
  by_cases h : l.length = 65
  · refine Ev.ite_pos (by omega) ?_
    have := may_l0 l (by omega) l.length 0 0 0 (by omega) (by omega) (by omega)
    rw [List.drop_zero] at this
    rw [mayL_eq l h]
    exact this
  · refine Ev.ite_neg (by omega) (Ev.ofSome (mayL_len l h).symm)

theorem rmay_l0 (l : List Int) (hl : l.length ≤ 65) : ∀ (d i s m : Nat), i + d = l.length → s ≤ 32768 * i → m ≤ i →
    Ev (fun k => wringerref7_MayLens.l0 k l (s : Int) (m : Int) (i : Int)) (restL (l.drop i) s m) := by
  intro d
  induction d with
  | zero =>
    intro i s m hi hs hm
    refine Ev.step (f := fun _ => some (decide (finL s m))) (fun k => by simp only [wringerref7_MayLens.l0]; rw [if_neg (by omega), finI]) (Ev.ofSome ?_)
    rw [List.drop_eq_nil_of_le (by omega), restL_nil]
  | succ d ih =>
    intro i s m hi hs hm
    have hil : i < l.length := by omega
    rw [dropG l i hil]
    generalize hy : l.getD i 0 = y
    by_cases hb : y < 0 ∨ 15 < y
    · refine Ev.step (f := fun k => wringerref7_MayLens.j1 k l (s : Int) (m : Int) (i : Int) true) (fun k => ?_) (Ev.step (f := fun _ => some false) (fun k => by simp only [wringerref7_MayLens.j1]; rfl) (Ev.ofSome ?_))
      · simp only [wringerref7_MayLens.l0]
        rw [if_pos (by omega), if_pos (by omega), rd_nat, hy]
        by_cases h0 : y < 0
        · rw [if_pos h0]
        · rw [if_neg h0, decide_eq_true (by omega)]
      · rw [restL_bad _ _ _ _ hb]
    · refine Ev.step (f := fun k => wringerref7_MayLens.j1 k l (s : Int) (m : Int) (i : Int) false) (fun k => ?_) ?_
      · simp only [wringerref7_MayLens.l0]
        rw [if_pos (by omega), if_pos (by omega), rd_nat, hy, if_neg (by omega), decide_eq_false (by omega)]
      · obtain ⟨x, rfl⟩ := Int.eq_ofNat_of_zero_le (show 0 ≤ y by omega)
        by_cases hx : x = 0
        · subst hx
          refine evq (restL_zero _ _ _).symm (Ev.step (f := fun k => wringerref7_MayLens.l0 k l (s : Int) (m : Int) ((i + 1 : Nat) : Int)) (fun k => ?_) (ih (i + 1) s m (by omega) (by omega) (by omega)))
          simp only [wringerref7_MayLens.j1]
          rw [if_neg (by simp), if_pos (by omega), if_pos (by omega), rd_nat, hy, if_neg (by simp), w64 (by omega) (by omega)]; rfl
        · have hp := pow15 x
          refine evq (restL_pos x _ s m (by omega) (by omega)).symm (Ev.step (f := fun k => wringerref7_MayLens.l0 k l ((s + 2 ^ (15 - x) : Nat) : Int) ((m + 1 : Nat) : Int) ((i + 1 : Nat) : Int)) (fun k => ?_) (ih (i + 1) (s + 2 ^ (15 - x)) (m + 1) (by omega) (by omega) (by omega)))
          simp only [wringerref7_MayLens.j1]
          rw [if_neg (by simp), if_pos (by omega), if_pos (by omega), rd_nat, hy, if_pos (by omega), w64 (x := 15 - (x : Int)) (by omega) (by omega), if_pos (by omega), show (15 - (x : Int)) = ((15 - x : Nat) : Int) by omega, shl_1 (15 - x) (by omega)]
          generalize 2 ^ (15 - x) = P at hp
          rw [w64 (by omega) (by omega), w64 (by omega) (by omega), w64 (by omega) (by omega)]; rfl
theorem rmay_is (l : List Int) : Ev (fun k => wringerref7_MayLens.f k l) (mayL l) := by
  unfold wringerref7_MayLens.f
  by_cases h : l.length = 65
  · refine Ev.ite_pos (by omega) ?_
    have := rmay_l0 l (by omega) l.length 0 0 0 (by omega) (by omega) (by omega)
    rw [List.drop_zero] at this
    rw [mayL_eq l h]
    exact this
  · refine Ev.ite_neg (by omega) (Ev.ofSome (mayL_len l h).symm)
end Go.Proofs.Ytnakjencodicmaa.PA

-- ---- Ce
/- canon.Codes: what the call answers. Conditions: the list reads as the argument does. -/
namespace Go.Proofs.Ytnakjencodicmaa.CanonH
set_option maxRecDepth 100000
open Go.RowKit Go.Proofs.YtnakjencodicmaaW.PrintWords Go.Proofs.YtnakjencodicmaaW.PrintLast Go.Proofs.YtnakjencodicmaaW.PrintMore
open Mix _root_.Go.Proofs.Ytnakjencodicmaa.Own Ol Hp Cd Dp
set_option linter.unusedVariables false
set_option linter.unusedSimpArgs false
attribute [local go_sem] Own.max_int Own.min_int

theorem infoC : (Try.prog.info? 69).map (fun i => (i.zero, i.size, i.bytes)) = some (some (.agg #[.int .i64 0, .int .i64 0]), 2, 16) := by kernel_rfl
theorem made65 : (madeCells #[Value.int .i64 0, .int .i64 0] 130).toList = fl (List.replicate 65 (0, 0)) := by kernel_rfl

/-- The heap's own memory lies behind B. -/
structure HpC (B : Nat) (wr : World) (p : Nat) (v : Value) (lh : List (Int × Int)) : Prop where
  hp : IsHp wr p v lh
  heap : Heap ltL lh lh.length
  newp : B ≤ p
  new : ∀ g, v.ownBlock = some g → B ≤ g
/-- What is told so far: the codes at g, the last one at q. -/
structure OutC (B : Nat) (wr : World) (g q : Nat) (out : List (Int × Int)) (lb ll : Int) : Prop where
  out : OwnK wr 69 2 (.slice (some ⟨g, 0, none⟩) 65 65) 65 (fl out)
  last : Blk wr q #[.int .i64 lb, .int .i64 ll] 69
  gB : B ≤ g
  qB : B ≤ q
  ne : g ≠ q
theorem putC {B : Nat} {w wd : World} {g q p : Nat} {v : Value} {l2 ou : List (Int × Int)} {lb ll : Int} (h : OutC B wd g q ou lb ll) (hs : HpC B wd p v l2) (hb : Below B w wd) (hz : B ≤ wd.heap.size) (k : Nat) (x y : Int) (hk : k < 65) (hl : ou.length = 65) :
    OutC B ((((wd.setCell ⟨q, 0, none⟩ (.int .i64 x)).setCell ⟨q, 1, none⟩ (.int .i64 y)).setCell ⟨g, k * 2, none⟩ (.int .i64 x)).setCell ⟨g, k * 2 + 1, none⟩ (.int .i64 y)) g q (ou.set k (x, y)) x y ∧
    HpC B ((((wd.setCell ⟨q, 0, none⟩ (.int .i64 x)).setCell ⟨q, 1, none⟩ (.int .i64 y)).setCell ⟨g, k * 2, none⟩ (.int .i64 x)).setCell ⟨g, k * 2 + 1, none⟩ (.int .i64 y)) p v l2 ∧
    Below B w ((((wd.setCell ⟨q, 0, none⟩ (.int .i64 x)).setCell ⟨q, 1, none⟩ (.int .i64 y)).setCell ⟨g, k * 2, none⟩ (.int .i64 x)).setCell ⟨g, k * 2 + 1, none⟩ (.int .i64 y)) ∧
    B ≤ ((((wd.setCell ⟨q, 0, none⟩ (.int .i64 x)).setCell ⟨q, 1, none⟩ (.int .i64 y)).setCell ⟨g, k * 2, none⟩ (.int .i64 x)).setCell ⟨g, k * 2 + 1, none⟩ (.int .i64 y)).heap.size := by
  have hc : Chg (fun b => b = q ∨ b = g) wd ((((wd.setCell ⟨q, 0, none⟩ (.int .i64 x)).setCell ⟨q, 1, none⟩ (.int .i64 y)).setCell ⟨g, k * 2, none⟩ (.int .i64 x)).setCell ⟨g, k * 2 + 1, none⟩ (.int .i64 y)) :=
    ((((Chg.setCell wd ⟨q, 0, none⟩ (.int .i64 x)).mono (fun b _ h => .inl h)).trans (Chg.setCell _ ⟨q, 1, none⟩ (.int .i64 y)) (fun b _ h => .inl h)).trans (Chg.setCell _ ⟨g, k * 2, none⟩ (.int .i64 x)) (fun b _ h => .inr h)).trans (Chg.setCell _ ⟨g, k * 2 + 1, none⟩ (.int .i64 y)) (fun b _ h => .inr h)
  have hgq : (Value.slice (some ⟨g, 0, none⟩) 65 65).ownBlock ≠ some q := by simp [Value.ownBlock]; exact h.ne
  have hbb := hc.below hz (fun b hb e => by have h1 := h.qB; have h2 := h.gB; rcases e with e | e <;> omega)
  refine ⟨⟨?_, ?_, h.gB, h.qB, h.ne⟩, ⟨hs.hp.keep hc (fun e => ?_) (fun b hb e => ?_), hs.heap, hs.newp, hs.new⟩, hb.trans hbb, Nat.le_trans hz hbb.size⟩
  · rw [fl_set ou k (x, y) (by rw [hl]; exact hk)]
    exact (((h.out.setOther (a := ⟨q, 0, none⟩) hgq _).setOther (a := ⟨q, 1, none⟩) hgq _).store _ _).store _ _
  · have h1 := ((h.last.set 0 (.int .i64 x)).set 1 (.int .i64 y))
    exact (h1.setOther (a := ⟨g, k * 2, none⟩) (fun e => h.ne e.symm) _).setOther (a := ⟨g, k * 2 + 1, none⟩) (fun e => h.ne e.symm) _
  · rcases e with e | e
    · exact h.last.ne hs.hp.blk (by decide) e.symm
    · exact h.out.ne hs.hp.blk (by decide) (by rw [e]; rfl)
  · obtain ⟨cur, hgb⟩ := hs.hp.row.blk b hb
    rcases e with e | e
    · exact h.last.ne hgb (by decide) e.symm
    · exact h.out.ne hgb (by decide) (by rw [e]; rfl)

theorem setLast {B : Nat} {w wd : World} {g q p cc : Nat} {v : Value} {l2 ou : List (Int × Int)} {lb ll : Int} {cs : Array Value} (h : OutC B wd g q ou lb ll) (hs : HpC B wd p v l2) (hb : Below B w wd) (hz : B ≤ wd.heap.size) (y : Int) (hcl : Blk wd cc cs 106) :
    OutC B (wd.setCell ⟨q, 1, none⟩ (.int .i64 y)) g q ou lb y ∧ HpC B (wd.setCell ⟨q, 1, none⟩ (.int .i64 y)) p v l2 ∧ Below B w (wd.setCell ⟨q, 1, none⟩ (.int .i64 y)) ∧ B ≤ (wd.setCell ⟨q, 1, none⟩ (.int .i64 y)).heap.size ∧ Blk (wd.setCell ⟨q, 1, none⟩ (.int .i64 y)) cc cs 106 := by
  have hc := Chg.setCell wd ⟨q, 1, none⟩ (.int .i64 y)
  have hgq : (Value.slice (some ⟨g, 0, none⟩) 65 65).ownBlock ≠ some q := by simp [Value.ownBlock]; exact h.ne
  have hbb := hc.below hz (fun b hb e => by have h1 := h.qB; have h2 : b = q := e; omega)
  refine ⟨⟨h.out.setOther (a := ⟨q, 1, none⟩) hgq _, h.last.set 1 _, h.gB, h.qB, h.ne⟩, ⟨hs.hp.keep hc (fun e => ?_) (fun b hb e => ?_), hs.heap, hs.newp, hs.new⟩, hb.trans hbb, Nat.le_trans hz hbb.size, hc.keep hcl (fun e => hcl.ne h.last (by decide) e)⟩
  · exact h.last.ne hs.hp.blk (by decide) (Eq.symm e)
  · obtain ⟨cur, hgb⟩ := hs.hp.row.blk b hb
    exact h.last.ne hgb (by decide) (Eq.symm e)

def lenOf : Value → Nat
  | .slice _ n _ => n
  | _ => 0

set_option maxHeartbeats 4000000 in
theorem codes_bad (A0 : Option Addr) (c0 : Nat) (l : List Int) (w : World) (hr0 : Kd.C (Kd.int .i64) w A0 l.length l) (hc0 : l.length ≤ c0) (hm : mayL l = false) :
    Calls Try.prog 22 #[.slice A0 l.length c0] w fun e w' => e = .returned (.tuple #[.slice none 0 0, .int .i64 3]) ∧ Below w.heap.size w w' := by
  obtain ⟨k, hk⟩ := (PA.may_is l).rounds
  have hcm := PA.canon_May.calls k A0 c0 l _ w hr0 hc0 hk
  rw [hm] at hcm
  obtain ⟨n0, hn0⟩ : ∃ n0, n0 = l.length := ⟨_, rfl⟩
  rw [← hn0] at hcm ⊢
  have HM := kept hcm
  clear hr0 hc0 hk hcm hm hn0
  go_enter Try.func22, Try.ntmps22
  go_wp2_with (first | (go_at_call 43; refine HM.out.mono ?_; rintro e w1 ⟨rfl, ⟨⟨nd, rfl⟩⟩⟩))
  go_ret2
  exact ⟨rfl, pw_below_drewN (Below.refl _ _) _⟩

set_option maxHeartbeats 4000000 in
theorem codes_ok (A0 : Option Addr) (c0 : Nat) (l : List Int) (w : World) (hr0 : Kd.C (Kd.int .i64) w A0 l.length l) (hc0 : l.length ≤ c0) (hm : mayL l = true) :
    Calls Try.prog 22 #[.slice A0 l.length c0] w fun e w' => ∃ v, e = .returned (.tuple #[v, .int .i64 0]) ∧ OwnK w' 69 2 v 65 (fl (codeL l)) ∧ (∀ g, v.ownBlock = some g → w.heap.size ≤ g) ∧ Below w.heap.size w w' := by
  obtain ⟨i0, hi, hz0, hz1, hz2⟩ := info_partsE infoC
  obtain ⟨k, hk⟩ := (PA.may_is l).rounds
  have hcm := PA.canon_May.calls k A0 c0 l _ w hr0 hc0 hk
  have hks := ks_le hm
  rw [hm] at hcm
  have hm2 := hm
  unfold mayL at hm2
  rw [decide_eq_true_eq] at hm2
  obtain ⟨h65, hrg, _⟩ := hm2
  have hR := Own.rd_of_C hr0
  have hta := assertE
  obtain ⟨B, hB⟩ : ∃ B, B = w.heap.size := ⟨_, rfl⟩
  rw [h65] at hcm hR ⊢
  rw [← hB]
  have HB := kept hB
  have HM := kept hcm
  have HR := kept hR
  have HL := kept h65
  have HRg := kept hrg
  have HKs := kept hks
  clear hB hcm hR h65 hrg hks hm hk hr0 hc0
  go_enter Try.func22, Try.ntmps22
  go_wp2_with (first | (go_at_call 43; refine HM.out.mono ?_; rintro e w1 ⟨rfl, ⟨⟨nd, rfl⟩⟩⟩))
  generalize hwx : w.drewN nd = wx
  have hBx : Below w.heap.size w wx := by rw [← hwx]; exact pw_below_drewN (Below.refl _ _) _
  have hsx : wx.heap.size = w.heap.size := by rw [← hwx]; simp
  clear hwx
  obtain ⟨p, hp⟩ : ∃ p, p = w.heap.size + 1 := ⟨_, rfl⟩
  rw [← hp]
  obtain ⟨g0, hg0⟩ : ∃ g0, g0 = w.heap.size := ⟨_, rfl⟩
  rw [← hg0]
  generalize hw0 : World.alloc (World.alloc wx _) _ = w0
  have e1 : (wx.alloc (.cells #[] 106)).heap.size = p := by rw [hp, ← hsx]; simp
  have hb0 : Below B w w0 := by
    rw [← hw0, HB.out]
    exact (hBx.alloc (by rw [hsx]; exact Nat.le_refl _) _).alloc (by rw [e1, hp]; omega) _
  have hS0 : HpC B w0 p (.slice (some ⟨g0, 0, none⟩) 0 0) [] := by
    refine ⟨⟨by rw [← hw0]; exact Blk.fresh_at _ p e1.symm _ _, rfl, .inr ⟨g0, 0, #[], rfl, Nat.zero_le _, ?_, Nat.le_refl _, by simp [maxLen], rfl, rfl⟩⟩, fun i _ h => absurd h (by simp), by rw [HB.out, hp]; omega, fun g hg => ?_⟩
    · rw [← hw0, hg0, ← hsx]; exact (Blk.fresh wx _ _).alloc _
    · simp [Value.ownBlock] at hg; rw [HB.out, ← hg, hg0]; exact Nat.le_refl _
  have HS0 := kept hS0
  have HB0 := kept hb0
  have HP := kept hp
  clear hS0 hp hw0 e1 hg0 hBx hsx hb0
  have hrange : ∀ i, i < 65 → 0 ≤ l.getD i 0 ∧ l.getD i 0 ≤ 15 := fun i hi => by
    have h2 : i < l.length := by rw [HL.out]; exact hi
    exact HRg.out _ (by simp [List.getD_eq_getElem?_getD, h2])
  have HRn := kept hrange
  clear hrange
  go_loopw [18] (fun s18 wr => ∃ (i : Nat) (v : Value) (lh : List (Int × Int)), i ≤ 65 ∧ s18 = .int .i64 (i : Int) ∧ HpC B wr p v lh ∧ Below B w wr ∧ B ≤ wr.heap.size ∧ lh.Perm ((posL l i).map (pr l))) (fun s18 _ => 65 - (intOf s18).toNat)
  case atStart => exact ⟨0, _, [], Nat.zero_le _, rfl, HS0.out, HB0.out, by have := HB0.out.size; rw [HB.out]; exact this, List.Perm.refl _⟩
  case round =>
    obtain ⟨i, v, lh, hi2, rfl, hs, hlow, hsz, hpm⟩ := hrel
    obtain ⟨wo, rfl⟩ : ∃ wo, wo = wr := ⟨wr, rfl⟩
    have hRd := HR.out.below hlow (by rw [HB.out]; exact HR.out.lt)
    by_cases hlt : i < 65
    · have hil : i < l.length := by rw [HL.out]; exact hlt
      obtain ⟨x, rfl, hc⟩ := hRd.at (Own.ints_at .i64 l i hil)
      have hy15 := HRn.out i hlt
      obtain ⟨y, hy⟩ : ∃ y, y = l.getD i 0 := ⟨_, rfl⟩
      rw [← hy] at hc hy15
      obtain ⟨hy0, hy1⟩ := hy15
      have hlen : lh.length ≤ i := by have := hpm.length_eq; rw [List.length_map] at this; have := length_posL l i; omega
      have HS := kept hs
      have HLow := kept hlow
      have HSz := kept hsz
      have HPm := kept hpm
      have HY := kept hy
      clear hRd hs hpm hy hlow hsz
      by_cases hpos : 0 < y
      · have p0 : ¬ y ≤ 0 := by omega
        have HPush := kept (hpush_calls p v lh (i : Int) y wo HS.out.hp (by omega) HS.out.heap)
        go_wp2_with fail
        refine HPush.out.mono ?_
        rintro e w1 ⟨rfl, v1, l1, h1, hh1, hp1, hc1, hf1⟩
        have hb1 : Below B wo w1 := hc1.below HSz.out (fun k hk h => by
          rcases h with h | h
          · have := HS.out.newp; omega
          · have := HS.out.new k h.symm; omega)
        have HS1 : Kept (HpC B w1 p v1 l1 ∧ Below B w w1 ∧ B ≤ w1.heap.size) := kept ⟨⟨h1, hh1, HS.out.newp, fun g hg => (hf1 g hg).elim (fun h => HS.out.new g h.symm) (fun h => Nat.le_trans HSz.out h)⟩, HLow.out.trans hb1, Nat.le_trans HSz.out hb1.size⟩
        have HPm1 : Kept (l1.Perm ((posL l (i + 1)).map (pr l))) := kept (by
          rw [posL_succ, if_pos (by rw [← HY.out]; exact hpos), List.map_append]
          refine hp1.trans (HPm.out.append ?_)
          simp only [List.map_cons, List.map_nil, pr]; rw [← HY.out])
        clear h1 hh1 hp1 hc1 hf1 hb1
        go_wp2_with fail
        go_roundw
        case rel => exact ⟨i + 1, v1, l1, by omega, by go_num, HS1.out.1, HS1.out.2.1, HS1.out.2.2, HPm1.out⟩
        case measure => simp [intOf]; omega
      · have p0 : y ≤ 0 := by omega
        have HPm1 : Kept (lh.Perm ((posL l (i + 1)).map (pr l))) := kept (by
          rw [posL_succ, if_neg (by rw [← HY.out]; exact hpos), List.append_nil]; exact HPm.out)
        go_wp2_with fail
        go_roundw
        case rel => exact ⟨i + 1, v, lh, by omega, by go_num, HS.out, HLow.out, HSz.out, HPm1.out⟩
        case measure => simp [intOf]; omega
    · have hin : i = 65 := by omega
      subst hin
      have hx15 : ∀ x ∈ l, x ≤ 15 := fun x hx => (HRg.out x hx).2
      have HS := kept hs
      have HLow := kept hlow
      have HSz := kept hsz
      have HX := kept hx15
      have HPm : Kept (lh.Perm ((ordS l).map (pr l))) := kept (hpm.trans (by rw [← HL.out]; exact ((perm_ordS l hx15).map _).symm))
      clear hs hpm hRd hlow hsz hx15 hlt
      go_wp2_with (first | (refine wpList_make_full _ rfl _ _ 61 rfl 0 69 i0 (.agg #[.int .i64 0, .int .i64 0]) 2 Try.underlying61 hi hz0 hz1 .i64 .i64 _ _ 65 rfl rfl rfl rfl (by rw [hz2]; decide) (by decide) (Nat.zero_le _) ?_))
      intro w2 hown hgr
      rw [made65] at hown
      obtain ⟨g, hg⟩ : ∃ g, g = wo.heap.size := ⟨_, rfl⟩
      rw [← hg] at hown ⊢
      have hb2 : Below wo.heap.size wo w2 := ⟨hgr.os, hgr.tape, hgr.output, hgr.size, fun k hk => hgr.block k hk (by simp)⟩
      have hgl : g < w2.heap.size := OwnK.lt hown g rfl
      have hout : OwnK w2 69 2 (.slice (some ⟨g, 0, none⟩) 65 65) 65 (fl (List.replicate 65 (0, 0))) := hown
      have HS2 : Kept (HpC B w2 p v lh ∧ Below B w w2 ∧ B ≤ w2.heap.size) := kept ⟨⟨HS.out.hp.later hb2, HS.out.heap, HS.out.newp, HS.out.new⟩, HLow.out.trans (hb2.mono HSz.out), Nat.le_trans HSz.out hb2.size⟩
      have hgB : B ≤ g := by rw [hg]; exact HSz.out
      have HO2 := kept hout
      have HGl := kept hgl
      have HGB := kept hgB
      clear hown hgr hb2 hg hout hgl hgB HS HLow HSz HS0 HB0
      obtain ⟨q, hq⟩ : ∃ q, q = w2.heap.size := ⟨_, rfl⟩
      obtain ⟨w3, hw3⟩ : ∃ w3, w3 = w2.alloc (.cells #[.int .i64 (-1), .int .i64 0] 69) := ⟨_, rfl⟩
      have hb3 : Below w2.heap.size w2 w3 := by rw [hw3]; exact (Below.refl _ _).alloc (Nat.le_refl _) _
      have HS3 : Kept (HpC B w3 p v lh ∧ Below B w w3 ∧ B ≤ w3.heap.size) := kept ⟨⟨HS2.out.1.hp.later hb3, HS2.out.1.heap, HS2.out.1.newp, HS2.out.1.new⟩, HS2.out.2.1.trans (hb3.mono HS2.out.2.2), Nat.le_trans HS2.out.2.2 hb3.size⟩
      have HO3 : Kept (OutC B w3 g q (List.replicate 65 (0, 0)) (-1) 0) := kept ⟨HO2.out.later hb3, by rw [hw3, hq]; exact Blk.fresh _ _ _, HGB.out, by rw [hq]; exact HS2.out.2.2, by have := HGl.out; omega⟩
      clear hb3 HS2 HO2
      go_wp2_with fail
      rw [← hq, ← hw3]
      clear hw3 hq
      go_loopw [10] (fun s10 wq => ∃ (done rest : List Nat) (v1 : Value) (l1 : List (Int × Int)) (lb : Int), ordS l = done ++ rest ∧ HpC B wq p v1 l1 ∧ Below B w wq ∧ B ≤ wq.heap.size ∧ (rest.map (pr l)).Perm l1 ∧ OutC B wq g q (cst l done).1 lb ((cst l done).2.2 : Int) ∧ ((cst l done).2.2 = 0 ∧ lb = -1 ∨ 1 ≤ (cst l done).2.2 ∧ lb = ((cst l done).2.1 : Int)) ∧ l1.length = rest.length)
        (fun s10 wq => match wq.cell? ⟨p, 0, none⟩ with | some v => lenOf v | none => 0)
      case atStart => exact ⟨[], ordS l, v, lh, -1, rfl, HS3.out.1, HS3.out.2.1, HS3.out.2.2, HPm.out.symm, HO3.out, .inl ⟨rfl, rfl⟩, by have := HPm.out.length_eq; rwa [List.length_map] at this⟩
      case round =>
        obtain ⟨done, rest, v1, l1, lb, ho, hs, hlow, hsz, hpm, hout, hlb, hlen⟩ := hrel
        obtain ⟨wq, rfl⟩ : ∃ wq, wq = wr := ⟨wr, rfl⟩
        have hlen2 : done.length + rest.length ≤ 65 := by
          have := length_ordS l HX.out
          rw [ho, List.length_append, HL.out] at this; exact this
        cases rest with
        | nil =>
          have hnil : l1 = [] := List.length_eq_zero_iff.1 (by simpa using hlen)
          subst hnil
          obtain ⟨av, cv, rfl, _⟩ := hs.hp.row.slice
          simp only [List.length_nil] at hs ⊢
          have c0 : wq.cell? ⟨p, 0, none⟩ = some (.slice av 0 cv) := hs.hp.blk.cell rfl
          have hfin : (cst l done).1 = codeL l := by unfold codeL; rw [ho, List.append_nil]
          rw [hfin] at hout
          have HF := kept hout
          have HLow := kept hlow
          have HSz := kept hsz
          clear hs hpm ho hlen hlen2 hout hlb hfin hlow hsz HS3 HO3
          go_wp2_with (first | (go_at_call 45; refine (hlen_calls _ _ _ _).mono ?_; rintro e w1 ⟨rfl, hbl⟩; have HF1 := kept (HF.out.out.later hbl); have HL1 := kept (HLow.out.trans (hbl.mono HSz.out)); clear hbl))
          go_ret2
          exact ⟨_, rfl, HF1.out, fun b hb => by simp [Value.ownBlock] at hb; rw [← hb]; exact HF.out.gB, HL1.out⟩
        | cons k rest =>
          simp only [List.length_cons] at hlen hlen2
          obtain ⟨gh, cap, rfl, hnc, hcm, hgp, hgl⟩ := hs.hp.row0 (by omega)
          simp only [hlen] at hs hnc ⊢
          have c0 : wq.cell? ⟨p, 0, none⟩ = some (.slice (some ⟨gh, 0, none⟩) (rest.length + 1) cap) := hs.hp.blk.cell rfl
          have HC0 := kept c0
          have hx : ∃ rest' : List (Int × Int), ((k :: rest).map (pr l)) = at_ l1 0 :: rest' ∧ ∀ l', l1.Perm (at_ l1 0 :: l') → (∀ y ∈ l', ltL y (at_ l1 0) = false) → rest'.Perm l' := by
            have hs1 : ((k :: rest).map (pr l)).Pairwise fun a b => ltL b a = false := by
              have := pairs_ordS l
              rw [ho, List.map_append] at this
              exact (List.pairwise_append.1 this).2.1
            have hat : ∀ y ∈ l1, ltL y (at_ l1 0) = false := by
              intro y hy
              obtain ⟨j, hj, rfl⟩ := List.mem_iff_getElem.1 hy
              rw [← at_lt l1 j hj]
              exact heap_min oL hs.heap j hj
            have hmem : at_ l1 0 ∈ l1 := by rw [at_lt l1 0 (by omega)]; exact List.getElem_mem _
            obtain ⟨l1', hl1'⟩ : ∃ l', l1.Perm (at_ l1 0 :: l') := ⟨l1.erase (at_ l1 0), List.perm_cons_erase hmem⟩
            obtain ⟨r', hr1, hr2⟩ := pop_head oL hs1 (hpm.trans hl1') (fun y hy => hat y (hl1'.mem_iff.2 (List.mem_cons_of_mem _ hy)))
            exact ⟨r', hr1, fun l' hp _ => hr2.trans ((List.perm_cons _).1 (hl1'.symm.trans hp))⟩
          obtain ⟨rest', hx1, hx2⟩ := hx
          simp only [List.map_cons, List.cons.injEq] at hx1
          obtain ⟨hk, rfl⟩ := hx1
          have hpos : (0 : Int) < ((rest.length + 1 : Nat) : Int) := by omega
          have HPop := kept (fun (w1 : World) (hb : Below wq.heap.size wq w1) => hpop_calls p gh rest.length cap l1 w1 (hs.hp.later hb) hlen (by omega) (by rw [← hlen]; exact hs.heap))
          -- the code that comes
          have hkm : k ∈ ordS l := by rw [ho]; simp
          obtain ⟨hkl, hk1, hk15⟩ := mem_ordS.1 hkm
          obtain ⟨n, hn⟩ : ∃ n : Nat, l.getD k 0 = (n : Int) := ⟨(l.getD k 0).toNat, by omega⟩
          have hso := sorted_ordS l
          rw [ho] at hso
          have hso2 := List.pairwise_append.1 hso
          have hdn : ∀ a ∈ done, l.getD a 0 ≤ (n : Int) := fun a ha => by have := hso2.2.2 a ha k (by simp); omega
          have hdm : ∀ a ∈ done, 1 ≤ l.getD a 0 ∧ l.getD a 0 ≤ 15 := fun a ha => (mem_ordS.1 (by rw [ho]; exact List.mem_append_left _ ha)).2
          have hinv := cst_inv l done (hso2.1.imp fun {a b} h => by omega) hdm
          have hle := hinv.2 (n : Int) hdn
          have hinv2 := inv_nx (n := n) hinv.1 (by omega) (by omega) (by omega)
          have hkd : kd l done + 2 ^ (15 - n) ≤ 32768 := by
            have h := kd_all l HX.out
            have h2 := HKs.out
            rw [← h, ho, kd_append] at h2
            have h3 : kd l (k :: rest) = 2 ^ (15 - n) + kd l rest := by unfold kd; rw [List.map_cons, List.sum_cons, hn, Int.toNat_natCast]
            omega
          have hnx : cst l (done ++ [k]) = ((cst l done).1.set k (((nx (cst l done).2 n).1 : Int), ((nx (cst l done).2 n).2 : Int)), nx (cst l done).2 n) := by
            rw [cst_snoc]; unfold cstep; rw [hn, Int.toNat_natCast]
          obtain ⟨st, hst⟩ : ∃ st, st = (cst l done).2 := ⟨_, rfl⟩
          obtain ⟨ou, hou⟩ : ∃ ou, ou = (cst l done).1 := ⟨_, rfl⟩
          have houl : ou.length = 65 := by rw [hou]; exact length_cst l done
          rw [← hst, ← hou] at hout hnx
          rw [← hst] at hlb hle hinv2
          have hn2 : (nx st n).2 = n := by unfold nx; split <;> rfl
          have hb15 : (nx st n).1 + 1 ≤ 32768 := by
            rcases hinv2 with ⟨h0, _⟩ | ⟨_, _, h2⟩
            · omega
            · have h3 : 1 ≤ 2 ^ (15 - (nx st n).2) := Nat.pow_pos (by decide)
              have h4 : ((nx st n).1 + 1) * 1 ≤ ((nx st n).1 + 1) * 2 ^ (15 - (nx st n).2) := Nat.mul_le_mul_left _ h3
              omega
          have hk65 : k < 65 := by rw [← HL.out]; exact hkl
          have HX2 := kept hx2
          have HS := kept hs
          have HOut := kept hout
          have HO := kept ho
          have HK := kept hk
          have HLow := kept hlow
          have HSz := kept hsz
          have HNx := kept hnx
          have HN2 := kept hn2
          have HOl := kept houl
          have hax : ∃ ax ay, at_ l1 0 = (ax, ay) ∧ ax = (k : Int) ∧ ay = (n : Int) := ⟨(k : Int), l.getD k 0, HK.out.symm, rfl, hn⟩
          obtain ⟨ax, ay, hax, haxk, hayn⟩ := hax
          rw [hax] at HPop HX2
          simp only at HPop
          subst haxk hayn
          have hn1 : 1 ≤ n := by omega
          have hn15 : n ≤ 15 := by omega
          have hlen3 := hlen
          clear hs hpm hout ho hlen hx2 hk HPm hlow hsz hkm hkl hk1 hk15 hso hso2 hdn hdm hinv hinv2 hkd hnx hst hou houl hn2 hax hn HS3 HO3 hlen3
          go_wp2_with fail
          refine (hlen_calls _ _ _ _).mono ?_; rintro e w1 ⟨rfl, hbl⟩
          have HPop1 := kept (HPop.out w1 hbl)
          have HO1 : Kept (OutC B w1 g q ou lb (st.2 : Int)) := kept ⟨HOut.out.out.later hbl, (hbl.block q HOut.out.last.lt).trans HOut.out.last, HOut.out.gB, HOut.out.qB, HOut.out.ne⟩
          have HB1 := kept (HLow.out.trans (hbl.mono HSz.out))
          have HZ1 := kept (Nat.le_trans HSz.out hbl.size)
          clear hbl
          go_wp2_with fail
          refine HPop1.out.mono ?_
          rintro e w2 ⟨rfl, l2, h2, hl2, hh2, hp2, hm2, hc2⟩
          obtain ⟨curh, hgb⟩ := HS.out.hp.row.blk gh rfl
          have hgp1 : g ≠ p := fun e => HOut.out.out.ne HS.out.hp.blk (by decide) (by rw [← e]; rfl)
          have hgg1 : g ≠ gh := fun e => HOut.out.out.ne hgb (by decide) (by rw [← e]; rfl)
          have hqp1 : q ≠ p := HOut.out.last.ne HS.out.hp.blk (by decide)
          have hqg1 : q ≠ gh := HOut.out.last.ne hgb (by decide)
          have hb2 : Below B w1 w2 := hc2.below HZ1.out (fun b hb h => by
            rcases h with rfl | rfl
            · have := HS.out.newp; omega
            · have := HS.out.new b rfl; omega)
          have HO2 : Kept (OutC B w2 g q ou lb (st.2 : Int)) := kept ⟨HO1.out.out.chg hc2 (fun b hb h => by
              simp [Value.ownBlock] at hb; subst hb
              rcases h with h | h
              · exact hgp1 h
              · exact hgg1 h), hc2.keep HO1.out.last (fun h => by
              rcases h with h | h
              · exact hqp1 h
              · exact hqg1 h), HOut.out.gB, HOut.out.qB, HOut.out.ne⟩
          have HS2 : Kept (HpC B w2 p (.slice (some ⟨gh, 0, none⟩) rest.length cap) l2 ∧ Below B w w2 ∧ B ≤ w2.heap.size) := kept ⟨⟨h2, by rw [hl2]; exact hh2, HS.out.newp, fun b hb => HS.out.new b hb⟩, HB1.out.trans hb2, Nat.le_trans HZ1.out hb2.size⟩
          have HPm2 := kept (HX2.out l2 hp2 hm2)
          have HL2 := kept hl2
          clear h2 hl2 hh2 hp2 hm2 hc2 hb2 hgb hgp1 hgg1 hqp1 hqg1
          obtain ⟨cc, hcc⟩ : ∃ cc, cc = w2.heap.size := ⟨_, rfl⟩
          obtain ⟨w3, hw3⟩ : ∃ w3, w3 = w2.alloc (.cells #[.int .i64 (k : Int), .int .i64 (n : Int)] 106) := ⟨_, rfl⟩
          have hb3 : Below w2.heap.size w2 w3 := by rw [hw3]; exact (Below.refl _ _).alloc (Nat.le_refl _) _
          have HS3 : Kept (HpC B w3 p (.slice (some ⟨gh, 0, none⟩) rest.length cap) l2 ∧ Below B w w3 ∧ B ≤ w3.heap.size) := kept ⟨⟨HS2.out.1.hp.later hb3, HS2.out.1.heap, HS2.out.1.newp, HS2.out.1.new⟩, HS2.out.2.1.trans (hb3.mono HS2.out.2.2), Nat.le_trans HS2.out.2.2 hb3.size⟩
          have HO3 : Kept (OutC B w3 g q ou lb (st.2 : Int)) := kept ⟨HO2.out.out.later hb3, (hb3.block q HO2.out.last.lt).trans HO2.out.last, HOut.out.gB, HOut.out.qB, HOut.out.ne⟩
          have hcl : Blk w3 cc #[.int .i64 (k : Int), .int .i64 (n : Int)] 106 := by rw [hw3, hcc]; exact Blk.fresh _ _ _
          have hccq : cc ≠ q := fun e => (hcl.ne HO3.out.last (by decide)) e
          have k0 := hcl.cell (i := 0) rfl
          have k1 := hcl.cell (i := 1) rfl
          have q0 := HO3.out.last.cell (i := 0) rfl
          have q1 := HO3.out.last.cell (i := 1) rfl
          have fq0 := HO3.out.last.free 0
          have fq1 := HO3.out.last.free 1
          have HCl := kept hcl
          clear hb3 hcl HO1 HO2 HS2 HPop HPop1 HOut HS c0
          go_upto_if 48 with fail
          rw [← hcc, ← hw3]
          clear hw3 hcc hta
          rcases hlb with ⟨hst0, rfl⟩ | ⟨hst1, rfl⟩
          · have HX3 : Kept ((nx st n).1 = 0) := kept (by unfold nx; rw [if_pos hst0])
            rw [hst0] at q1 HO3
            rw [show (((0 : Nat)) : Int) = 0 from rfl] at q1 HO3
            obtain ⟨w4, hw4⟩ : ∃ w4, w4 = w3.setCell ⟨q, 1, none⟩ (.int .i64 (n : Int)) := ⟨_, rfl⟩
            have h4 := setLast HO3.out HS3.out.1 HS3.out.2.1 HS3.out.2.2 (n : Int) HCl.out
            rw [← hw4] at h4
            have HS4 : Kept (HpC B w4 p (.slice (some ⟨gh, 0, none⟩) rest.length cap) l2 ∧ Below B w w4 ∧ B ≤ w4.heap.size) := kept ⟨h4.2.1, h4.2.2.1, h4.2.2.2.1⟩
            have HO4 : Kept (OutC B w4 g q ou (-1) (n : Int)) := kept h4.1
            have HCl4 : Kept (Blk w4 cc #[.int .i64 (k : Int), .int .i64 (n : Int)] 106) := kept h4.2.2.2.2
            go_upto_region 17 with fail
            rw [← hw4]
            clear h4 hw4 hb15 HS3 HO3 HCl k0 k1 q0 q1 fq0 fq1
            have k0 := HCl4.out.cell (i := 0) rfl
            have k1 := HCl4.out.cell (i := 1) rfl
            have q0 := HO4.out.last.cell (i := 0) rfl
            have q1 := HO4.out.last.cell (i := 1) rfl
            have fq0 := HO4.out.last.free 0
            have fq1 := HO4.out.last.free 1
            have m0 := lat_cell k0
            have m1 := lat_cell k1
            have m2 := lat_cell q0
            have m3 := lat_cell q1
            refine wp_region_mixL [] [0,1,2,3,4,5,6,7,8,9,10] [11,12] (by kernel_rfl) (by kernel_rfl) ?_
            intro K hK
            simp only [pick, List.filterMap_cons, List.filterMap_nil, List.getElem?_cons_zero, List.getElem?_cons_succ]
            refine wpQuiet_nil ?_
            repeat (show wpQuiet _ _ _ _ (_ :: _) _; go_big_quiet_step (fail))
            refine wpQuiet_nil ?_
            show wpList _ _ _ [_, _] _ _
            generalize hwd : World.drew w4 = wd
            have hlat : Below w4.heap.size w4 wd := by rw [← hwd]; exact (Below.refl _ _).drew
            have HSd : Kept (HpC B wd p (.slice (some ⟨gh, 0, none⟩) rest.length cap) l2 ∧ Below B w wd ∧ B ≤ wd.heap.size) := kept ⟨⟨HS4.out.1.hp.later hlat, HS4.out.1.heap, HS4.out.1.newp, HS4.out.1.new⟩, HS4.out.2.1.trans (hlat.mono HS4.out.2.2), Nat.le_trans HS4.out.2.2 hlat.size⟩
            have HOd : Kept (OutC B wd g q ou (-1) (n : Int)) := kept ⟨HO4.out.out.later hlat, (hlat.block q HO4.out.last.lt).trans HO4.out.last, HO4.out.gB, HO4.out.qB, HO4.out.ne⟩
            have HCd : Kept (Blk wd cc #[.int .i64 (k : Int), .int .i64 (n : Int)] 106) := kept ((hlat.block cc HCl4.out.lt).trans HCl4.out)
            clear hwd hlat m0 m1 m2 m3 k0 k1 q0 q1 fq0 fq1 HS4 HO4 HCl4
            have q0 := HOd.out.last.cell (i := 0) rfl
            have q1 := HOd.out.last.cell (i := 1) rfl
            have fq0 := HOd.out.last.free 0
            have fq1 := HOd.out.last.free 1
            have k0 := HCd.out.cell (i := 0) rfl
            have k1 := HCd.out.cell (i := 1) rfl
            have co0 := HOd.out.out.cell (fl_at ou k (by rw [HOl.out]; exact hk65)).1
            have co1 := HOd.out.out.cell (fl_at ou k (by rw [HOl.out]; exact hk65)).2
            have fo0 := HOd.out.out.free (k * 2)
            have fo1 := HOd.out.out.free (k * 2 + 1)
            obtain ⟨oa, hoa⟩ : ∃ oa, oa = at_ ou k := ⟨_, rfl⟩
            rw [← hoa] at co0 co1
            have HFin := kept (putC HOd.out HSd.out.1 HSd.out.2.1 HSd.out.2.2 k 0 (n : Int) hk65 HOl.out)
            have hgq := HOd.out.ne
            have hqg : q ≠ g := fun e => hgq e.symm
            clear hoa
            go_wp2_with fail
            refine hK _ _ ?_
            go_wp2_with fail
            go_roundw
            case rel =>
              refine ⟨done ++ [k], rest, _, l2, 0, by rw [HO.out]; simp, HFin.out.2.1, HFin.out.2.2.1, HFin.out.2.2.2, HPm2.out, ?_, ?_, HL2.out⟩
              · rw [HNx.out]
                show OutC B _ g q (ou.set k (((nx st n).1 : Int), ((nx st n).2 : Int))) _ ((nx st n).2 : Int)
                rw [HN2.out, HX3.out]
                exact HFin.out.1
              · right
                rw [HNx.out]
                show 1 ≤ (nx st n).2 ∧ (0 : Int) = ((nx st n).1 : Int)
                rw [HN2.out, HX3.out]
                exact ⟨hn1, rfl⟩
            case measure =>
              have d0 := HFin.out.2.1.hp.blk.cell (i := 0) rfl
              rw [d0, HC0.out]
              simp [lenOf]
          · have ts : ((st.2 : Int) == 0) = false := by rw [beq_eq_false_iff_ne]; omega
            obtain ⟨d, hd⟩ : ∃ d : Nat, (n : Int) - (st.2 : Int) = (d : Int) := ⟨n - st.2, by omega⟩
            have hd2 : d = n - st.2 := by omega
            have hval : (nx st n).1 = (st.1 + 1) * 2 ^ d := by unfold nx; rw [if_neg (by omega), hd2]
            obtain ⟨X, hX⟩ : ∃ X, X = (nx st n).1 := ⟨_, rfl⟩
            have hXb : X + 1 ≤ 32768 := by rw [hX]; exact hb15
            have hv : ((st.1 : Int) + 1) * 2 ^ d = (X : Int) := by rw [hX, hval]; simp
            have hsb : st.1 + 1 ≤ 32768 := by
              have h1 : 1 ≤ 2 ^ d := Nat.pow_pos (by decide)
              have h2 : (st.1 + 1) * 1 ≤ (st.1 + 1) * 2 ^ d := Nat.mul_le_mul_left _ h1
              omega
            have HX3 := kept hX
            have m0 := lat_cell k0
            have m1 := lat_cell k1
            have m2 := lat_cell q0
            have m3 := lat_cell q1
            clear hval hd2 hX hb15
            go_wp2_with fail
            refine wp_region_mixL [] [0,1,2,3,4,5,6,7,8,9,10] [11,12] (by kernel_rfl) (by kernel_rfl) ?_
            intro K hK
            simp only [pick, List.filterMap_cons, List.filterMap_nil, List.getElem?_cons_zero, List.getElem?_cons_succ]
            refine wpQuiet_nil ?_
            repeat (show wpQuiet _ _ _ _ (_ :: _) _; go_big_quiet_step (fail))
            refine wpQuiet_nil ?_
            show wpList _ _ _ [_, _] _ _
            generalize hwd : World.drew w3 = wd
            have hlat : Below w3.heap.size w3 wd := by rw [← hwd]; exact (Below.refl _ _).drew
            have HSd : Kept (HpC B wd p (.slice (some ⟨gh, 0, none⟩) rest.length cap) l2 ∧ Below B w wd ∧ B ≤ wd.heap.size) := kept ⟨⟨HS3.out.1.hp.later hlat, HS3.out.1.heap, HS3.out.1.newp, HS3.out.1.new⟩, HS3.out.2.1.trans (hlat.mono HS3.out.2.2), Nat.le_trans HS3.out.2.2 hlat.size⟩
            have HOd : Kept (OutC B wd g q ou (st.1 : Int) (st.2 : Int)) := kept ⟨HO3.out.out.later hlat, (hlat.block q HO3.out.last.lt).trans HO3.out.last, HO3.out.gB, HO3.out.qB, HO3.out.ne⟩
            have HCd : Kept (Blk wd cc #[.int .i64 (k : Int), .int .i64 (n : Int)] 106) := kept ((hlat.block cc HCl.out.lt).trans HCl.out)
            clear hwd hlat m0 m1 m2 m3 k0 k1 q0 q1 fq0 fq1 HS3 HO3 HCl
            have q0 := HOd.out.last.cell (i := 0) rfl
            have q1 := HOd.out.last.cell (i := 1) rfl
            have fq0 := HOd.out.last.free 0
            have fq1 := HOd.out.last.free 1
            have k0 := HCd.out.cell (i := 0) rfl
            have k1 := HCd.out.cell (i := 1) rfl
            have co0 := HOd.out.out.cell (fl_at ou k (by rw [HOl.out]; exact hk65)).1
            have co1 := HOd.out.out.cell (fl_at ou k (by rw [HOl.out]; exact hk65)).2
            have fo0 := HOd.out.out.free (k * 2)
            have fo1 := HOd.out.out.free (k * 2 + 1)
            obtain ⟨oa, hoa⟩ : ∃ oa, oa = at_ ou k := ⟨_, rfl⟩
            rw [← hoa] at co0 co1
            have HFin := kept (putC HOd.out HSd.out.1 HSd.out.2.1 HSd.out.2.2 k (X : Int) (n : Int) hk65 HOl.out)
            have hgq := HOd.out.ne
            have hqg : q ≠ g := fun e => hgq e.symm
            clear hoa
            go_wp2_with fail
            refine hK _ _ ?_
            go_wp2_with fail
            go_roundw
            case rel =>
              refine ⟨done ++ [k], rest, _, l2, (X : Int), by rw [HO.out]; simp, HFin.out.2.1, HFin.out.2.2.1, HFin.out.2.2.2, HPm2.out, ?_, ?_, HL2.out⟩
              · rw [HNx.out]
                show OutC B _ g q (ou.set k (((nx st n).1 : Int), ((nx st n).2 : Int))) _ ((nx st n).2 : Int)
                rw [HN2.out, ← HX3.out]
                exact HFin.out.1
              · right
                rw [HNx.out]
                show 1 ≤ (nx st n).2 ∧ (X : Int) = ((nx st n).1 : Int)
                rw [HN2.out, ← HX3.out]
                exact ⟨hn1, rfl⟩
            case measure =>
              have d0 := HFin.out.2.1.hp.blk.cell (i := 0) rfl
              rw [d0, HC0.out]
              simp [lenOf]
end Go.Proofs.Ytnakjencodicmaa.CanonH

-- ---- Jh
/- huff.Put: the bytes of parts: what the call answers. Conditions: those that each theorem names. -/
namespace Go.Proofs.Ytnakjencodicmaa
set_option maxRecDepth 100000
set_option linter.unusedSimpArgs false
set_option linter.unusedVariables false
open Go.RowKit Go.Proofs.YtnakjencodicmaaW.PrintWords Go.Proofs.YtnakjencodicmaaW.PrintLast Go.Proofs.YtnakjencodicmaaW.PrintMore Mix _root_.Go.Proofs.Ytnakjencodicmaa.Own Bits Hu Dp
attribute [local go_sem] max_int min_int

set_option maxHeartbeats 2000000 in
theorem hput_form (A0 : Option Addr) (n0 c0 : Nat) (A1 : Option Addr) (c1 : Nat) (L : List Int) (ps : List (Int × Nat)) (w : World) (hr1 : Kd.C (Kd.int .i64) w A1 L.length L) (hc1 : L.length ≤ c1) (hm : mayL L = false) :
    Calls Try.prog 10 #[.slice A0 n0 c0, .slice A1 L.length c1] w fun e w' => e = .returned (.tuple #[.string (putE L ps).1, .int .i64 (putE L ps).2]) ∧ Below w.heap.size w w' := by
  have HC := kept (CanonH.codes_bad A1 c1 L w hr1 hc1 hm)
  have hg : putE L ps = (⟨#[]⟩, 3) := by unfold putE; rw [hm]; rfl
  rw [hg]
  obtain ⟨l, hl⟩ : ∃ l, l = L.length := ⟨_, rfl⟩
  rw [← hl] at HC ⊢
  clear hr1 hc1 hm hg hl
  go_enter Try.func10, Try.ntmps10
  go_wp2_with fail
  refine HC.out.mono ?_
  rintro e w1 ⟨rfl, hb⟩
  have HB := kept hb
  clear hb
  go_wp2_with fail
  go_ret2
  exact ⟨rfl, HB.out⟩

theorem NewW.apart {B : Nat} {w : World} {p : Nat} {v : Value} {l : List Bool} (h : NewW B w p v l) {g : Nat} {cs : Array Value} {t : TypeId} (hb : Blk w g cs t) (h1 : t ≠ 111) (h2 : (5 : TypeId) ≠ t) : ¬ (g = p ∨ some g = v.ownBlock) := by
  rintro (hh | hh)
  · exact Blk.ne hb h.is.blk h1 hh
  · exact h.is.row.ne hb h2 hh.symm

set_option maxHeartbeats 16000000 in
theorem hput_calls (A0 : Option Addr) (n0 c0 : Nat) (A1 : Option Addr) (c1 : Nat) (L : List Int) (ps : List (Int × Nat)) (w : World) (hr0 : RdQ w A0 n0 ps) (hr1 : Kd.C (Kd.int .i64) w A1 L.length L) (hc1 : L.length ≤ c1) (hm : mayL L = true) (hn : n0 ≤ 1000000) :
    Calls Try.prog 10 #[.slice A0 n0 c0, .slice A1 L.length c1] w fun e w' => e = .returned (.tuple #[.string (putE L ps).1, .int .i64 (putE L ps).2]) ∧ Below w.heap.size w w' := by
  have HC := kept (CanonH.codes_ok A1 c1 L w hr1 hc1 hm)
  have h65 := (Cd.may_range hm).1
  have HM := kept hm
  have hcl : (Cd.codeL L).length = 65 := Cd.length_cst L _
  have HCl := kept hcl
  have HR := kept hr0
  rw [h65] at HC ⊢
  obtain ⟨B, hB⟩ : ∃ B, B = w.heap.size := ⟨_, rfl⟩
  have HBe := kept hB
  rw [← hB]
  clear hr0 hr1 hc1 hm h65 hcl hB
  go_enter Try.func10, Try.ntmps10
  go_wp2_with fail
  refine HC.out.mono ?_
  rintro e w1 ⟨vc, rfl, ho1, hnew1, hb1⟩
  obtain ⟨ac, cc, rfl, hac1, hac2, hac3⟩ := ho1.slice
  obtain ⟨gc, rfl⟩ := hac3 (by decide)
  have HO1 := kept ho1
  have HB1 : Own.Kept (Below B w w1) := kept (by rw [HBe.out]; exact hb1)
  have HS1 : Own.Kept (B ≤ w1.heap.size) := kept (by rw [HBe.out]; exact hb1.size)
  clear ho1 hnew1 hb1 hac1 hac2 hac3
  go_wp2_with fail
  refine (new_new B w1 HS1.out).mono ?_
  rintro e w2 ⟨pw, rfl, hW2, hb2, hp2⟩
  have HO2 := kept (HO1.out.later hb2)
  have HB2 := kept (HB1.out.trans (hb2.mono HS1.out))
  have HS2 := kept (Nat.le_trans HS1.out hb2.size)
  have HW2 := kept hW2
  clear hW2 hb2 hp2
  go_wp2_with fail
  go_loopw [26] (fun s26 wr => ∃ (i : Nat) (v : Value), i ≤ n0 ∧ s26 = .int .i64 (i : Int) ∧ (∀ p ∈ ps.take i, okP L p = true) ∧ NewW B wr pw v (enc L ((ps.take i).map natP)) ∧ OwnK wr 69 2 (.slice (some ⟨gc, 0, none⟩) 65 cc) 65 (CanonH.fl (Cd.codeL L)) ∧ Below B w wr ∧ B ≤ wr.heap.size) (fun s26 _ => n0 - (intOf s26).toNat)
  case atStart => exact ⟨0, _, Nat.zero_le _, rfl, by simp, by simpa [enc] using HW2.out, HO2.out, HB2.out, HS2.out⟩
  case round =>
    obtain ⟨i, v, hi, rfl, hok, hW, hO, hB, hS⟩ := hrel
    obtain ⟨wq, rfl⟩ : ∃ wq, wq = wr := ⟨wr, rfl⟩
    have HOk := kept hok
    have HW := kept hW
    have HO := kept hO
    have HBl := kept hB
    have HS := kept hS
    clear hok hW hO hB hS
    by_cases hlt : i < n0
    · obtain ⟨c, r, hpi⟩ : ∃ c r, ps[i]? = some (c, r) := ⟨_, _, List.getElem?_eq_getElem (by rw [HR.out.len]; exact hlt)⟩
      have hmem : (c, r) ∈ ps := List.mem_of_getElem? hpi
      obtain ⟨w0c, w1c, w2c⟩ := HR.out.wf _ hmem
      obtain ⟨x0, rfl, hcs⟩ := HR.out.at_ (by omega)
      obtain ⟨hc0, hc1⟩ := hcs i (c, r) hpi
      have hx0 : (x0.add (i * 2)).block < B := by rw [HBe.out]; exact World.block_lt_of_cell? w _ hc0
      have hx1 : (x0.add (i * 2 + 1)).block < B := by rw [HBe.out]; exact World.block_lt_of_cell? w _ hc1
      have k0 := (HBl.out.cell hx0).trans hc0
      have k1 := (HBl.out.cell hx1).trans hc1
      have k1b := cellN_next k1
      have htk : ps.take (i + 1) = ps.take i ++ [(c, r)] := by
        rw [List.take_succ_eq_append_getElem (by rw [HR.out.len]; exact hlt)]
        rw [List.getElem?_eq_getElem (by rw [HR.out.len]; exact hlt)] at hpi
        rw [Option.some.inj hpi]
      have HTk := kept htk
      have HMem := kept hmem
      clear hpi hmem hcs hc0 hc1 htk
      go_upto_region 8 with fail
      generalize hw3 : World.alloc wq _ = w3
      obtain ⟨gp, hgp⟩ : ∃ gp, gp = wq.heap.size := ⟨_, rfl⟩
      have hal : Below wq.heap.size wq w3 := by rw [← hw3]; exact (Below.refl _ _).alloc (Nat.le_refl _) _
      have hP3 : Blk w3 gp #[.int .i64 c, .int .u64 (r : Int)] 54 := by rw [hgp, ← hw3]; exact Blk.fresh _ _ _
      have HP3 := kept hP3
      have HW3 := kept (HW.out.later hal)
      have HO3 := kept (HO.out.later hal)
      have HB3 := kept (HBl.out.trans (hal.mono HS.out))
      have HS3 := kept (Nat.le_trans HS.out hal.size)
      have HGp : Own.Kept (B ≤ gp) := kept (by rw [hgp]; exact HS.out)
      have p0 : w3.cell? ⟨gp, 0, none⟩ = some (.int .i64 c) := Blk.cell hP3 rfl
      have p1 : w3.cell? ⟨gp, 1, none⟩ = some (.int .u64 (r : Int)) := Blk.cell hP3 rfl
      have HJ : Own.Kept (Calls Try.prog 24 #[.agg #[.int .i64 c, .int .u64 (r : Int)]] w3 fun e w' => e = .returned (.tuple #[.int .i64 (Zig.join c r), .bool (Zig.may c r)]) ∧ Below w3.heap.size w3 w') := kept (zjoin_calls c r w3 w0c w1c w2c)
      rw [← hgp]
      clear hw3 hgp hal hP3 k0 k1 k1b hx0 hx1
      have hbad : okP L (c, r) = false → putE L ps = (⟨#[]⟩, 1) := fun h => by
        unfold putE
        rw [if_pos HM.out, if_neg]
        intro hall
        have := List.all_eq_true.1 hall _ HMem.out
        rw [h] at this; cases this
      obtain ⟨jn, hjn⟩ : ∃ jn, jn = Zig.join c r := ⟨_, rfl⟩
      rw [← hjn] at HJ
      clear hjn
      cases hmay : Zig.may c r with
      | false =>
        rw [hmay] at HJ
        have hpe := hbad (by unfold okP; rw [hmay]; rfl)
        have HPe := kept hpe
        clear hmay hbad hpe
        go_wp2_with fail
        refine HJ.out.mono ?_
        rintro e w4 ⟨rfl, hb4⟩
        have HB4 := kept (HB3.out.trans (hb4.mono HS3.out))
        clear hb4
        go_wp2_with fail
        go_ret2
        exact ⟨by rw [HPe.out]; rfl, HB4.out⟩
      | true =>
        rw [hmay] at HJ
        have hm2 := hmay
        unfold Zig.may at hm2
        rw [Bool.and_eq_true, decide_eq_true_eq] at hm2
        obtain ⟨⟨hcl0, hcl1⟩, _⟩ := hm2
        obtain ⟨cN, rfl⟩ := Int.eq_ofNat_of_zero_le hcl0
        have hc64 : cN ≤ 64 := by omega
        obtain ⟨cb, cn, hcode, hcb, hcn, hee⟩ : ∃ cb cn : Nat, (Cd.codeL L).getD cN (0, 0) = ((cb : Int), (cn : Int)) ∧ cb < 32768 ∧ cn ≤ 15 ∧ (cb = cdB L cN ∧ cn = cdN L cN) := by
          obtain ⟨a1, a2, a3, a4, _⟩ := cd_all HM.out cN (by omega)
          exact ⟨cdB L cN, cdN L cN, a4, Nat.lt_of_lt_of_le a2 (Nat.pow_le_pow_right (by decide) a1), a1, rfl, rfl⟩
        obtain ⟨f1, f2⟩ := CanonH.fl_at (Cd.codeL L) cN (by rw [HCl.out]; omega)
        have eat : Hp.at_ (Cd.codeL L) cN = ((cb : Int), (cn : Int)) := hcode
        rw [eat] at f1 f2
        have HF1 := kept f1
        have HF2 := kept f2
        have HEe := kept hee
        have HMay := kept hmay
        have hget : L.getD cN 0 = (cn : Int) := by rw [hee.2]; exact (cd_all HM.out cN (by omega)).2.2.1
        have HGet := kept hget
        clear f1 f2 eat hcode hee hmay hcl0 hcl1 w0c w1c hget
        go_wp2_with fail
        refine HJ.out.mono ?_
        rintro e w4 ⟨rfl, hb4⟩
        have HP4 : Own.Kept (Blk w4 gp #[.int .i64 (cN : Int), .int .u64 (r : Int)] 54) := kept ((hb4.block gp (Blk.lt HP3.out)).trans HP3.out)
        have HW4 := kept (HW3.out.later hb4)
        have HO4 := kept (HO3.out.later hb4)
        have HB4 := kept (HB3.out.trans (hb4.mono HS3.out))
        have HS4 := kept (Nat.le_trans HS3.out hb4.size)
        clear p0 p1
        have p0 : w4.cell? ⟨gp, 0, none⟩ = some (.int .i64 (cN : Int)) := Blk.cell HP4.out rfl
        have k0 := HO4.out.cell HF1.out
        have k1 := HO4.out.cell HF2.out
        clear hb4
        by_cases hpos : cn = 0
        · have hpe := hbad (by unfold okP; rw [HMay.out, Int.toNat_natCast, HGet.out, hpos]; rfl)
          have HPe := kept hpe
          have tz : ((cn : Int) == 0) = true := by rw [beq_iff_eq]; omega
          clear hpe hbad hpos
          go_wp2_with fail
          go_ret2
          exact ⟨by rw [HPe.out]; rfl, HB4.out⟩
        · have tz : ((cn : Int) == 0) = false := by rw [beq_eq_false_iff_ne]; omega
          have hokc : okP L ((cN : Int), r) = true := by unfold okP; rw [HMay.out, Int.toNat_natCast, HGet.out]; simpa using hpos
          have HOkc := kept hokc
          clear hbad hokc
          go_upto_region 12 with fail
          generalize hw5 : World.alloc w4 _ = w5
          obtain ⟨gd, hgd⟩ : ∃ gd, gd = w4.heap.size := ⟨_, rfl⟩
          have hal : Below w4.heap.size w4 w5 := by rw [← hw5]; exact (Below.refl _ _).alloc (Nat.le_refl _) _
          have hD5 : Blk w5 gd #[.int .i64 (cb : Int), .int .i64 (cn : Int)] 69 := by rw [hgd, ← hw5]; exact Blk.fresh _ _ _
          have HD5 := kept hD5
          have HP5 : Own.Kept (Blk w5 gp #[.int .i64 (cN : Int), .int .u64 (r : Int)] 54) := kept ((hal.block gp (Blk.lt HP4.out)).trans HP4.out)
          have HW5 := kept (HW4.out.later hal)
          have HO5 := kept (HO4.out.later hal)
          have HB5 := kept (HB4.out.trans (hal.mono HS4.out))
          have HS5 := kept (Nat.le_trans HS4.out hal.size)
          have d1 : w5.cell? ⟨gd, 1, none⟩ = some (.int .i64 (cn : Int)) := Blk.cell hD5 rfl
          rw [← hgd]
          obtain ⟨E, hE⟩ : ∃ E, E = enc L ((ps.take i).map natP) := ⟨_, rfl⟩
          have hEl : E.length ≤ 100000000 := by
            have h := enc_len L HM.out ((ps.take i).map natP) (fun q hq => by
              obtain ⟨q0, hq0, rfl⟩ := List.mem_map.1 hq
              exact (okP_able HM.out (HOk.out q0 hq0)).2.2)
            rw [List.length_map, List.length_take] at h
            rw [hE]; omega
          rw [← hE] at HW5
          have HE := kept hE
          have HEl := kept hEl
          clear hw5 hgd hal hD5 p0 k0 k1 hE hEl
          go_wp2_with fail
          go_loopw [14] (fun s14 wr => ∃ (k : Nat) (v1 : Value), k ≤ cn ∧ s14 = .int .i64 ((k : Int) - 1) ∧ NewW B wr pw v1 (E ++ (Hu.hi cb cn).take (cn - k)) ∧ Blk wr gd #[.int .i64 (cb : Int), .int .i64 (cn : Int)] 69 ∧ Blk wr gp #[.int .i64 (cN : Int), .int .u64 (r : Int)] 54 ∧ OwnK wr 69 2 (.slice (some ⟨gc, 0, none⟩) 65 cc) 65 (CanonH.fl (Cd.codeL L)) ∧ Below B w wr ∧ B ≤ wr.heap.size) (fun s14 _ => (intOf s14 + 1).toNat)
          case atStart => exact ⟨cn, _, Nat.le_refl _, rfl, by simpa using HW5.out, HD5.out, HP5.out, HO5.out, HB5.out, HS5.out⟩
          case round =>
            obtain ⟨k, v1, hk, rfl, hW, hD, hP, hO, hB, hS⟩ := hrel
            obtain ⟨wk, rfl⟩ : ∃ wk, wk = wr := ⟨wr, rfl⟩
            have HWk := kept hW
            have HDk := kept hD
            have HPk := kept hP
            have HOk2 := kept hO
            have HBk := kept hB
            have HSk := kept hS
            have hlen : (E ++ (Hu.hi cb cn).take (cn - k)).length < 1000000000000 := by have := HEl.out; simp; omega
            have HLen := kept hlen
            clear hW hP hO hB hS d1 hlen
            cases k with
            | succ k =>
              rw [show ((k + 1 : Nat) : Int) - 1 = (k : Int) by omega]
              have d0 : wk.cell? ⟨gd, 0, none⟩ = some (.int .i64 (cb : Int)) := Blk.cell hD rfl
              have hsh : cb / 2 ^ k < 18446744073709551616 := by have := Nat.div_le_self cb (2 ^ k); omega
              have HPut := kept (put_new B pw v1 _ (cb / 2 ^ k) 1 wk HSk.out HWk.out HLen.out hsh (by decide) (by decide))
              rw [clamp1, bitsOf_one, List.append_assoc, ← hi_take cb cn k (by omega)] at HPut
              have ewr : IntKind.u64.wrap ((cb : Int) / 2 ^ k) = ((cb / 2 ^ k : Nat) : Int) := by
                have e : ((cb : Int) / 2 ^ k) = ((cb / 2 ^ k : Nat) : Int) := by simp
                rw [e, IntKind.wrap_u64]
                generalize cb / 2 ^ k = M at hsh
                omega
              have EWr := kept ewr
              clear hD hsh ewr
              go_wp2_with fail
              rw [EWr.out]
              refine HPut.out.mono ?_
              rintro e w7 ⟨rfl, v7, hW7, hB7, hC7, _⟩
              have HW7 := kept hW7
              have HB7 := kept (HBk.out.trans hB7)
              have HS7 := kept (Nat.le_trans HSk.out hB7.size)
              have HD7 : Own.Kept (Blk w7 gd #[.int .i64 (cb : Int), .int .i64 (cn : Int)] 69) := kept (hC7.keep HDk.out (HWk.out.apart HDk.out (by decide) (by decide)))
              have HP7 : Own.Kept (Blk w7 gp #[.int .i64 (cN : Int), .int .u64 (r : Int)] 54) := kept (hC7.keep HPk.out (HWk.out.apart HPk.out (by decide) (by decide)))
              have HO7 := kept (HOk2.out.chg hC7 (fun g hg => by
                obtain ⟨cur, hcur⟩ := HOk2.out.blk g hg
                exact HWk.out.apart hcur (by decide) (by decide)))
              clear hW7 hB7 hC7
              go_wp2_with fail
              go_roundw
              case rel => exact ⟨k, v7, by omega, rfl, HW7.out, HD7.out, HP7.out, HO7.out, HB7.out, HS7.out⟩
              case measure => simp [intOf]
            | zero =>
              have q0 : wk.cell? ⟨gp, 0, none⟩ = some (.int .i64 (cN : Int)) := Blk.cell HPk.out rfl
              have q1 : wk.cell? ⟨gp, 1, none⟩ = some (.int .u64 (r : Int)) := Blk.cell HPk.out rfl
              have HPut := kept (put_new B pw v1 _ r ((cN : Int) - 1) wk HSk.out HWk.out HLen.out w2c (by omega) (by omega))
              rw [clamp_cls cN hc64, Nat.sub_zero, List.take_of_length_le (by simp)] at HPut
              have hen : E ++ Hu.hi cb cn ++ bitsOf r (cN - 1) = enc L ((ps.take (i + 1)).map natP) := by
                rw [HTk.out, List.map_append, enc_append, ← HE.out, List.append_assoc]
                congr 1
                rw [HEe.out.1, HEe.out.2]
                simp [enc, encOne, natP]
              rw [hen] at HPut
              clear hen hD
              go_wp2_with fail
              refine HPut.out.mono ?_
              rintro e w7 ⟨rfl, v7, hW7, hB7, hC7, _⟩
              have HW7 := kept hW7
              have HB7 := kept (HBk.out.trans hB7)
              have HS7 := kept (Nat.le_trans HSk.out hB7.size)
              have HO7 := kept (HOk2.out.chg hC7 (fun g hg => by
                obtain ⟨cur, hcur⟩ := HOk2.out.blk g hg
                exact HWk.out.apart hcur (by decide) (by decide)))
              clear hW7 hB7 hC7 q0 q1
              go_wp2_with fail
              go_roundw
              case rel => exact ⟨i + 1, v7, by omega, by go_num, fun p hp => by
                rw [HTk.out] at hp
                rcases List.mem_append.1 hp with hp | hp
                · exact HOk.out p hp
                · rw [List.mem_singleton.1 hp]; exact HOkc.out, HW7.out, HO7.out, HB7.out, HS7.out⟩
              case measure => simp [intOf]; omega
    · have hie : i = n0 := by omega
      subst hie
      have htk : ps.take i = ps := List.take_of_length_le (by rw [HR.out.len]; exact Nat.le_refl _)
      rw [htk] at HOk HW
      have hpe : putE L ps = (textOf (pack (enc L (ps.map natP))), 0) := by
        unfold putE
        rw [if_pos HM.out, if_pos (List.all_eq_true.2 HOk.out)]
      have HPe := kept hpe
      have HBy := kept (bytes_calls pw v _ wq HW.out.is)
      obtain ⟨tx, htx⟩ : ∃ tx, tx = textOf (pack (enc L (ps.map natP))) := ⟨_, rfl⟩
      rw [← htx] at HBy HPe
      clear htk hpe htx
      go_wp2_with fail
      refine HBy.out.mono ?_
      rintro e w7 ⟨rfl, rfl⟩
      go_wp2_with fail
      go_ret2
      exact ⟨by rw [HPe.out]; rfl, HBl.out⟩
end Go.Proofs.Ytnakjencodicmaa

-- ---- PAx8
/- canon.Codes: what the call answers, for every list. Conditions: none but a slice's. -/
namespace Go.Proofs.Ytnakjencodicmaa.PA
open Go.RowKit Go.Proofs.YtnakjencodicmaaW.PrintWords Go.Proofs.YtnakjencodicmaaW.PrintLast Go.Proofs.YtnakjencodicmaaW.PrintMore
set_option linter.unusedVariables false
set_option linter.unusedSimpArgs false

def codeS (c : Int × Int) : S69 := ⟨c.1, c.2⟩
/-- The answer of both. -/
def codesE (l : List Int) : List (S69) × Int := if Dp.mayL l = true then ((Cd.codeL l).map codeS, 0) else ([], 3)
def canon_Codes.f (l0 : List Int) : Option ((List (S69)) × Int) := some (codesE l0)
theorem canon_Codes.calls (A0 : Option Addr) (c0 : Nat) (l0 : List Int) (r1 : List (S69)) (r2 : Int) (w : World) (hr0 : Kd.C (Kd.int .i64) w A0 l0.length l0) (hc0 : l0.length ≤ c0) (h : canon_Codes.f l0 = some (r1, r2)) :
    Calls Try.prog 22 #[.slice A0 l0.length c0] w fun e w' => ∃ v0_ : Value, e = .returned (.tuple #[v0_, .int .i64 r2]) ∧ Kd.R k69 69 w' w.heap.size (fun _ => True) v0_ r1 ∧ Below w.heap.size w w' := by
  have h := Option.some.inj h
  unfold codesE at h
  split at h
  · rename_i hg
    obtain ⟨rfl, rfl⟩ := Prod.mk.inj h
    refine (CanonH.codes_ok A0 c0 l0 w hr0 hc0 hg).mono ?_
    rintro e w' ⟨v, rfl, ho, hnew, hb⟩
    refine ⟨v, rfl, ?_, hb⟩
    refine Own.R_of_flat k69 (fun x => [.int .i64 x.f0, .int .i64 x.f1]) (fun ok x => k69_mkM w' w.heap.size ok x) (fun _ => rfl) ?_ hnew
    have hl : (Cd.codeL l0).length = 65 := Cd.length_cst l0 _
    rw [List.length_map, hl]
    have e : ((Cd.codeL l0).map codeS).flatMap (fun x => [Value.int .i64 x.f0, .int .i64 x.f1]) = CanonH.fl (Cd.codeL l0) := by
      generalize Cd.codeL l0 = cs
      unfold CanonH.fl
      induction cs with
      | nil => rfl
      | cons a t ih => simp only [List.map_cons, List.flatMap_cons, ih]; rfl
    rw [e]; exact ho
  · rename_i hg
    obtain ⟨rfl, rfl⟩ := Prod.mk.inj h
    refine (CanonH.codes_bad A0 c0 l0 w hr0 hc0 (by simpa using hg)).mono ?_
    rintro e w' ⟨rfl, hb⟩
    exact ⟨_, rfl, Kd.R_nil _ _ _ _ _, hb⟩
end Go.Proofs.Ytnakjencodicmaa.PA

-- ---- Jk
/- Parts of the print's own form, and codes that a call lays: how they are read. No program in sight. -/
namespace Go.Proofs.Ytnakjencodicmaa.PA
set_option maxRecDepth 100000
set_option linter.unusedVariables false
set_option linter.unusedSimpArgs false
open Go.RowKit Go.Proofs.YtnakjencodicmaaW.PrintWords Go.Proofs.YtnakjencodicmaaW.PrintLast Go.Proofs.YtnakjencodicmaaW.PrintMore
open _root_.Go.Proofs.Ytnakjencodicmaa.Own

def wfB (p : S54) : Bool := decide (-9223372036854775808 ≤ p.f0 ∧ p.f0 ≤ 9223372036854775807 ∧ 0 ≤ p.f1 ∧ p.f1 < 18446744073709551616)
def pairP (p : S54) : Int × Nat := (p.f0, p.f1.toNat)
theorem rdq_of {w : World} {A : Option Addr} {n : Nat} {xs : List (S54)} (h : Kd.C k54 w A n xs) (hw : xs.all wfB = true) : RdQ w A n (xs.map pairP) := by
  have hwf : ∀ p ∈ xs, -9223372036854775808 ≤ p.f0 ∧ p.f0 ≤ 9223372036854775807 ∧ 0 ≤ p.f1 ∧ p.f1 < 18446744073709551616 := fun p hp => by
    have := List.all_eq_true.1 hw p hp
    unfold wfB at this
    rwa [decide_eq_true_eq] at this
  refine ⟨by rw [List.length_map]; exact h.1, fun h0 => ?_, fun p hp => ?_⟩
  · obtain ⟨x, hx, hc⟩ := h.2.2 h0
    refine ⟨x, hx, fun i p hp => ?_⟩
    rw [List.getElem?_map] at hp
    cases hq : xs[i]? with
    | none => rw [hq] at hp; cases hp
    | some q =>
      rw [hq] at hp
      have hp := Option.some.inj hp
      subst hp
      obtain ⟨cs, hl, hK, hcell⟩ := hc i q hq
      have hf := hwf q (List.mem_of_getElem? hq)
      have hcs := k54_open hK
      subst hcs
      have e1 : ((q.f1.toNat : Nat) : Int) = q.f1 := by omega
      refine ⟨hcell 0 _ rfl, ?_⟩
      have := hcell 1 _ rfl
      simp only [pairP, e1]
      exact this
  · obtain ⟨q, hq, rfl⟩ := List.mem_map.1 hp
    have hf := hwf q hq
    refine ⟨hf.1, hf.2.1, ?_⟩
    show q.f1.toNat < _
    omega

/-- Codes that a call lays. -/
theorem flC_of (cs : List (Int × Int)) : ∀ (inner : List Value), inner.length = cs.length * 2 → (∀ i p, (cs.map codeS)[i]? = some p → (inner.drop (i * 2)).take 2 = [.int .i64 p.f0, .int .i64 p.f1]) → inner = CanonH.fl cs := by
  induction cs with
  | nil => intro inner hl _; exact List.length_eq_zero_iff.1 (by simpa using hl)
  | cons a t ih =>
    intro inner hl h
    have h0 := h 0 (codeS a) rfl
    rw [Nat.zero_mul, List.drop_zero] at h0
    have e := List.take_append_drop 2 inner
    rw [h0] at e
    have := ih (inner.drop 2) (by simp at hl ⊢; omega) (fun i p hp => by
      have := h (i + 1) p (by simpa using hp)
      rw [List.drop_drop, show 2 + i * 2 = (i + 1) * 2 by omega]; exact this)
    rw [this] at e
    exact e.symm
theorem ownC_of_R {e : TypeId} {w : World} {base : Nat} {ok : Nat → Prop} {v : Value} {cs : List (Int × Int)} (h : Kd.R k69 e w base ok v (cs.map codeS)) : OwnK w e 2 v cs.length (CanonH.fl cs) ∧ ∀ g, v.ownBlock = some g → base ≤ g := by
  obtain ⟨_, inner, ho, hl, hr⟩ := h
  rw [List.length_map] at hl ho
  have e1 : inner = CanonH.fl cs := flC_of cs inner hl (fun i p hp => k69_openM (hr i p hp))
  rw [e1] at ho
  refine ⟨⟨ho.1, ?_⟩, fun g hg => ?_⟩
  · rcases ho.2 with hn | ⟨g, cap, cur, rfl, hb, r⟩
    · exact .inl hn
    · exact .inr ⟨g, cap, cur, rfl, Nat.zero_le _, r⟩
  · rcases ho.2 with ⟨rfl, _⟩ | ⟨g', cap, cur, rfl, hb, r⟩
    · simp [Value.ownBlock] at hg
    · simp [Value.ownBlock] at hg; rw [← hg]; exact hb
end Go.Proofs.Ytnakjencodicmaa.PA

-- ---- PAx15
/- huff.Put: what the call answers. Conditions: the parts are of Go's own sizes, no more than a million. -/
namespace Go.Proofs.Ytnakjencodicmaa.PA
set_option maxRecDepth 100000
open Go.RowKit Go.Proofs.YtnakjencodicmaaW.PrintWords Go.Proofs.YtnakjencodicmaaW.PrintLast Go.Proofs.YtnakjencodicmaaW.PrintMore
set_option linter.unusedVariables false
set_option linter.unusedSimpArgs false

def huff_Put.f (k : Nat) (l0 : List (S54)) (l1 : List Int) : Option (ByteArray × Int) := if l0.length ≤ 1000000 ∧ l0.all wfB = true then some (putE l1 (l0.map pairP)) else none
theorem huff_Put.mono : ∀ a0 a1 k, LeO (huff_Put.f k a0 a1) (huff_Put.f (k + 1) a0 a1) := fun _ _ _ => LeO.refl _
theorem huff_Put.calls (k : Nat) (A0 : Option Addr) (c0 : Nat) (l0 : List (S54)) (A1 : Option Addr) (c1 : Nat) (l1 : List Int) (r1 : ByteArray) (r2 : Int) (w : World) (hr0 : Kd.C k54 w A0 l0.length l0) (hc0 : l0.length ≤ c0) (hr1 : Kd.C (Kd.int .i64) w A1 l1.length l1) (hc1 : l1.length ≤ c1) (h : huff_Put.f k l0 l1 = some (r1, r2)) :
    Calls Try.prog 10 #[.slice A0 l0.length c0, .slice A1 l1.length c1] w fun e w' => e = .returned (.tuple #[.string r1, .int .i64 r2]) ∧ Below w.heap.size w w' := by
  unfold huff_Put.f at h
  split at h
  · rename_i hg
    have h := Option.some.inj h
    have e1 : r1 = (putE l1 (l0.map pairP)).1 := by rw [h]
    have e2 : r2 = (putE l1 (l0.map pairP)).2 := by rw [h]
    rw [e1, e2]
    cases hm : Dp.mayL l1 with
    | false => exact hput_form A0 l0.length c0 A1 c1 l1 _ w hr1 hc1 hm
    | true => exact hput_calls A0 l0.length c0 A1 c1 l1 _ w (rdq_of hr0 hg.2) hr1 hc1 hm hg.1
  · cases h
end Go.Proofs.Ytnakjencodicmaa.PA

-- ---- PAx22

namespace Go.Proofs.Ytnakjencodicmaa.PA
open Go.RowKit Go.Proofs.YtnakjencodicmaaW.PrintWords Go.Proofs.YtnakjencodicmaaW.PrintLast Go.Proofs.YtnakjencodicmaaW.PrintMore
attribute [local go_sem] max2_int min2_int max_two min_two max_three min_three max_four min_four   -- for this text's walks alone
set_option linter.unusedVariables false
set_option linter.unusedSimpArgs false

/-! ### wringerlaw1_Err: function 14 -/
def wringerlaw1_Err.f (a0 : Int) : Option (Int) := some a0
set_option maxHeartbeats 8000000 in
set_option maxRecDepth 100000 in
theorem wringerlaw1_Err.calls (a0 : Int) (r : Int) (w : World) (h : wringerlaw1_Err.f a0 = some r) :
    Calls Try.prog 14 #[.int .i64 a0] w fun e w' => e = .returned (.int .i64 r) ∧ Drawn0 w w' := by
  have H : (some a0) = some r := h
  clear h
  obtain rfl := Option.some.inj H
  go_enter Try.func14, Try.ntmps14
  go_wp2
  go_ret
  exact ⟨by first | rfl | (simp; done) | (simp [*]; done), by repeat (first | exact Drawn0.refl _ | apply Drawn0.step)⟩

end Go.Proofs.Ytnakjencodicmaa.PA

-- ---- Jb
/- A map from codes to classes: what lies in memory, a look, a store. Conditions: those that each theorem names. -/
namespace Go.Proofs.Ytnakjencodicmaa
set_option maxRecDepth 100000
set_option linter.unusedSimpArgs false
set_option linter.unusedVariables false
open Go.RowKit Mix _root_.Go.Proofs.Ytnakjencodicmaa.Own

theorem code_laid : laidOutB Try.prog = true := by kernel_rfl
theorem code_row : (69 : TypeId) < Try.prog.types.size := of_decide_eq_true (by kernel_rfl)
theorem code_size : ∃ m, Try.prog.types.size = m + 1 := by
  have h := code_row
  generalize Try.prog.types.size = n at h
  cases n with
  | zero => exact absurd h (by decide)
  | succ m => exact ⟨m, rfl⟩
theorem code_cells : Try.prog.cellsOf 69 = 2 := by kernel_rfl
theorem int_cells : Try.prog.cellsOf 3 = 1 := by kernel_rfl
theorem code_type : Try.prog.keyType 69 = true := by kernel_rfl
theorem code_at2 : Try.prog.keyTypeAt 2 69 = true := by kernel_rfl
theorem code_wide : (match Try.prog.underlying 69 with | some (.array _ _) | some (.struct _) => true | _ => false) = true := by kernel_rfl
set_option maxRecDepth 100000 in
theorem code_keyed : Maps.Keyed Try.prog 69 := Maps.Keyed.of_law (deep_law_laid code_laid (m := 2) (by omega) code_row code_at2 code_wide)

/-- A code as a value. -/
def cdV (v n : Nat) : Value := .agg #[.int .i64 (v : Int), .int .i64 (n : Int)]
theorem cdV_inj {v n v' n' : Nat} (h : cdV v n = cdV v' n') : v = v' ∧ n = n' := by
  unfold cdV at h
  simp only [Value.agg.injEq, Array.mk.injEq, List.cons.injEq, Value.int.injEq, true_and, and_true] at h
  omega
theorem wf_nat (v : Nat) (h : v < 9223372036854775808) : (Lit.int .i64 (v : Int)).wf = true := by
  have h1 : IntKind.i64.min = -9223372036854775808 := rfl
  have h2 : IntKind.i64.max = 9223372036854775807 := rfl
  simp only [Lit.wf, h1, h2, Bool.and_eq_true, decide_eq_true_eq]
  omega
theorem code_key (v n : Nat) (hv : v < 9223372036854775808) (hn : n < 9223372036854775808) : ∃ l, keyOf Try.prog 69 (cdV v n) = some l := by
  obtain ⟨m, hm⟩ := code_size
  have w1 : (Lit.int .i64 (v : Int)).wf = true := wf_nat v hv
  have w2 : (Lit.int .i64 (n : Int)).wf = true := wf_nat n hn
  unfold cdV
  unfold keyOf
  simp only [Try.underlying69]
  rw [if_pos (by simp [code_type, Value.formed, Try.underlying69, code_cells]), hm]
  unfold Program.keyLits
  simp only [Try.underlying69, Value.cells]
  simp [Program.keyLits, Try.underlying3, int_cells, code_cells, w1, w2]

/-- What a map holds, one behind the other as they came: the code's bits, how many, the class. -/
def entV (p : Nat × Nat × Nat) : Value × Value := (cdV p.1 p.2.1, .int .i64 (p.2.2 : Int))
def IsMp (w : World) (b : Nat) (F : List (Nat × Nat × Nat)) : Prop := ∃ es clock, w.heap[b]? = some (.map es clock) ∧ es.toList.map (fun e => (e.key, e.val)) = F.map entV
/-- Codes small enough, each once. -/
structure Fit (F : List (Nat × Nat × Nat)) : Prop where
  small : ∀ p ∈ F, p.1 < 1000000 ∧ p.2.1 < 1000000
  once : ∀ p ∈ F, ∀ q ∈ F, p.1 = q.1 → p.2.1 = q.2.1 → p = q
theorem IsMp.lt {w : World} {b : Nat} {F : List (Nat × Nat × Nat)} (h : IsMp w b F) : b < w.heap.size := by
  obtain ⟨es, clock, hb, _⟩ := h
  exact lt_of_some hb
theorem IsMp.later {w w' : World} {b : Nat} {F : List (Nat × Nat × Nat)} (h : IsMp w b F) (hc : Below w.heap.size w w') : IsMp w' b F := by
  have hlt := h.lt
  obtain ⟨es, clock, hb, he⟩ := h
  exact ⟨es, clock, (hc.block b hlt).trans hb, he⟩
theorem IsMp.keep {w w' : World} {S : Nat → Prop} {b : Nat} {F : List (Nat × Nat × Nat)} (h : IsMp w b F) (hc : Chg S w w') (hn : ¬ S b) : IsMp w' b F := by
  obtain ⟨es, clock, hb, he⟩ := h
  exact ⟨es, clock, hc.keep hb hn, he⟩
theorem IsMp.fresh (w : World) : IsMp (w.alloc (.map #[] 0)) w.heap.size [] := ⟨#[], 0, (MapKept.heap_alloc w _).1, rfl⟩
theorem keys_of {es : List MapEntry} {F : List (Nat × Nat × Nat)} (he : es.map (fun e => (e.key, e.val)) = F.map entV) (hF : Fit F) : ∀ e ∈ es, ∃ l, keyOf Try.prog 69 e.key = some l := by
  intro e h
  have h1 : (e.key, e.val) ∈ es.map (fun e => (e.key, e.val)) := List.mem_map.2 ⟨e, h, rfl⟩
  rw [he] at h1
  obtain ⟨p, hp, h2⟩ := List.mem_map.1 h1
  have h3 := hF.small p hp
  have h4 : e.key = cdV p.1 p.2.1 := (Prod.mk.inj h2).1.symm
  rw [h4]
  exact code_key _ _ (by omega) (by omega)
/-- What is found. -/
def lookL (F : List (Nat × Nat × Nat)) (v n : Nat) : Option Nat := (F.find? fun p => decide (p.1 = v ∧ p.2.1 = n)).map fun p => p.2.2
theorem lookL_none {F : List (Nat × Nat × Nat)} {v n : Nat} (h : ∀ p ∈ F, ¬ (p.1 = v ∧ p.2.1 = n)) : lookL F v n = none := by
  unfold lookL
  rw [List.find?_eq_none.2 (fun p hp => by rw [decide_eq_true_eq]; exact h p hp)]; rfl
theorem lookL_some {F : List (Nat × Nat × Nat)} {p : Nat × Nat × Nat} (hF : Fit F) (h : p ∈ F) : lookL F p.1 p.2.1 = some p.2.2 := by
  unfold lookL
  cases hf : F.find? fun q => decide (q.1 = p.1 ∧ q.2.1 = p.2.1) with
  | none => exact absurd (by simp) (List.find?_eq_none.1 hf p h)
  | some q =>
    have h1 := List.mem_of_find?_eq_some hf
    have h2 := List.find?_some hf
    rw [decide_eq_true_eq] at h2
    rw [hF.once q h1 p h h2.1 h2.2]; rfl
/-- Whether a key is there. -/
theorem find_key (w : World) {es : List MapEntry} {F : List (Nat × Nat × Nat)} (he : es.map (fun e => (e.key, e.val)) = F.map entV) (hF : Fit F) (v n : Nat) (hv : v < 9223372036854775808) (hn : n < 9223372036854775808) :
    ((Instr.findKey 69 (cdV v n) es).run Try.prog w = .ok none w ∧ ∀ p ∈ F, ¬ (p.1 = v ∧ p.2.1 = n)) ∨
    ∃ j p, (Instr.findKey 69 (cdV v n) es).run Try.prog w = .ok (some (j, .int .i64 (p.2.2 : Int))) w ∧ p ∈ F ∧ p.1 = v ∧ p.2.1 = n := by
  obtain ⟨l, hl⟩ := code_key v n hv hn
  rcases code_keyed.find w hl es (keys_of he hF) with ⟨h1, h2⟩ | ⟨j, e, h1, h2, h3⟩
  · refine .inl ⟨h1, fun p hp hh => ?_⟩
    have h4 : entV p ∈ es.map (fun e => (e.key, e.val)) := by rw [he]; exact List.mem_map.2 ⟨p, hp, rfl⟩
    obtain ⟨e, he1, he2⟩ := List.mem_map.1 h4
    refine h2 e he1 ?_
    have : e.key = cdV p.1 p.2.1 := (Prod.mk.inj he2).1
    rw [this, hh.1, hh.2]
  · have hm : e ∈ es := List.mem_of_getElem? h2
    have h4 : (e.key, e.val) ∈ F.map entV := by rw [← he]; exact List.mem_map.2 ⟨e, hm, rfl⟩
    obtain ⟨p, hp, hpe⟩ := List.mem_map.1 h4
    have e1 : cdV p.1 p.2.1 = e.key := (Prod.mk.inj hpe).1
    have e2 : Value.int .i64 (p.2.2 : Int) = e.val := (Prod.mk.inj hpe).2
    rw [h3] at e1
    obtain ⟨a1, a2⟩ := cdV_inj e1
    refine .inr ⟨j, p, by rw [h1, e2], hp, a1, a2⟩
theorem zero_int (w : World) : (zeroValue 3).run Try.prog w = .ok (.int .i64 0) w := by kernel_rfl

/-- What a look answers. -/
def lookV (r : Option Nat) : Value := .tuple #[.int .i64 ((r.getD 0 : Nat) : Int), .bool r.isSome]
theorem IsMp.look {w : World} {b : Nat} {F : List (Nat × Nat × Nat)} (h : IsMp w b F) (hF : Fit F) (v n : Nat) (hv : v < 9223372036854775808) (hn : n < 9223372036854775808) :
    (Instr.lookup 83 (.map (some b)) (cdV v n) true).run Try.prog w = .ok (lookV (lookL F v n)) w := by
  obtain ⟨es, clock, hb, he⟩ := h
  obtain ⟨l, hl⟩ := code_key v n hv hn
  rcases find_key w he hF v n hv hn with ⟨h1, h2⟩ | ⟨j, p, h1, hp, rfl, rfl⟩
  · rw [lookL_none h2]
    simp [Instr.lookup, run_underlying Try.underlying83, MapKept.run_getObj_map hb, code_keyed.check w _ hl, h1, zero_int, Result.andThen, lookV]
  · rw [lookL_some hF hp]
    simp [Instr.lookup, run_underlying Try.underlying83, MapKept.run_getObj_map hb, code_keyed.check w _ hl, h1, Result.andThen, lookV]
theorem IsMp.len {w : World} {b : Nat} {F : List (Nat × Nat × Nat)} (h : IsMp w b F) (ty : TypeId) : (Builtin.len_ #[83] ty #[.map (some b)]).run Try.prog w = .ok (.int .i64 (F.length : Int)) w := by
  obtain ⟨es, clock, hb, he⟩ := h
  have e : es.size = F.length := by
    have := congrArg List.length he
    simpa using this
  rw [← e]
  simp [Builtin.len_, run_underlying Try.underlying83, MapKept.run_getObj_map hb, goInt, Result.andThen]
theorem IsMp.put {w : World} {b : Nat} {F : List (Nat × Nat × Nat)} (h : IsMp w b F) (hF : Fit F) (v n c : Nat) (hv : v < 9223372036854775808) (hn : n < 9223372036854775808) (hnew : ∀ p ∈ F, ¬ (p.1 = v ∧ p.2.1 = n)) :
    ∃ w', (Instr.mapUpdate 83 (.map (some b)) (cdV v n) (.int .i64 (c : Int))).run Try.prog w = .ok () w' ∧ IsMp w' b (F ++ [(v, n, c)]) ∧ Chg (fun k => k = b) w w' := by
  obtain ⟨es, clock, hb, he⟩ := h
  obtain ⟨l, hl⟩ := code_key v n hv hn
  rcases find_key w he hF v n hv hn with ⟨h1, h2⟩ | ⟨j, p, h1, hp, e1, e2⟩
  · refine ⟨ChangeMaps.setBlock w b (.map (es.push { key := cdV v n, val := .int .i64 (c : Int), born := clock }) (clock + 1)), ?_, ⟨_, _, ChangeMaps.heap_setBlock_same hb _, ?_⟩, ?_⟩
    · simp [Instr.mapUpdate, run_underlying Try.underlying83, MapKept.run_getObj_map hb, code_keyed.check w _ hl, h1, MapKept.run_setObj_map _ hb, Result.andThen, ChangeMaps.setBlock]
    · rw [Array.toList_push, List.map_append, he, List.map_append]; rfl
    · exact ⟨rfl, rfl, rfl, by simp [ChangeMaps.setBlock], fun k _ hk => ChangeMaps.heap_setBlock_other hb _ hk⟩
  · exact absurd ⟨e1, e2⟩ (hnew p hp)
end Go.Proofs.Ytnakjencodicmaa

-- ---- Rw
/- wringerref1's Row: what its methods do to its memory. -/
namespace Go.Proofs.Ytnakjencodicmaa
set_option maxRecDepth 100000
set_option linter.unusedSimpArgs false
set_option linter.unusedVariables false
open Go.RowKit Mix _root_.Go.Proofs.Ytnakjencodicmaa.Own Bits
attribute [local go_sem] max_int min_int

def bits01 (l : List Bool) : List Nat := l.map Bool.toNat
@[simp] theorem length_bits01 (l : List Bool) : (bits01 l).length = l.length := by simp [bits01]

/-- A Row at block p, its bits at v. -/
structure IsR (w : World) (p : Nat) (v : Value) (l : List Bool) : Prop where
  blk : Blk w p #[v] 77
  row : Owns w 5 v (u8s (bits01 l))

theorem IsR.keep {w w' : World} {S : Nat → Prop} {p : Nat} {v : Value} {l : List Bool} (h : IsR w p v l) (hc : Chg S w w') (hp : ¬ S p) (hv : ∀ g, v.ownBlock = some g → ¬ S g) : IsR w' p v l :=
  ⟨hc.keep h.blk hp, h.row.chg hc hv⟩

theorem bit_byte0 (x k : Nat) (hx : x < 18446744073709551616) : bits .and .u64 ((x : Int) / 2 ^ k) 1 % 256 = (((x.testBit k).toNat : Nat) : Int) := by
  have h1 : (x : Int) / 2 ^ k ≤ x := Int.ediv_le_self _ (by omega)
  have h0 : 0 ≤ (x : Int) / 2 ^ k := Int.ediv_nonneg (by omega) (Int.pow_nonneg (by decide))
  rw [Bits.and_one_u64 _ h0 (by omega), bitOf_shift]
  cases x.testBit k <;> simp

set_option maxHeartbeats 4000000 in
theorem rput_calls (p : Nat) (v : Value) (l : List Bool) (x : Nat) (n : Int) (w : World) (hW : IsR w p v l) (hl : l.length < 1000000000000) (hx : x < 18446744073709551616) (hn0 : -9223372036854775808 ≤ n) (hn1 : n ≤ 9223372036854775807) :
    Calls Try.prog 29 #[.pointer (some ⟨p, 0, none⟩), .int .u64 (x : Int), .int .i64 n] w fun e w' => e = .returned (.tuple #[]) ∧
      ∃ v', IsR w' p v' (l ++ bitsOf x (clamp n)) ∧ Chg (fun k => k = p ∨ some k = v.ownBlock) w w' ∧ ∀ g, v'.ownBlock = some g → some g = v.ownBlock ∨ w.heap.size ≤ g := by
  obtain ⟨i0, hi, hz0, hz1, hz2⟩ := info_parts infoU8
  have HW := kept hW
  have HX := kept hx
  have HL := kept hl
  clear hW hx hl
  obtain ⟨N, hN⟩ : ∃ N, N = clamp n := ⟨_, rfl⟩
  have hN0 : N ≤ 64 := by rw [hN]; exact clamp_le n
  have hNe : mx 0 (mn n 64) = (N : Int) := by rw [hN, mx_eq, mn_eq]; unfold clamp; omega
  have HN := kept hN
  clear hN
  go_enter Try.func29, Try.ntmps29
  go_wp2_with fail
  go_loopw [6] (fun s6 wr => ∃ k : Nat, k ≤ N ∧ s6 = .int .i64 (k : Int) ∧ ∃ v1, IsR wr p v1 (l ++ bitsOf x k) ∧ Chg (fun k => k = p ∨ some k = v.ownBlock) w wr ∧ ∀ g, v1.ownBlock = some g → some g = v.ownBlock ∨ w.heap.size ≤ g)
    (fun s6 _ => N - (intOf s6).toNat)
  case atStart => exact ⟨0, Nat.zero_le _, rfl, v, by simpa [bitsOf] using HW.out, Chg.refl _ _, fun g hg => .inl hg.symm⟩
  case round =>
    obtain ⟨k, hk, rfl, v1, hW1, hC1, hG1⟩ := hrel
    have c0 : wr.cell? ⟨p, 0, none⟩ = some v1 := hW1.blk.cell rfl
    have HW1 := kept hW1
    have HC1 := kept hC1
    have HG1 := kept hG1
    clear hW1 hC1 hG1
    by_cases hlt : k < N
    · have lc0 := lat_cell c0
      go_wp2_with fail
      refine wp_region_mixL [0] [1,2,3,4,5,6,7,8,9] [10,11,12,13,14] (by kernel_rfl) (by kernel_rfl) ?_
      intro K hK
      simp only [pick, List.filterMap_cons, List.filterMap_nil, List.getElem?_cons_zero, List.getElem?_cons_succ]
      repeat (show wpQuiet _ _ _ _ (_ :: _) _; go_big_quiet_step (fail))
      have hby := bit_byte0 x k HX.out
      rw [hby]
      clear hby
      show wpList _ _ _ [_, _, _, _, _] _ _
      generalize hwd : World.drew wr = wd
      have HWd : Kept (IsR wd p v1 (l ++ bitsOf x k)) := kept (by rw [← hwd]; exact ⟨HW1.out.blk, HW1.out.row⟩)
      have HCd : Kept (Chg (fun k => k = p ∨ some k = v.ownBlock) w wd) := kept (by rw [← hwd]; exact HC1.out.trans (Chg.drew (fun _ => False) _) (fun _ _ h => h.elim))
      clear hwd lc0 c0
      go_wp2_with (first | (at_builtin; refine wpList_app1 rfl _ _ 48 rfl 5 i0 (.int .u8 0) 1 Try.underlying48 hi hz0 hz1 hz2 rfl v1 _ (.int .u8 ((x.testBit k).toNat : Int)) rfl HWd.out.row rfl rfl ?_ ?_ ?_) | fail)
      · have := HL.out; simp [maxLen]; omega
      · have := HL.out; simp; omega
      intro v2 w2 O2 hch F
      have O2 : Owns w2 5 v2 (u8s (bits01 (l ++ bitsOf x (k + 1)))) := by
        rw [bitsOf_succ, ← List.append_assoc]; simpa [bits01, u8s] using O2
      obtain ⟨g2, cap2, rfl, _, _⟩ := O2.row (by intro e; have := congrArg List.length e; simp at this)
      simp only [length_u8s, length_bits01, List.length_append, length_bitsOf] at O2 F
      have hvp : v1.ownBlock ≠ some p := HWd.out.row.ne HWd.out.blk (by decide)
      have hB2 : Blk w2 p #[v1] 77 := hch.keep HWd.out.blk (fun e => hvp e.symm)
      have d0 : w2.cell? ⟨p, 0, none⟩ = some v1 := hB2.cell rfl
      have f0 : w2.frozen? ⟨p, 0, none⟩ = false := hB2.free 0
      have hpg : p ≠ g2 := hB2.ne (O2.blk g2 rfl).choose_spec (by decide)
      have hch2 : Chg (fun k => k = p ∨ some k = v.ownBlock) w w2 := HCd.out.trans hch (fun k hk h => by
        rcases HG1.out k h.symm with h2 | h2
        · exact .inr h2
        · omega)
      have hsz : w.heap.size ≤ wd.heap.size := HCd.out.size
      have F2 : ∀ g, some g2 = some g → some g = v.ownBlock ∨ w.heap.size ≤ g := fun g hg => by
        rcases F g hg with h2 | h2
        · exact HG1.out g h2.symm
        · omega
      have O2 := kept O2
      have HB2 := kept hB2
      have HC2 := kept hch2
      have HF2 := kept F2
      clear hB2 hch2 hch F F2 hvp
      go_wp2_with fail
      refine hK _ _ ?_
      go_wp2_with fail
      go_roundw
      case rel =>
        refine ⟨k + 1, by omega, by go_num, _, ⟨HB2.out.set 0 _, O2.out.setOther (a := ⟨p, 0, none⟩) (fun e => hpg (by simpa [Value.ownBlock] using e.symm)) _⟩, ?_, HF2.out⟩
        exact HC2.out.trans (Chg.setCell w2 ⟨p, 0, none⟩ _) (fun k _ h => .inl h)
      case measure => simp [intOf]; omega
    · go_wp2_with fail
      go_end0
      have : k = N := by omega
      subst this
      exact ⟨rfl, v1, by rw [← HN.out]; exact HW1.out, HC1.out, HG1.out⟩
end Go.Proofs.Ytnakjencodicmaa

-- ---- Bx
/- bits.Reader: what its methods do. -/
namespace Go.Proofs.Ytnakjencodicmaa
set_option maxRecDepth 100000
set_option linter.unusedSimpArgs false
set_option linter.unusedVariables false
open Go.RowKit Mix _root_.Go.Proofs.Ytnakjencodicmaa.Own Bits
attribute [local go_sem] max_int min_int

/-- A Reader at block p: the text s, the place. -/
def IsRd (w : World) (p : Nat) (s : ByteArray) (k : Nat) : Prop := Blk w p #[.string s, .int .i64 (k : Int)] 116

set_option maxHeartbeats 1000000 in
theorem left_calls (p : Nat) (s : ByteArray) (k : Nat) (w : World) (h : IsRd w p s k) (hs : s.size ≤ 1000000000000) (hk : k ≤ 8 * s.size) :
    Calls Try.prog 52 #[.pointer (some ⟨p, 0, none⟩)] w fun e w' => e = .returned (.int .i64 (8 * (s.size : Int) - k)) ∧ Below w.heap.size w w' := by
  have c0 : w.cell? ⟨p, 0, none⟩ = some (.string s) := Blk.cell h rfl
  have c1 : w.cell? ⟨p, 1, none⟩ = some (.int .i64 (k : Int)) := Blk.cell h rfl
  have l0 := lat_cell c0
  have l1 := lat_cell c1
  have H := kept h
  clear h
  go_enter Try.func52, Try.ntmps52
  go_wp2_with fail
  refine wp_region_quietL (by kernel_rfl) (by kernel_rfl) ?_
  repeat (go_big_quiet_step (fail))
  refine wpQuiet_nil ?_
  intro nq
  go_wp2_with fail
  go_ret
  exact ⟨rfl, nq.below⟩

set_option maxHeartbeats 1000000 in
theorem rbit_calls (p : Nat) (s : ByteArray) (k : Nat) (w : World) (h : IsRd w p s k) (hs : s.size ≤ 1000000000000) (hk : k < 8 * s.size) :
    Calls Try.prog 60 #[.pointer (some ⟨p, 0, none⟩)] w fun e w' => e = .returned (.int .u64 ((bitS s k).toNat : Int)) ∧ IsRd w' p s (k + 1) ∧ Chg (fun b => b = p) w w' := by
  have c0 : w.cell? ⟨p, 0, none⟩ = some (.string s) := Blk.cell h rfl
  have c1 : w.cell? ⟨p, 1, none⟩ = some (.int .i64 (k : Int)) := Blk.cell h rfl
  have l0 := lat_cell c0
  have l1 := lat_cell c1
  have hix := run_ix (P := Try.prog) (T := 9) Try.underlying9 s ((k : Int) / 8) (k / 8) (by omega) (by omega)
  obtain ⟨b, hb⟩ : ∃ b, b = byteS s (k / 8) := ⟨_, rfl⟩
  have hb8 : b < 256 := by rw [hb]; exact byteS_lt _ _
  rw [← hb] at hix
  have HB := kept hb
  clear hb
  have H := kept h
  clear h
  go_enter Try.func60, Try.ntmps60
  go_wp2_with fail
  refine wp_region_quietL (by kernel_rfl) (by kernel_rfl) ?_
  repeat (go_big_quiet_step (fail))
  refine wpQuiet_nil ?_
  intro nq
  have hbit := and_bit b (k % 8) hb8
  rw [hbit]
  have hB1 : Blk nq.w p #[.string s, .int .i64 (k : Int)] 116 := lat_block H.out nq
  have hch := (Chg.of_below (S := fun b => b = p) nq.below)
  generalize nq.w = w1 at hB1 hch ⊢
  have d1 : w1.cell? ⟨p, 1, none⟩ = some (.int .i64 (k : Int)) := hB1.cell rfl
  have f1 : w1.frozen? ⟨p, 1, none⟩ = false := hB1.free 1
  have HB1 := kept hB1
  have HC1 := kept hch
  clear hbit hB1 hch l0 l1 c0 c1 hix
  go_wp2_with fail
  go_ret
  refine ⟨by rw [HB.out]; rfl, ?_, HC1.out.trans (Chg.setCell w1 ⟨p, 1, none⟩ _) (fun _ _ h => h)⟩
  have := HB1.out.set 1 (.int .i64 ((k : Int) + 1))
  simpa [IsRd] using this

/-- What is got: the number, the error, the place behind. -/
def getS (s : ByteArray) (k : Nat) (n : Int) : Nat × Nat × Nat :=
  if n < 0 ∨ 64 < n then (0, 1, k) else if 8 * (s.size : Int) - k < n then (0, 2, k) else (ofBits (((bitsS s).drop k).take n.toNat), 0, k + n.toNat)

set_option maxHeartbeats 2000000 in
theorem get_ok (p : Nat) (s : ByteArray) (k n : Nat) (w : World) (h : IsRd w p s k) (hs : s.size ≤ 1000000000000) (hk : k ≤ 8 * s.size) (hn : n ≤ 64) (hl : k + n ≤ 8 * s.size) :
    Calls Try.prog 51 #[.pointer (some ⟨p, 0, none⟩), .int .i64 (n : Int)] w fun e w' => e = .returned (.tuple #[.int .u64 (ofBits (((bitsS s).drop k).take n) : Int), .int .i64 0]) ∧
      IsRd w' p s (k + n) ∧ Chg (fun b => b = p) w w' := by
  have H := kept h
  clear h
  have t1 : decide ((n : Int) < 0) = false := by simp
  have t2 : decide ((64 : Int) < (n : Int)) = false := by simp; omega
  have t3 : decide (8 * (s.size : Int) - (k : Int) < (n : Int)) = false := by simp; omega
  go_enter Try.func51, Try.ntmps51
  go_wp2_with (first | (go_at_call 52; refine (left_calls p s k w H.out hs hk).mono ?_; rintro e w1 ⟨rfl, hb1⟩; have HB1 := kept hb1; clear hb1))
  go_loopw [7, 27] (fun s7 s27 wr => ∃ i : Nat, i ≤ n ∧ s27 = .int .i64 (i : Int) ∧ s7 = .int .u64 (ofBits (((bitsS s).drop k).take i) : Int) ∧ IsRd wr p s (k + i) ∧ Chg (fun b => b = p) w wr)
    (fun _ s27 _ => n - (intOf s27).toNat)
  case atStart => exact ⟨0, Nat.zero_le _, rfl, by simp [ofBits], by rw [Nat.add_zero]; exact (HB1.out.block p (Blk.lt H.out)).trans H.out, Chg.of_below HB1.out⟩
  case round =>
    obtain ⟨i, hi, rfl, rfl, hR, hC⟩ := hrel
    have HR := kept hR
    have HC := kept hC
    obtain ⟨z, hz⟩ : ∃ z, z = ofBits (((bitsS s).drop k).take i) := ⟨_, rfl⟩
    rw [← hz]
    have HZ := kept hz
    clear hR hC hz
    by_cases hlt : i < n
    · have hki : k + i < 8 * s.size := by omega
      obtain ⟨y, hy⟩ : ∃ y, y = (bitS s (k + i)).toNat := ⟨_, rfl⟩
      have hy1 : y ≤ 1 := by rw [hy]; cases bitS s (k + i) <;> simp
      have HY := kept hy
      clear hy
      go_wp2_with (first | (go_at_call 60; refine (rbit_calls p s (k + i) wr HR.out hs hki).mono ?_; rw [← HY.out]; rintro e w2 ⟨rfl, hR2, hC2⟩; have HR2 := kept hR2; have HC2 := kept hC2; clear hR2 hC2))
      go_roundw
      case rel =>
        refine ⟨i + 1, by omega, by go_num, ?_, HR2.out, HC.out.trans HC2.out (fun _ _ h => h)⟩
        rw [HZ.out, HY.out, drop_step s k i hki, or_step _ _ i (by simp; omega) (by omega)]
      case measure => simp [intOf]; omega
    · go_wp2_with fail
      go_ret2
      have : i = n := by omega
      subst this
      exact ⟨by rw [HZ.out]; rfl, HR.out, HC.out⟩

set_option maxHeartbeats 1000000 in
theorem get_arg (p : Nat) (s : ByteArray) (k : Nat) (n : Int) (w : World) (hn : n < 0 ∨ 64 < n) :
    Calls Try.prog 51 #[.pointer (some ⟨p, 0, none⟩), .int .i64 n] w fun e w' => e = .returned (.tuple #[.int .u64 0, .int .i64 1]) ∧ w = w' := by
  by_cases h0 : n < 0
  · have t1 : decide (n < 0) = true := by simp [h0]
    clear hn
    go_enter Try.func51, Try.ntmps51
    go_wp2_with fail
    go_ret2
    exact ⟨rfl, rfl⟩
  · have t1 : decide (n < 0) = false := by simp [h0]
    have t2 : decide ((64 : Int) < n) = true := by simp; omega
    have h1 : (64 : Int) < n := by omega
    clear hn
    go_enter Try.func51, Try.ntmps51
    go_wp2_with fail
    go_ret2
    exact ⟨rfl, rfl⟩

set_option maxHeartbeats 1000000 in
theorem get_more (p : Nat) (s : ByteArray) (k n : Nat) (w : World) (h : IsRd w p s k) (hs : s.size ≤ 1000000000000) (hk : k ≤ 8 * s.size) (hn : n ≤ 64) (hl : 8 * s.size < k + n) :
    Calls Try.prog 51 #[.pointer (some ⟨p, 0, none⟩), .int .i64 (n : Int)] w fun e w' => e = .returned (.tuple #[.int .u64 0, .int .i64 2]) ∧ Below w.heap.size w w' := by
  have H := kept h
  clear h
  have t1 : decide ((n : Int) < 0) = false := by simp
  have t2 : decide ((64 : Int) < (n : Int)) = false := by simp; omega
  have t3 : decide (8 * (s.size : Int) - (k : Int) < (n : Int)) = true := by simp; omega
  go_enter Try.func51, Try.ntmps51
  go_wp2_with (first | (go_at_call 52; refine (left_calls p s k w H.out hs hk).mono ?_; rintro e w1 ⟨rfl, hb1⟩; have HB1 := kept hb1; clear hb1))
  go_ret2
  exact ⟨rfl, HB1.out⟩

/-- Get, whatever is asked. -/
theorem get_calls (p : Nat) (s : ByteArray) (k : Nat) (n : Int) (w : World) (h : IsRd w p s k) (hs : s.size ≤ 1000000000000) (hk : k ≤ 8 * s.size) :
    Calls Try.prog 51 #[.pointer (some ⟨p, 0, none⟩), .int .i64 n] w fun e w' => e = .returned (.tuple #[.int .u64 ((getS s k n).1 : Int), .int .i64 ((getS s k n).2.1 : Int)]) ∧
      IsRd w' p s (getS s k n).2.2 ∧ Chg (fun b => b = p) w w' := by
  unfold getS
  by_cases hn : n < 0 ∨ 64 < n
  · rw [if_pos hn]
    exact (get_arg p s k n w hn).mono fun e w' ⟨he, hw⟩ => by subst hw; exact ⟨he, h, Chg.refl _ _⟩
  · rw [if_neg hn]
    obtain ⟨m, rfl⟩ := Int.eq_ofNat_of_zero_le (show 0 ≤ n by omega)
    rw [Int.toNat_natCast]
    by_cases hl : 8 * (s.size : Int) - k < (m : Int)
    · rw [if_pos hl]
      exact (get_more p s k m w h hs hk (by omega) (by omega)).mono fun e w' ⟨he, hb⟩ => ⟨he, (hb.block p (Blk.lt h)).trans h, Chg.of_below hb⟩
    · rw [if_neg hl]
      exact get_ok p s k m w h hs hk (by omega) (by omega)

theorem getS_le (s : ByteArray) (k : Nat) (n : Int) (hk : k ≤ 8 * s.size) : (getS s k n).2.2 ≤ 8 * s.size := by
  unfold getS
  split
  · exact hk
  · split
    · exact hk
    · show k + n.toNat ≤ _; omega
end Go.Proofs.Ytnakjencodicmaa

-- ---- Bf
/- A text, its bits, and bits made a text: plain facts. -/
namespace Go.Proofs.Ytnakjencodicmaa
set_option maxRecDepth 100000
set_option linter.unusedSimpArgs false
set_option linter.unusedVariables false
open Go.RowKit Mix _root_.Go.Proofs.Ytnakjencodicmaa.Own Bits

theorem ext_getD {l m : List Bool} (hl : l.length = m.length) (h : ∀ i, l.getD i false = m.getD i false) : l = m := by
  apply List.ext_getElem hl
  intro i h1 h2
  have := h i
  simp only [List.getD_eq_getElem?_getD, List.getElem?_eq_getElem h1, List.getElem?_eq_getElem h2, Option.getD_some] at this
  exact this

@[simp] theorem size_textOf (l : List Nat) : (textOf l).size = l.length := by simp [textOf, ByteArray.size]

theorem byteS_textOf (l : List Nat) (i : Nat) (h : ∀ x ∈ l, x < 256) : byteS (textOf l) i = l.getD i 0 := by
  unfold byteS textOf
  simp only [List.getD_eq_getElem?_getD]
  rcases Nat.lt_or_ge i l.length with hi | hi
  · have := h _ (List.getElem_mem hi)
    simp [hi]
    omega
  · simp [hi]

theorem pack_lt (l : List Bool) : ∀ x ∈ pack l, x < 256 := packN_lt l _

theorem bitS_pack (l : List Bool) (k : Nat) (hk : k < 8 * ((l.length + 7) / 8)) : bitS (textOf (pack l)) k = l.getD k false := by
  unfold bitS
  rw [byteS_textOf _ _ (pack_lt l)]
  have : (pack l).getD (k / 8) 0 = byteAt l (k / 8) := by
    rw [List.getD_eq_getElem?_getD, pack, getElem?_packN _ _ _ (by omega)]; rfl
  rw [this, testBit_byteAt]
  have e : 8 * (k / 8) + k % 8 = k := by omega
  have e2 : k % 8 < 8 := by omega
  simp [e, e2]

theorem bitsS_textOf (l : List Bool) : bitsS (textOf (pack l)) = l ++ List.replicate (8 * ((l.length + 7) / 8) - l.length) false := by
  apply ext_getD
  · simp; omega
  · intro i
    rw [getD_bitsS]
    simp only [size_textOf, length_pack]
    by_cases h : i < 8 * ((l.length + 7) / 8)
    · rw [bitS_pack l i h]
      simp only [h, decide_true, Bool.true_and, List.getD_eq_getElem?_getD]
      rcases Nat.lt_or_ge i l.length with h2 | h2
      · rw [List.getElem?_append_left h2]
      · rw [List.getElem?_append_right h2, List.getElem?_eq_none h2, List.getElem?_replicate]
        split <;> rfl
    · simp only [h, decide_false, Bool.false_and, List.getD_eq_getElem?_getD]
      rw [List.getElem?_eq_none (by simp; omega)]; rfl

theorem take_bitsS (s : ByteArray) (m : Nat) (h : m ≤ 8 * s.size) : (bitsS s).take m = (List.range m).map (bitS s) := by
  rw [bitsS, ← List.map_take, List.take_range, Nat.min_eq_left h]

theorem take_byte (s : ByteArray) (i : Nat) (h : i < s.size) : (bitsS s).take (8 * (i + 1)) = (bitsS s).take (8 * i) ++ bitsOf (byteS s i) 8 := by
  rw [take_bitsS _ _ (by omega), take_bitsS _ _ (by omega), show 8 * (i + 1) = 8 * i + 8 by omega, List.range_add, List.map_append, List.map_map]
  congr 1
  unfold bitsOf
  apply List.map_congr_left
  intro j hj
  have hj8 : j < 8 := List.mem_range.1 hj
  show bitS s (8 * i + j) = _
  unfold bitS
  rw [show (8 * i + j) / 8 = i by omega, show (8 * i + j) % 8 = j by omega]

theorem take_all (s : ByteArray) : (bitsS s).take (8 * s.size) = bitsS s := List.take_of_length_le (by simp)

theorem byteAt_bitsS (s : ByteArray) (k : Nat) (h : k < s.size) : byteAt (bitsS s) k = byteS s k := by
  apply Nat.eq_of_testBit_eq
  intro j
  rw [testBit_byteAt, getD_bitsS]
  by_cases hj : j < 8
  · have h1 : 8 * k + j < 8 * s.size := by omega
    simp only [hj, h1, decide_true, Bool.true_and, bitS]
    rw [show (8 * k + j) / 8 = k by omega, show (8 * k + j) % 8 = j by omega]
  · simp only [hj, decide_false, Bool.false_and]
    symm
    apply Nat.testBit_lt_two_pow
    have hb := byteS_lt s k
    have : 2 ^ 8 ≤ 2 ^ j := Nat.pow_le_pow_right (by decide) (by omega)
    omega

theorem textOf_bitsS (s : ByteArray) : textOf (pack (bitsS s)) = s := by
  have e : pack (bitsS s) = s.data.toList.map UInt8.toNat := by
    apply List.ext_getElem?
    intro k
    rcases Nat.lt_or_ge k s.size with hk | hk
    · rw [pack, getElem?_packN _ _ _ (by simp; omega), byteAt_bitsS s k hk, List.getElem?_map]
      unfold byteS
      rw [List.getD_eq_getElem?_getD]
      have hk' : k < s.data.toList.length := by rw [Array.length_toList]; exact hk
      rw [List.getElem?_eq_getElem hk']
      rfl
    · rw [List.getElem?_eq_none (by simp; omega), List.getElem?_eq_none (by rw [List.length_map, Array.length_toList]; exact hk)]
  rw [e]
  unfold textOf
  have e2 : (s.data.toList.map UInt8.toNat).map UInt8.ofNat = s.data.toList := by
    rw [List.map_map]
    conv => rhs; rw [← List.map_id s.data.toList]
    apply List.map_congr_left
    intro x _
    simp
  rw [e2]

theorem bitsOf_zero (k : Nat) : bitsOf 0 k = List.replicate k false := by
  apply ext_getD (by simp)
  intro i
  rw [getD_bitsOf, List.getD_eq_getElem?_getD, List.getElem?_replicate]
  split <;> simp

theorem bitsOf_or256 (b : Nat) : bitsOf (b ||| 256) 8 = bitsOf b 8 := by
  apply ext_getD (by simp)
  intro i
  rw [getD_bitsOf, getD_bitsOf, Nat.testBit_or]
  by_cases h : i < 8
  · have : (256 : Nat).testBit i = false := by
      rw [show (256 : Nat) = 2 ^ 8 by rfl, Nat.testBit_two_pow]; simp; omega
    simp [this]
  · simp [h]
end Go.Proofs.Ytnakjencodicmaa

-- ---- Bg
/- bits.From, and a Reader all of whose memory lies from a block on. -/
namespace Go.Proofs.Ytnakjencodicmaa
set_option maxRecDepth 100000
set_option linter.unusedSimpArgs false
set_option linter.unusedVariables false
open Go.RowKit Mix _root_.Go.Proofs.Ytnakjencodicmaa.Own Bits

set_option maxHeartbeats 1000000 in
theorem from_calls (s : ByteArray) (w : World) : Calls Try.prog 32 #[.string s] w fun e w' => ∃ p, e = .returned (.pointer (some ⟨p, 0, none⟩)) ∧ IsRd w' p s 0 ∧ Below w.heap.size w w' ∧ w.heap.size ≤ p := by
  go_enter Try.func32, Try.ntmps32
  go_wp2_with fail
  go_ret
  exact ⟨_, rfl, Blk.fresh _ _ _, (Below.refl _ _).alloc (Nat.le_refl _) _, Nat.le_refl _⟩
theorem IsRd.keep {w w' : World} {S : Nat → Prop} {p : Nat} {s : ByteArray} {k : Nat} (h : IsRd w p s k) (hc : Chg S w w') (hp : ¬ S p) : IsRd w' p s k := hc.keep h hp
theorem IsRd.later {w w' : World} {p : Nat} {s : ByteArray} {k : Nat} (h : IsRd w p s k) (hc : Below w.heap.size w w') : IsRd w' p s k := (hc.block p (Blk.lt h)).trans h
theorem get_new (B p : Nat) (s : ByteArray) (k : Nat) (n : Int) (w : World) (hB : B ≤ w.heap.size) (hp : B ≤ p) (h : IsRd w p s k) (hs : s.size ≤ 1000000000000) (hk : k ≤ 8 * s.size) :
    Calls Try.prog 51 #[.pointer (some ⟨p, 0, none⟩), .int .i64 n] w fun e w' => e = .returned (.tuple #[.int .u64 ((getS s k n).1 : Int), .int .i64 ((getS s k n).2.1 : Int)]) ∧
      IsRd w' p s (getS s k n).2.2 ∧ Below B w w' ∧ Chg (fun b => b = p) w w' :=
  (get_calls p s k n w h hs hk).mono fun e w' ⟨he, h1, h2⟩ => ⟨he, h1, h2.below hB (fun b hb e => by omega), h2⟩
end Go.Proofs.Ytnakjencodicmaa

-- ---- Jc
/- huff's reader: the class that bits begin with. Conditions: those that each theorem names. -/
namespace Go.Proofs.Ytnakjencodicmaa
set_option maxRecDepth 100000
set_option linter.unusedSimpArgs false
set_option linter.unusedVariables false
open Go.RowKit Mix _root_.Go.Proofs.Ytnakjencodicmaa.Own Bits Hu Dp
attribute [local go_sem] max_int min_int

theorem i64_or_nat (a b : Nat) (ha : a < 9223372036854775808) (hb : b < 9223372036854775808) : bits .or .i64 (a : Int) (b : Int) = ((a ||| b : Nat) : Int) := by
  show IntKind.i64.wrap ((BitVec.ofInt 64 (a : Int) ||| BitVec.ofInt 64 (b : Int)).toNat : Int) = _
  have h1 : (BitVec.ofInt 64 (a : Int)).toNat = a := by rw [BitVec.ofInt_natCast, BitVec.toNat_ofNat]; exact Nat.mod_eq_of_lt (by omega)
  have h2 : (BitVec.ofInt 64 (b : Int)).toNat = b := by rw [BitVec.ofInt_natCast, BitVec.toNat_ofNat]; exact Nat.mod_eq_of_lt (by omega)
  rw [BitVec.toNat_or, h1, h2, IntKind.wrap_i64]
  have h3 : a ||| b < 2 ^ 63 := Nat.or_lt_two_pow (by omega) (by omega)
  omega
theorem two_or (v b : Nat) (hb : b < 2) : 2 * v ||| b = 2 * v + b := by
  have h := Nat.shiftLeft_add_eq_or_of_lt (i := 1) (b := b) (by omega) v
  rw [Nat.shiftLeft_eq] at h
  rw [Nat.mul_comm 2 v]
  exact h.symm
theorem shl_or (v b : Nat) (hv : v < 1000000) (hb : b < 2) : bits .or .i64 ((v : Int) * 2) (b : Int) = ((2 * v + b : Nat) : Int) := by
  have e : (v : Int) * 2 = ((2 * v : Nat) : Int) := by omega
  rw [e, i64_or_nat _ _ (by omega) (by omega), two_or v b hb]

theorem drop_cons (s : ByteArray) (k : Nat) (h : k < 8 * s.size) : (bitsS s).drop k = bitS s k :: (bitsS s).drop (k + 1) := by
  rw [List.drop_eq_getElem_cons (by simpa using h)]
  congr 1
  have h2 := getD_bitsS s k
  rw [List.getD_eq_getElem?_getD, List.getElem?_eq_getElem (by simpa using h)] at h2
  simpa [h] using h2
theorem one_bit (s : ByteArray) (k : Nat) (h : k < 8 * s.size) : ofBits (((bitsS s).drop k).take 1) = (bitS s k).toNat := by
  rw [drop_cons s k h]
  simp [ofBits]
/-- One bit is got. -/
theorem get1_ok (q : Nat) (s : ByteArray) (k : Nat) (w : World) (h : IsRd w q s k) (hs : s.size ≤ 1000000000000) (hk : k < 8 * s.size) :
    Calls Try.prog 51 #[.pointer (some ⟨q, 0, none⟩), .int .i64 1] w fun e w' => e = .returned (.tuple #[.int .u64 (((bitS s k).toNat : Nat) : Int), .int .i64 0]) ∧ IsRd w' q s (k + 1) ∧ Chg (fun b => b = q) w w' := by
  have h1 := get_ok q s k 1 w h hs (by omega) (by decide) (by omega)
  rw [one_bit s k hk] at h1
  exact h1

/-- The reader of parts at block p: a reader of bits at q, a map at b. -/
structure IsHr (w : World) (p q b : Nat) (s : ByteArray) (k : Nat) (F : List (Nat × Nat × Nat)) : Prop where
  self : Blk w p #[.pointer (some ⟨q, 0, none⟩), .map (some b)] 85
  rd : IsRd w q s k
  mp : IsMp w b F
theorem IsHr.pq {w : World} {p q b : Nat} {s : ByteArray} {k : Nat} {F : List (Nat × Nat × Nat)} (h : IsHr w p q b s k F) : p ≠ q := Blk.ne h.self h.rd (by decide)
theorem IsHr.bq {w : World} {p q b : Nat} {s : ByteArray} {k : Nat} {F : List (Nat × Nat × Nat)} (h : IsHr w p q b s k F) : b ≠ q := by
  obtain ⟨es, clock, hb, _⟩ := h.mp
  have h2 := h.rd
  unfold IsRd Blk at h2
  intro e
  rw [e, h2] at hb
  cases hb
theorem IsHr.chg {w w' : World} {p q b : Nat} {s : ByteArray} {k k' : Nat} {F : List (Nat × Nat × Nat)} (h : IsHr w p q b s k F) (hc : Chg (fun x => x = q) w w') (hr : IsRd w' q s k') : IsHr w' p q b s k' F :=
  ⟨hc.keep h.self h.pq, hr, h.mp.keep hc h.bq⟩
/-- The map tells the classes. -/
def Tells (L : List Int) (F : List (Nat × Nat × Nat)) : Prop := ∀ v n, 1 ≤ n → lookL F v n = findC L v n
/-- What a step answers: the class and the error; the place behind. -/
def StepPost (L : List Int) (q : Nat) (s : ByteArray) (k : Nat) (w : World) (e : Ending) (w' : World) : Prop :=
  e = .returned (.tuple #[.int .i64 ((dec L ((bitsS s).drop k) 0 0).2.1 : Int), .int .i64 ((dec L ((bitsS s).drop k) 0 0).1 : Int)]) ∧
  ((dec L ((bitsS s).drop k) 0 0).1 = 0 → IsRd w' q s (k + (dec L ((bitsS s).drop k) 0 0).2.2)) ∧ Chg (fun b => b = q) w w'

set_option maxHeartbeats 4000000 in
theorem code_calls (L : List Int) (F : List (Nat × Nat × Nat)) (p q b : Nat) (s : ByteArray) (k : Nat) (w : World) (hm : mayL L = true) (hk : ks L = 32768) (hF : Fit F) (ht : Tells L F) (h : IsHr w p q b s k F) (hs : s.size ≤ 1000000000000) (hk2 : k ≤ 8 * s.size) :
    Calls Try.prog 33 #[.pointer (some ⟨p, 0, none⟩)] w (StepPost L q s k w) := by
  have H := kept h
  have HM := kept hm
  have HK := kept hk
  have HF := kept hF
  have HT := kept ht
  have HPQ := kept h.pq
  have HBQ := kept h.bq
  clear h hm hk hF ht
  go_enter Try.func33, Try.ntmps33
  go_wp2_with fail
  obtain ⟨pc, hpc⟩ : ∃ pc, pc = w.heap.size := ⟨_, rfl⟩
  generalize hw0 : World.alloc w _ = w0
  have HC0 : Kept (Blk w0 pc #[.int .i64 ((0 : Nat) : Int), .int .i64 ((0 : Nat) : Int)] 69 ∧ Below w.heap.size w w0) := kept (by
    rw [hpc, ← hw0]; exact ⟨Blk.fresh _ _ _, (Below.refl _ _).alloc (Nat.le_refl _) _⟩)
  have HPn : Kept (w.heap.size ≤ pc) := kept (Nat.le_of_eq hpc.symm)
  rw [← hpc]
  clear hw0 hpc
  go_loopg [] 15 (fun gk wr => ∃ v n : Nat, gk + n = 15 ∧ v < 2 ^ n ∧ Blk wr pc #[.int .i64 (v : Int), .int .i64 (n : Int)] 69 ∧ IsRd wr q s (k + n) ∧ Chg (fun x => x = q) w wr ∧ k + n ≤ 8 * s.size ∧ NoPre L v n ∧ dec L ((bitsS s).drop k) 0 0 = dec L ((bitsS s).drop (k + n)) v n)
  case atStart => exact ⟨0, 0, rfl, by decide, HC0.out.1, H.out.rd.later HC0.out.2, Chg.of_below HC0.out.2, hk2, noPre_zero L, rfl⟩
  case round =>
    obtain ⟨v, n, hg, hv, hB, hR, hC, hkn, hN, hD⟩ := hrel
    have hn15 : n < 15 := by
      rcases Nat.lt_or_ge n 15 with h | h
      · exact h
      · exfalso
        have e : n = 15 := by omega
        subst e
        exact full15 HM.out HK.out hv hN
    have hv14 : v < 16384 := Nat.lt_of_lt_of_le hv ((Nat.pow_le_pow_right (by decide) (by omega) : 2 ^ n ≤ 2 ^ 14))
    have HV := kept hv
    have HB := kept hB
    have HR := kept hR
    have HC := kept hC
    have HN := kept hN
    have HD := kept hD
    have HG := kept hg
    have hself := HC.out.keep H.out.self HPQ.out
    have c0 : wr.cell? ⟨pc, 0, none⟩ = some (.int .i64 (v : Int)) := Blk.cell hB rfl
    have c1 : wr.cell? ⟨pc, 1, none⟩ = some (.int .i64 (n : Int)) := Blk.cell hB rfl
    have s0 : wr.cell? ⟨p, 0, none⟩ = some (.pointer (some ⟨q, 0, none⟩)) := Blk.cell hself rfl
    have s1 : wr.cell? ⟨p, 1, none⟩ = some (.map (some b)) := Blk.cell hself rfl
    have t15 : decide ((n : Int) < 15) = true := decide_eq_true (by omega)
    clear hv hB hR hC hN hD hself hg
    by_cases hmore : k + n < 8 * s.size
    · have HGet := kept (get1_ok q s (k + n) wr HR.out hs hmore)
      have hpq := HPQ.out
      have HLt := kept hmore
      obtain ⟨bt, hbt⟩ : ∃ bt, bt = (bitS s (k + n)).toNat := ⟨_, rfl⟩
      have hb2 : bt < 2 := by rw [hbt]; cases bitS s (k + n) <;> decide
      have hpn := HPn.out
      have hne : pc ≠ q := fun e => by have := Blk.lt H.out.rd; omega
      rw [← hbt] at HGet
      have HBt := kept hbt
      clear hbt
      go_wp2_with fail
      refine HGet.out.mono ?_
      rintro e w2 ⟨rfl, hR2, hC2⟩
      have hB2 : Blk w2 pc #[.int .i64 (v : Int), .int .i64 (n : Int)] 69 := hC2.keep HB.out hne
      have d0 : w2.cell? ⟨pc, 0, none⟩ = some (.int .i64 (v : Int)) := Blk.cell hB2 rfl
      have d1 : w2.cell? ⟨pc, 1, none⟩ = some (.int .i64 (n : Int)) := Blk.cell hB2 rfl
      have f0 : w2.frozen? ⟨pc, 0, none⟩ = false := Blk.free hB2 0
      have f1 : w2.frozen? ⟨pc, 1, none⟩ = false := Blk.free hB2 1
      have hor := shl_or v bt (by omega) hb2
      have HR2 := kept hR2
      have HC2 := kept (HC.out.trans hC2 (fun _ _ h => h))
      have HB2 := kept hB2
      clear hR2 hC2 hB2 c0 c1 s0 s1 hne
      go_upto_region 7 with fail
      generalize hw3 : World.setCell _ _ _ = w3
      have hblt : b < w.heap.size := H.out.mp.lt
      have hqlt : q < w.heap.size := Blk.lt H.out.rd
      have hplt : p < w.heap.size := Blk.lt H.out.self
      have h23 : Chg (fun x => x = pc) w2 w3 := by rw [← hw3]; exact (Chg.setCell w2 ⟨pc, 0, none⟩ _).trans (Chg.setCell _ ⟨pc, 1, none⟩ _) (fun _ _ h => h)
      have hB3 : Blk w3 pc #[.int .i64 (2 * (v : Int) + (bt : Int)), .int .i64 ((n : Int) + 1)] 69 := by
        rw [← hw3]
        have h := (HB2.out.set 0 (.int .i64 (2 * (v : Int) + (bt : Int)))).set 1 (.int .i64 ((n : Int) + 1))
        simpa using h
      have hR3 : IsRd w3 q s (k + n + 1) := h23.keep HR2.out (by omega)
      have hM3 : IsMp w3 b F := (H.out.mp.keep HC2.out HBQ.out).keep h23 (by omega)
      have hS3 := h23.keep (HC2.out.keep H.out.self HPQ.out) (show ¬ p = pc by omega)
      have hC3 : Chg (fun x => x = q) w w3 := HC2.out.trans h23 (fun x hx h => by omega)
      have e0 := lat_cell (Blk.cell hB3 (i := 0) rfl)
      have e1 := lat_cell (Blk.cell hB3 (i := 1) rfl)
      have e2 := lat_cell (Blk.cell hS3 (i := 1) rfl)
      have hlk : ∀ m : Lat w3, (Instr.lookup 83 (.map (some b)) (.agg #[.int .i64 (2 * (v : Int) + (bt : Int)), .int .i64 ((n : Int) + 1)]) true).run Try.prog m.w = .ok (lookV (findC L (2 * v + bt) (n + 1))) m.w := fun m => by
        rw [← HT.out (2 * v + bt) (n + 1) (by omega)]
        exact (hM3.later m.below).look HF.out (2 * v + bt) (n + 1) (by omega) (by omega)
      have HR3 := kept hR3
      have HM3 := kept hM3
      have HB3 := kept hB3
      have HC3 := kept hC3
      have hdc := drop_cons s (k + n) HLt.out
      have HDc := kept hdc
      have hd2 := HD.out
      rw [hdc] at hd2
      have HD2 := kept hd2
      clear hw3 h23 hB3 hR3 hM3 hS3 hC3 d0 d1 f0 f1 hor hdc hd2
      cases hf : findC L (2 * v + bt) (n + 1) with
      | some c =>
        rw [hf] at hlk
        simp only [lookV, Option.getD_some, Option.isSome_some] at hlk
        have hdd : dec L ((bitsS s).drop k) 0 0 = (0, c, n + 1) := by rw [HD2.out]; exact dec_find (by rw [← HBt.out]; exact hf)
        have HDd := kept hdd
        clear hf hdd
        refine wp_region_quietL (by kernel_rfl) (by kernel_rfl) ?_
        repeat (go_big_quiet_step (fail))
        refine wpQuiet_nil ?_
        intro nq
        go_wp2_with fail
        go_ret2
        unfold StepPost
        rw [HDd.out]
        exact ⟨rfl, fun _ => HR3.out.later nq.below, HC3.out.trans (Chg.of_below nq.below) (fun _ _ h => h)⟩
      | none =>
        rw [hf] at hlk
        simp only [lookV, Option.getD_none, Option.isSome_none] at hlk
        have hnp := noPre_next HN.out hb2 hf
        have hv2 : 2 * v + bt < 2 ^ (n + 1) := by have := HV.out; rw [Nat.pow_succ]; omega
        have hbg := full HM.out HK.out (by omega) hv2 hnp
        have hdd : dec L ((bitsS s).drop k) 0 0 = dec L ((bitsS s).drop (k + n + 1)) (2 * v + bt) (n + 1) := by
          rw [HD2.out, HBt.out]; exact dec_next (by rw [← HBt.out]; exact hf) (by rw [← HBt.out]; exact hbg)
        have HDd := kept hdd
        have HNp := kept hnp
        have HV2 := kept hv2
        clear hf hdd hnp hv2 hbg
        refine wp_region_quietL (by kernel_rfl) (by kernel_rfl) ?_
        repeat (go_big_quiet_step (fail))
        refine wpQuiet_nil ?_
        intro nq
        go_wp2_with fail
        go_roundg (gk - 1)
        case measure => have := HG.out; omega
        case rel => exact ⟨2 * v + bt, n + 1, by have := HG.out; omega, HV2.out, by simpa using lat_block HB3.out nq, HR3.out.later nq.below, HC3.out.trans (Chg.of_below nq.below) (fun _ _ h => h), by have := HLt.out; omega, HNp.out, HDd.out⟩
    · have hkn2 : k + n = 8 * s.size := by omega
      have HGet := kept (get_more q s (k + n) 1 wr HR.out hs hkn (by decide) (by omega))
      have he : (bitsS s).drop (k + n) = [] := List.drop_eq_nil_of_le (by simp; omega)
      have hd2 : dec L ((bitsS s).drop k) 0 0 = (2, 0, n) := by rw [HD.out, he]; rfl
      have HD2 := kept hd2
      clear hkn2 he hd2 hmore
      go_wp2_with (first | (go_at_call 51; refine HGet.out.mono ?_; rintro e w2 ⟨rfl, hb2⟩; have HB2 := kept hb2; clear hb2))
      go_ret2
      unfold StepPost
      rw [HD2.out]
      exact ⟨rfl, fun h => by simp at h, HC.out.trans (Chg.of_below HB2.out) (fun _ _ h => h)⟩

set_option maxHeartbeats 4000000 in
theorem only_calls (L : List Int) (F : List (Nat × Nat × Nat)) (p q b : Nat) (s : ByteArray) (k : Nat) (w : World) (hm : mayL L = true) (hk : sm L < 2) (hF : Fit F) (ht : Tells L F) (h : IsHr w p q b s k F) (hs : s.size ≤ 1000000000000) (hk2 : k ≤ 8 * s.size) :
    Calls Try.prog 34 #[.pointer (some ⟨p, 0, none⟩)] w (StepPost L q s k w) := by
  have H := kept h
  have HM := kept hm
  have HK := kept hk
  have HF := kept hF
  have HT := kept ht
  have HPQ := kept h.pq
  have HBQ := kept h.bq
  have s0 : w.cell? ⟨p, 0, none⟩ = some (.pointer (some ⟨q, 0, none⟩)) := Blk.cell h.self rfl
  have hpq := h.pq
  clear h hm hk hF ht
  by_cases hmore : k < 8 * s.size
  · have HGet := kept (get1_ok q s k w H.out.rd hs hmore)
    have hdc := drop_cons s k hmore
    have HDc := kept hdc
    obtain ⟨bt, hbt⟩ : ∃ bt, bt = (bitS s k).toNat := ⟨_, rfl⟩
    have hb2 : bt < 2 := by rw [hbt]; cases bitS s k <;> decide
    rw [← hbt] at HGet
    have HBt := kept hbt
    clear hbt hdc hmore
    go_enter Try.func34, Try.ntmps34
    go_wp2_with fail
    refine HGet.out.mono ?_
    rintro e w2 ⟨rfl, hR2, hC2⟩
    have hS2 := hC2.keep H.out.self HPQ.out
    have s1 : w2.cell? ⟨p, 1, none⟩ = some (.map (some b)) := Blk.cell hS2 rfl
    have hM2 := H.out.mp.keep hC2 HBQ.out
    have hlk : (Instr.lookup 83 (.map (some b)) (.agg #[.int .i64 (bt : Int), .int .i64 1]) true).run Try.prog w2 = .ok (lookV (findC L bt 1)) w2 := by
      rw [← HT.out bt 1 (by omega)]
      exact hM2.look HF.out bt 1 (by omega) (by omega)
    have HR2 := kept hR2
    have HC2 := kept hC2
    have HM2 := kept hM2
    clear s0 hR2 hC2 hS2 hM2
    cases hf : findC L bt 1 with
    | some c =>
      rw [hf] at hlk
      simp only [lookV, Option.getD_some, Option.isSome_some] at hlk
      have hdd : dec L ((bitsS s).drop k) 0 0 = (0, c, 1) := by rw [HDc.out]; exact dec_find (by rw [← HBt.out]; simpa using hf)
      have HDd := kept hdd
      clear hf hdd
      go_wp2_with fail
      go_ret2
      unfold StepPost
      rw [HDd.out]
      exact ⟨rfl, fun _ => HR2.out, HC2.out⟩
    | none =>
      rw [hf] at hlk
      simp only [lookV, Option.getD_none, Option.isSome_none] at hlk
      have hdd : dec L ((bitsS s).drop k) 0 0 = (3, 0, 1) := by rw [HDc.out]; exact dec_one HM.out HK.out _ _ (by rw [← HBt.out]; exact hf)
      have HDd := kept hdd
      clear hf hdd
      go_wp2_with fail
      go_ret2
      unfold StepPost
      rw [HDd.out]
      exact ⟨rfl, fun h => by simp at h, HC2.out⟩
  · have hkn2 : k = 8 * s.size := by omega
    have HGet := kept (get_more q s k 1 w H.out.rd hs hk2 (by decide) (by omega))
    have he : (bitsS s).drop k = [] := List.drop_eq_nil_of_le (by simp; omega)
    have hd2 : dec L ((bitsS s).drop k) 0 0 = (2, 0, 0) := by rw [he]; rfl
    have HD2 := kept hd2
    clear hkn2 he hd2 hmore
    go_enter Try.func34, Try.ntmps34
    go_wp2_with (first | (go_at_call 51; refine HGet.out.mono ?_; rintro e w2 ⟨rfl, hb2⟩; have HB2 := kept hb2; clear hb2))
    go_ret2
    unfold StepPost
    rw [HD2.out]
    exact ⟨rfl, fun h => by simp at h, Chg.of_below HB2.out⟩
end Go.Proofs.Ytnakjencodicmaa

-- ---- Mt
/- A region that draws its order: some operations first, then a tree of orders. Conditions: the Bools over the region's own text. -/
namespace Go.Proofs.Ytnakjencodicmaa.Mix
set_option maxRecDepth 100000
set_option linter.unusedSimpArgs false
set_option linter.unusedVariables false
open Go.RowKit
section
variable {P : Program} {md : Region.Mode} {ops : Array Oper} {Q : Exit → Act → World → Prop} {C : World → Prop}

/-- Orders: a chain, or one of two first. -/
inductive Ord
  | chain (ts : List Nat)
  | pre (ts : List Nat) (t : Ord)
  | fork (i : Nat) (t : Ord) (j : Nat) (u : Ord)
  | fork3 (i : Nat) (t : Ord) (j : Nat) (u : Ord) (k : Nat) (v : Ord)
def Ord.nodes : Ord → List Nat
  | .chain ts => ts
  | .pre ts t => ts ++ t.nodes
  | .fork i t j u => i :: j :: (t.nodes ++ u.nodes)
  | .fork3 i t j u k v => i :: j :: k :: (t.nodes ++ (u.nodes ++ v.nodes))
/-- A chain that is forced, what follows left open. -/
def ordP (md : Region.Mode) (ops : Array Oper) : List Nat → Array Bool → Bool
  | [], listed => true
  | i :: l, listed => decide (Region.ready md ops listed = [i]) && ordP md ops l (listed.setIfInBounds i true)
def Ord.okB (md : Region.Mode) (ops : Array Oper) : Ord → Nat → Array Bool → Bool
  | .chain ts, n, listed => decide (ts.length = n) && seqL md ops ts listed
  | .pre ts t, n, listed => decide (ts.length ≤ n) && ordP md ops ts listed && t.okB md ops (n - ts.length) (marked listed ts)
  | .fork _ _ _ _, 0, _ => false
  | .fork3 _ _ _ _ _ _, 0, _ => false
  | .fork3 i t j u k v, n + 1, listed => decide (Region.ready md ops listed = [i, j, k]) && t.okB md ops n (listed.setIfInBounds i true) && u.okB md ops n (listed.setIfInBounds j true) && v.okB md ops n (listed.setIfInBounds k true)
  | .fork i t j u, n + 1, listed => decide (Region.ready md ops listed = [i, j]) && t.okB md ops n (listed.setIfInBounds i true) && u.okB md ops n (listed.setIfInBounds j true)
def wpOrd (P : Program) (ops : Array Oper) (l : List Oper) (K : Act → World → Prop) : Ord → Act → World → Prop
  | .chain ts, a, w => wpList P ops (Only K) (pick l ts) a w
  | .fork i t j u, a, w => wpList P ops (Only (wpOrd P ops l K t)) (pick l [i]) a w ∧ wpList P ops (Only (wpOrd P ops l K u)) (pick l [j]) a w
  | .pre ts t, a, w => wpList P ops (Only (wpOrd P ops l K t)) (pick l ts) a w
  | .fork3 i t j u k v, a, w => wpList P ops (Only (wpOrd P ops l K t)) (pick l [i]) a w ∧ wpList P ops (Only (wpOrd P ops l K u)) (pick l [j]) a w ∧ wpList P ops (Only (wpOrd P ops l K v)) (pick l [k]) a w
theorem ord_outgrown (K : Act → World → Prop) : ¬ LetsOut (Only K) := fun ⟨_, _, h⟩ => h
theorem ord_only {o : Oper} {a : Act} {w : World} {K K1 K2 : Act → World → Prop} (hh : o.wp P a w K (Only K1)) : o.wp P a w K (Only K2) := by
  unfold Oper.wp at *
  generalize (execOp a.eval o).run P w = r at *
  cases r with
  | ok n w' =>
    cases n with
    | enter f args =>
      rw [Oper.upon_enter] at hh ⊢
      refine Calls.mono hh ?_
      intro e w'' h
      cases e with
      | returned v => exact h
      | panicked c => exact (h : False).elim
      | outgrown => exact (ord_outgrown _ h).elim
    | _ => exact hh
  | halt x w' =>
    cases x with
    | panic v => rw [Oper.upon_panic] at hh; exact (hh : False).elim
    | _ => exact hh
theorem ord_one {l : List Oper} {i : Nat} {K K' : Act → World → Prop} {a : Act} {w : World} (hl : i < l.length) (h : wpList P l.toArray (Only K') (pick l [i]) a w) : wpOp P l.toArray (Only K) i K' a w := by
  have e : l[i]? = some l[i] := List.getElem?_eq_getElem hl
  have e2 : pick l [i] = [l[i]] := by simp [pick, e]
  rw [e2] at h
  have e3 : l.toArray[i]? = some l[i] := by simp [e]
  unfold wpOp
  rw [e3]
  have hK : (wpList P l.toArray (Only K') [] : Act → World → Prop) = K' := by funext a w; rfl
  unfold wpList at h
  simp only
  split at h
  · rename_i hw
    rw [if_pos hw]
    rcases h with h | h
    · rw [hK] at h; exact .inl (ord_only h)
    · exact (ord_outgrown _ h.2).elim
  · rename_i hw
    rw [if_neg hw]
    rw [hK] at h; exact h
theorem wpM_ordpre {l : List Oper} {K K' : Act → World → Prop} {h1 h2 : List Nat} {n : Nat} : ∀ (ts : List Nat) (listed : Array Bool) (a : Act) (w : World), (∀ i ∈ ts, (i ∉ h1 ∧ i ∉ h2) ∧ i < l.length) → ordP md l.toArray ts listed = true →
    (∀ a' w', K' a' w' → wpM P md l.toArray (Only K) C h1 h2 n (marked listed ts) a' w') → wpList P l.toArray (Only K') (pick l ts) a w → wpM P md l.toArray (Only K) C h1 h2 (n + ts.length) listed a w := by
  intro ts
  induction ts with
  | nil => intro listed a w _ _ hk h; exact hk a w h
  | cons i ts ih =>
    intro listed a w hn hB hk h
    simp only [ordP, Bool.and_eq_true, decide_eq_true_eq] at hB
    obtain ⟨hr, hB⟩ := hB
    have hni := hn i (by simp)
    have e : l[i]? = some l[i] := List.getElem?_eq_getElem hni.2
    have e2 : pick l (i :: ts) = l[i] :: pick l ts := by simp [pick, e]
    have e3 : l.toArray[i]? = some l[i] := by simp [e]
    rw [e2] at h
    have hop : wpOp P l.toArray (Only K) i (wpList P l.toArray (Only K') (pick l ts)) a w := by
      unfold wpOp
      rw [e3]
      unfold wpList at h
      simp only
      split at h
      · rename_i hw
        rw [if_pos hw]
        rcases h with h | h
        · exact .inl (ord_only h)
        · exact (ord_outgrown _ h.2).elim
      · rename_i hw
        rw [if_neg hw]; exact h
    rw [List.length_cons, show n + (ts.length + 1) = (n + ts.length) + 1 by omega]
    refine ⟨fun h1 => (by rw [hr] at h1; cases h1), fun k hk2 => ?_⟩
    rw [hr] at hk2
    obtain rfl : k = i := by simpa using hk2
    rw [if_neg hni.1.1, if_neg hni.1.2]
    exact wpOp_mono (fun a' w' h' => ih _ a' w' (fun x hx => hn x (List.mem_cons_of_mem _ hx)) hB hk h') hop
theorem wpM_ord {l : List Oper} {K : Act → World → Prop} {h1 h2 : List Nat} : ∀ (T : Ord) (n : Nat) (listed : Array Bool) (a : Act) (w : World), (∀ i ∈ T.nodes, (i ∉ h1 ∧ i ∉ h2) ∧ i < l.length) → T.okB md l.toArray n listed = true →
    wpOrd P l.toArray l K T a w → wpM P md l.toArray (Only K) C h1 h2 n listed a w := by
  intro T
  induction T with
  | chain ts =>
    intro n listed a w hn hB h
    simp only [Ord.okB, Bool.and_eq_true, decide_eq_true_eq] at hB
    rw [← hB.1]
    exact wpM_seq ts (pick l ts) _ a w (fun i hi => (hn i hi).1) (pick_map ts fun i hi => (hn i hi).2) hB.2 h
  | pre ts t iht =>
    intro n listed a w hn hB h
    simp only [Ord.okB, Bool.and_eq_true, decide_eq_true_eq] at hB
    obtain ⟨⟨hlen, hB1⟩, hB2⟩ := hB
    have hr := wpM_ordpre (md := md) (C := C) (h1 := h1) (h2 := h2) (K := K) (n := n - ts.length) ts listed a w (fun i hi => hn i (by simp [Ord.nodes, hi])) hB1 (fun a' w' h' => iht _ _ a' w' (fun x hx => hn x (by simp [Ord.nodes, hx])) hB2 h') h
    rwa [show n - ts.length + ts.length = n by omega] at hr
  | fork3 i t j u k v iht ihu ihv =>
    intro n listed a w hn hB h
    cases n with
    | zero => simp [Ord.okB] at hB
    | succ n =>
      simp only [Ord.okB, Bool.and_eq_true, decide_eq_true_eq] at hB
      obtain ⟨⟨⟨hr, hBt⟩, hBu⟩, hBv⟩ := hB
      refine ⟨fun h1 => (by rw [hr] at h1; cases h1), fun q hq => ?_⟩
      rw [hr] at hq
      have hni := hn i (by simp [Ord.nodes])
      have hnj := hn j (by simp [Ord.nodes])
      have hnk := hn k (by simp [Ord.nodes])
      have hq2 : q = i ∨ q = j ∨ q = k := by simpa using hq
      rcases hq2 with rfl | rfl | rfl
      · rw [if_neg hni.1.1, if_neg hni.1.2]
        exact wpOp_mono (fun a' w' h' => iht n _ a' w' (fun x hx => hn x (by simp [Ord.nodes, hx])) hBt h') (ord_one hni.2 h.1)
      · rw [if_neg hnj.1.1, if_neg hnj.1.2]
        exact wpOp_mono (fun a' w' h' => ihu n _ a' w' (fun x hx => hn x (by simp [Ord.nodes, hx])) hBu h') (ord_one hnj.2 h.2.1)
      · rw [if_neg hnk.1.1, if_neg hnk.1.2]
        exact wpOp_mono (fun a' w' h' => ihv n _ a' w' (fun x hx => hn x (by simp [Ord.nodes, hx])) hBv h') (ord_one hnk.2 h.2.2)
  | fork i t j u iht ihu =>
    intro n listed a w hn hB h
    cases n with
    | zero => simp [Ord.okB] at hB
    | succ n =>
      simp only [Ord.okB, Bool.and_eq_true, decide_eq_true_eq] at hB
      obtain ⟨⟨hr, hBt⟩, hBu⟩ := hB
      refine ⟨fun h1 => (by rw [hr] at h1; cases h1), fun k hk => ?_⟩
      rw [hr] at hk
      have hni := hn i (by simp [Ord.nodes])
      have hnj := hn j (by simp [Ord.nodes])
      have hk2 : k = i ∨ k = j := by simpa using hk
      rcases hk2 with rfl | rfl
      · rw [if_neg hni.1.1, if_neg hni.1.2]
        exact wpOp_mono (fun a' w' h' => iht n _ a' w' (fun x hx => hn x (by simp [Ord.nodes, hx])) hBt h') (ord_one hni.2 h.1)
      · rw [if_neg hnj.1.1, if_neg hnj.1.2]
        exact wpOp_mono (fun a' w' h' => ihu n _ a' w' (fun x hx => hn x (by simp [Ord.nodes, hx])) hBu h') (ord_one hnj.2 h.2)

def ordB (md : Region.Mode) (ops : Array Oper) (h1 h2 : List Nat) (T : Ord) : Bool :=
  Region.noSelect ops && h2.all (fun i => !h1.contains i) && T.nodes.all (fun i => !h1.contains i && !h2.contains i && decide (i < ops.size)) &&
  (List.range ops.size).all (fun t => h1.contains t || h2.contains t || (match ops[t]? with | some o => newOp o.op | none => false) || h2.all fun i => anc md ops ops.size t i) &&
  hoistB md ops (h1 ++ h2) (Array.replicate ops.size false) && T.okB md ops (ops.size - h1.length - h2.length) (marked (Array.replicate ops.size false) (h1 ++ h2)) && decide (h1.length + h2.length ≤ ops.size)

theorem any_ord {a : Act} {w : World} {l : List Oper} (h1 h2 : List Nat) (T : Ord) (C : World → Prop) (hB : ordB .any l.toArray h1 h2 T = true)
    (hC : ∀ w w', C w → Below w.heap.size w w' → C w') (hw : C { w with drawn := w.drawn + 1 })
    (h : ∀ K : Act → World → Prop, (∀ a w, Q .normal a w → K a w) → wpQuiet P l.toArray (fun _ => True) (fun a1 => wpQuiet P l.toArray C (fun a2 => wpOrd P l.toArray l K T a2 { w with drawn := w.drawn + 1 }) (pick l h2) a1) (pick l h1) a) :
    wpAny P .any l.toArray (Only fun a w => Q .normal a w) l.toArray.size (Array.replicate l.toArray.size false) a { w with drawn := w.drawn + 1 } := by
  have H := h (fun a w => Q .normal a w) fun _ _ h => h
  simp only [ordB, Bool.and_eq_true, decide_eq_true_eq] at hB
  obtain ⟨⟨⟨⟨⟨⟨hsel, h12⟩, hts⟩, htail⟩, hh⟩, hseq⟩, hlen⟩ := hB
  have h12' : ∀ i ∈ h2, i ∉ h1 := fun i hi => by simpa using List.all_eq_true.1 h12 i hi
  have hts' : ∀ i ∈ T.nodes, (i ∉ h1 ∧ i ∉ h2) ∧ i < l.length := fun i hi => by simpa using List.all_eq_true.1 hts i hi
  have htail' : ∀ j oj, l.toArray[j]? = some oj → j ∉ h1 → j ∉ h2 → newOp oj.op = true ∨ ∀ i ∈ h2, anc .any l.toArray l.toArray.size j i = true := fun j oj hj n1 n2 => by
    have h3 := List.all_eq_true.1 htail j (List.mem_range.2 (Array.getElem?_eq_some_iff.1 hj).1)
    simp only [hj, Bool.or_eq_true, List.contains_iff_mem, n1, n2, false_or] at h3
    rcases h3 with h3 | h3
    · exact .inl h3
    · exact .inr fun i hi => List.all_eq_true.1 h3 i hi
  rw [hoistB_append, Bool.and_eq_true] at hh
  rw [marked_append] at hseq
  have lt1 := hoistB_lt _ _ hh.1
  have lt2 := hoistB_lt _ _ hh.2
  have hQ' : ∀ c a w d v, Only (fun a w => Q .normal a w) (.panic c) (a.put d v) w → Only (fun a w => Q .normal a w) (.panic c) a w := fun _ _ _ _ _ h => h
  have cl0 : Closed .any l.toArray (Array.replicate l.toArray.size false) := fun j oj _ hl => by rw [getD_replicate_false] at hl; cases hl
  have cl1 := closed_marked _ _ hh.1 cl0
  refine wpAny_of_M (C := C) (h1 := h1) (h2 := h2) _ _ _ _ ?_
  obtain ⟨N, hN⟩ : ∃ N, N = l.toArray.size - h1.length - h2.length := ⟨_, rfl⟩
  rw [← hN] at hseq
  have key : wpM P .any l.toArray (Only fun a w => Q .normal a w) C h1 h2 (N + h2.length + h1.length) (Array.replicate l.toArray.size false) a { w with drawn := w.drawn + 1 } := ?_
  · have e : l.toArray.size = N + h2.length + h1.length := by omega
    have e2 : ∀ n, n = N + h2.length + h1.length → wpM P .any l.toArray (Only fun a w => Q .normal a w) C h1 h2 n (Array.replicate l.toArray.size false) a { w with drawn := w.drawn + 1 } := fun n hn => hn ▸ key
    exact e2 _ e
  refine hoist1 hsel hQ' h1 (pick l h1) _ a (fun i hi => hi) (pick_map h1 (by simpa using lt1)) hh.1 (fun a1 H1 => ?_) H
  refine hoist2 hsel hQ' hC h12' htail' hw h2 (pick l h2) _ a1 (fun i hi => hi) (pick_map h2 (by simpa using lt2)) hh.2 cl1 (fun a2 H2 => ?_) H1
  exact wpM_ord T N _ a2 _ hts' hseq H2

/-- Some operations first (those of h1 look at no memory), then a tree of orders. -/
theorem wp_region_ordL {id : Nat} {a : Act} {w : World} {l : List Oper} (h1 h2 : List Nat) (T : Ord) (hm : P.follows .mixedOrders = true) (hB : ordB .any l.toArray h1 h2 T = true)
    (h : ∀ K : Act → World → Prop, (∀ a w, Q .normal a w → K a w) → wpQuiet P l.toArray (fun _ => True) (fun a1 => wpQuiet P l.toArray (fun w' => ∃ n : Lat w, w' = n.w) (fun a2 => wpOrd P l.toArray l K T a2 w.drew) (pick l h2) a1) (pick l h1) a) :
    (Code.region id l.toArray true).wp P Q a w := by
  refine Code.wp_mono (Q := Only fun a w => Q .normal a w) (fun e a w h => by cases e <;> first | exact h | exact h.elim) ?_
  exact wp_region_any hm (any_ord h1 h2 T (fun w' => ∃ n : Lat w, w' = n.w) hB (fun _ w2 ⟨n, e⟩ hb => by subst e; exact ⟨⟨w2, n.below.trans (hb.mono n.below.size)⟩, rfl⟩) ⟨Lat.drew w, rfl⟩ h)
end
end Go.Proofs.Ytnakjencodicmaa.Mix

-- ---- Jd
/- huff's reader: one part. Conditions: those that each theorem names. -/
namespace Go.Proofs.Ytnakjencodicmaa
set_option maxRecDepth 100000
set_option linter.unusedSimpArgs false
set_option linter.unusedVariables false
open Go.RowKit Mix _root_.Go.Proofs.Ytnakjencodicmaa.Own Bits Hu Dp
attribute [local go_sem] max_int min_int

/-- What reading a part answers: the part, the error; what is left. -/
def PartPost (L : List Int) (q : Nat) (s : ByteArray) (k : Nat) (w : World) (e : Ending) (w' : World) : Prop :=
  e = .returned (.tuple #[.agg #[.int .i64 ((getOne L ((bitsS s).drop k)).2.1.1 : Int), .int .u64 ((getOne L ((bitsS s).drop k)).2.1.2 : Int)], .int .i64 ((getOne L ((bitsS s).drop k)).1 : Int)]) ∧
  ((getOne L ((bitsS s).drop k)).1 = 0 → ∃ k', k' ≤ 8 * s.size ∧ IsRd w' q s k' ∧ (bitsS s).drop k' = (getOne L ((bitsS s).drop k)).2.2) ∧ Chg (fun b => b = q) w w'
theorem getOne_err {L : List Int} {bs : List Bool} (h : (dec L bs 0 0).1 ≠ 0) : getOne L bs = ((dec L bs 0 0).1, (0, 0), bs) := by unfold getOne; rw [if_pos h]
theorem getOne_more {L : List Int} {bs : List Bool} {c n : Nat} (h : dec L bs 0 0 = (0, c, n)) (hl : bs.length < n + (c - 1)) : getOne L bs = (2, (0, 0), bs) := by unfold getOne; rw [h]; simp [hl]
theorem getOne_ok {L : List Int} {bs : List Bool} {c n : Nat} (h : dec L bs 0 0 = (0, c, n)) (hl : ¬ bs.length < n + (c - 1)) : getOne L bs = (0, (c, ofBits ((bs.drop n).take (c - 1))), bs.drop (n + (c - 1))) := by unfold getOne; rw [h]; simp [hl]

set_option maxHeartbeats 8000000 in
theorem read_code (L : List Int) (F : List (Nat × Nat × Nat)) (p q b : Nat) (s : ByteArray) (k : Nat) (w : World) (h : IsHr w p q b s k F) (hs : s.size ≤ 1000000000000) (hk2 : k ≤ 8 * s.size)
    (how : ∀ w1, IsHr w1 p q b s k F → Calls Try.prog 33 #[.pointer (some ⟨p, 0, none⟩)] w1 (StepPost L q s k w1)) :
    Calls Try.prog 35 #[.pointer (some ⟨p, 0, none⟩), .func (.func 33) #[.pointer (some ⟨p, 0, none⟩)] #[]] w (PartPost L q s k w) := by
  have H := kept h
  have HPQ := kept h.pq
  have HHow := kept how
  clear h how
  obtain ⟨er, c, n, hd⟩ : ∃ er c n, dec L ((bitsS s).drop k) 0 0 = (er, c, n) := ⟨_, _, _, rfl⟩
  have HD := kept hd
  have hus := dec_used L ((bitsS s).drop k) 0 0
  rw [hd] at hus
  have HUs := kept hus
  clear hd hus
  go_enter Try.func35, Try.ntmps35
  go_wp2_with fail
  obtain ⟨pp, hpp⟩ : ∃ pp, pp = w.heap.size := ⟨_, rfl⟩
  generalize hw1 : World.alloc w _ = w1
  have HP1 : Kept (Blk w1 pp #[.int .i64 0, .int .u64 0] 54) := kept (by rw [hpp, ← hw1]; exact Blk.fresh _ _ _)
  have HB1 : Kept (Below w.heap.size w w1) := kept (by rw [← hw1]; exact (Below.refl _ _).alloc (Nat.le_refl _) _)
  have HPn : Kept (w.heap.size ≤ pp) := kept (Nat.le_of_eq hpp.symm)
  rw [← hpp]
  clear hw1 hpp
  have HH1 : Kept (IsHr w1 p q b s k F) := kept ⟨(HB1.out.block p (Blk.lt H.out.self)).trans H.out.self, H.out.rd.later HB1.out, H.out.mp.later HB1.out⟩
  refine (HHow.out w1 HH1.out).mono ?_
  rintro e w2 ⟨rfl, hR2, hC2⟩
  rw [HD.out] at hR2 ⊢
  have hqlt : q < w.heap.size := Blk.lt H.out.rd
  have hplt : p < w.heap.size := Blk.lt H.out.self
  have hpn := HPn.out
  have hB2 : Blk w2 pp #[.int .i64 0, .int .u64 0] 54 := hC2.keep HP1.out (by omega)
  have hS2 : Blk w2 p #[.pointer (some ⟨q, 0, none⟩), .map (some b)] 85 := hC2.keep HH1.out.self HPQ.out
  have hC12 : Chg (fun x => x = q) w w2 := (Chg.of_below HB1.out).trans hC2 (fun _ _ h => h)
  have d0 : w2.cell? ⟨pp, 0, none⟩ = some (.int .i64 0) := Blk.cell hB2 rfl
  have d1 : w2.cell? ⟨pp, 1, none⟩ = some (.int .u64 0) := Blk.cell hB2 rfl
  have f0 : w2.frozen? ⟨pp, 0, none⟩ = false := Blk.free hB2 0
  have f1 : w2.frozen? ⟨pp, 1, none⟩ = false := Blk.free hB2 1
  have hb3 : Blk (w2.setCell ⟨pp, 0, none⟩ (.int .i64 (c : Int))) pp #[.int .i64 (c : Int), .int .u64 0] 54 := by
    have h := Blk.set hB2 0 (.int .i64 (c : Int))
    simpa using h
  have HB2 := kept hB2
  have HS2 := kept hS2
  have HC2 := kept hC12
  have HR2 := kept hR2
  have HB3 := kept hb3
  clear hR2 hC2 hB2 hS2 hC12 hb3
  by_cases her : er = 0
  · subst her
    have hR3 := HR2.out rfl
    obtain ⟨_, hlen, h65⟩ := HUs.out rfl
    rw [Nat.zero_add, List.length_drop, length_bitsS] at hlen
    simp only at hlen h65 hR3
    have hC3 : Chg (fun x => x = q) w (w2.setCell ⟨pp, 0, none⟩ (.int .i64 (c : Int))) := HC2.out.trans (Chg.setCell w2 ⟨pp, 0, none⟩ _) (fun x hx h => by simp at h; omega)
    have hR4 : IsRd (w2.setCell ⟨pp, 0, none⟩ (.int .i64 (c : Int))) q s (k + n) := (Chg.setCell w2 ⟨pp, 0, none⟩ (.int .i64 (c : Int))).keep hR3 (fun h => by simp at h; omega)
    have hS4 : Blk (w2.setCell ⟨pp, 0, none⟩ (.int .i64 (c : Int))) p #[.pointer (some ⟨q, 0, none⟩), .map (some b)] 85 := Blk.setOther HS2.out (show p ≠ pp by omega) _
    have HC3 := kept hC3
    have HR4 := kept hR4
    have HS4 := kept hS4
    clear hR3 hC3 hR4 hS4
    go_upto_region 4 with fail
    generalize World.setCell w2 _ _ = w3 at HB3 HC3 HR4 HS4 ⊢
    clear d0 d1 f0 f1
    have e0 := lat_cell (Blk.cell HS4.out (i := 0) rfl)
    have e1 := lat_cell (Blk.cell HB3.out (i := 0) rfl)
    have emx : mx 0 ((c : Int) - 1) = ((c - 1 : Nat) : Int) := by rw [mx_eq]; omega
    have hbn : ((bitsS s).drop k).drop n = (bitsS s).drop (k + n) := by rw [List.drop_drop]
    refine wp_region_ordL [0,1,2,4] [3,5,6,7] (.pre [8,9] (.fork 10 (.fork 11 (.chain [12,13,14]) 12 (.fork 11 (.chain [13,14]) 13 (.chain [11,14]))) 11 (.chain [10,12,13,14]))) (by kernel_rfl) (by kernel_rfl) ?_
    intro K hK
    simp only [pick, List.filterMap_cons, List.filterMap_nil, List.getElem?_cons_zero, List.getElem?_cons_succ]
    iterate 8 (show wpQuiet _ _ _ _ (_ :: _) _; go_big_quiet_step (fail))
    refine wpQuiet_nil ?_
    clear e0 e1 emx
    have hwd : Below w3.heap.size w3 w3.drew := (Below.refl _ _).drew
    generalize w3.drew = w4 at hwd ⊢
    have HB4 : Kept (Blk w4 pp #[.int .i64 (c : Int), .int .u64 0] 54) := kept ((hwd.block pp (Blk.lt HB3.out)).trans HB3.out)
    have HR5 := kept (HR4.out.later hwd)
    have HC4 := kept (HC3.out.trans (Chg.of_below hwd) (fun _ _ h => h))
    clear hwd
    unfold wpOrd
    simp only [pick, List.filterMap_cons, List.filterMap_nil, List.getElem?_cons_zero, List.getElem?_cons_succ]
    generalize hT : wpOrd _ _ _ K (Ord.fork _ _ _ _) = T
    have HT := kept hT
    clear hT
    show wpList _ _ _ [_, _] _ _
    by_cases hmore : k + n + (c - 1) ≤ 8 * s.size
    · have HGet := kept (get_ok q s (k + n) (c - 1) w4 HR5.out hs (by omega) (by omega) hmore)
      obtain ⟨r, hr⟩ : ∃ r, r = ofBits (((bitsS s).drop (k + n)).take (c - 1)) := ⟨_, rfl⟩
      have hg : getOne L ((bitsS s).drop k) = (0, (c, r), (bitsS s).drop (k + n + (c - 1))) := by
        rw [getOne_ok HD.out (by rw [List.length_drop, length_bitsS]; omega), hbn, ← hr, List.drop_drop, show k + (n + (c - 1)) = k + n + (c - 1) by omega]
      rw [← hr] at HGet
      have HGo := kept hg
      clear hr hg hbn
      go_wp2_with fail
      refine HGet.out.mono ?_
      rintro e w5 ⟨rfl, hR5, hC5⟩
      have hB5 : Blk w5 pp #[.int .i64 (c : Int), .int .u64 0] 54 := hC5.keep HB4.out (by omega)
      have d0 : w5.cell? ⟨pp, 0, none⟩ = some (.int .i64 (c : Int)) := Blk.cell hB5 rfl
      have d1 : w5.cell? ⟨pp, 1, none⟩ = some (.int .u64 0) := Blk.cell hB5 rfl
      have f0 : w5.frozen? ⟨pp, 0, none⟩ = false := Blk.free hB5 0
      have f1 : w5.frozen? ⟨pp, 1, none⟩ = false := Blk.free hB5 1
      have HC5 := kept (HC4.out.trans hC5 (fun _ _ h => h))
      have HR6 := kept hR5
      have HB5 := kept hB5
      clear hR5 hC5 hB5
      go_wp2_with fail
      show T _ _
      rw [← HT.out]
      clear HT T
      unfold wpOrd
      simp only [pick, List.filterMap_cons, List.filterMap_nil, List.getElem?_cons_zero, List.getElem?_cons_succ]
      refine ⟨?_, ?_⟩
      · generalize hT : wpOrd _ _ _ K _ = T
        have HT := kept hT
        clear hT
        go_wp2_with fail
        show T _ _
        rw [← HT.out]
        clear HT T
        unfold wpOrd
        simp only [pick, List.filterMap_cons, List.filterMap_nil, List.getElem?_cons_zero, List.getElem?_cons_succ]
        refine ⟨?_, ?_⟩
        · generalize hT : wpOrd _ _ _ K _ = T
          have HT := kept hT
          clear hT
          go_wp2_with fail
          show T _ _
          rw [← HT.out]
          clear HT T
          unfold wpOrd
          simp only [pick, List.filterMap_cons, List.filterMap_nil, List.getElem?_cons_zero, List.getElem?_cons_succ]
          show wpList _ _ _ [_, _, _] _ _
          go_wp2_with fail
          refine hK _ _ ?_
          go_wp2_with fail
          generalize hwz : World.setCell _ _ _ = wz
          have hBz : Blk wz pp #[.int .i64 (c : Int), .int .u64 (r : Int)] 54 := by rw [← hwz]; have h := ((HB5.out.set 1 (.int .u64 (r : Int))).set 0 (.int .i64 (c : Int))).set 1 (.int .u64 (r : Int)); simpa using h
          have hCz : Chg (fun x => x = pp) w5 wz := by rw [← hwz]; exact ((Chg.setCell w5 ⟨pp, 1, none⟩ _).trans (Chg.setCell _ ⟨pp, 0, none⟩ _) (fun _ _ h => h)).trans (Chg.setCell _ ⟨pp, 1, none⟩ _) (fun _ _ h => h)
          have z0 : wz.cell? ⟨pp, 0, none⟩ = some (.int .i64 (c : Int)) := Blk.cell hBz rfl
          have z1 : wz.cell? ⟨pp, 1, none⟩ = some (.int .u64 (r : Int)) := Blk.cell hBz rfl
          refine bodyPost_ret (v := .tuple #[.agg #[.int .i64 (c : Int), .int .u64 (r : Int)], .int .i64 0]) (by simp [results, Try.results35, go_sem, z0, z1]) rfl ?_
          exact ⟨by rw [HGo.out]; rfl, fun _ => ⟨k + n + (c - 1), hmore, hCz.keep HR6.out (by omega), by rw [HGo.out]⟩, HC5.out.trans hCz (fun x hx h => by omega)⟩
        · generalize hT : wpOrd _ _ _ K _ = T
          have HT := kept hT
          clear hT
          go_wp2_with fail
          show T _ _
          rw [← HT.out]
          clear HT T
          unfold wpOrd
          simp only [pick, List.filterMap_cons, List.filterMap_nil, List.getElem?_cons_zero, List.getElem?_cons_succ]
          refine ⟨?_, ?_⟩
          · generalize hT : wpOrd _ _ _ K _ = T
            have HT := kept hT
            clear hT
            go_wp2_with fail
            show T _ _
            rw [← HT.out]
            clear HT T
            unfold wpOrd
            simp only [pick, List.filterMap_cons, List.filterMap_nil, List.getElem?_cons_zero, List.getElem?_cons_succ]
            show wpList _ _ _ [_, _] _ _
            go_wp2_with fail
            refine hK _ _ ?_
            go_wp2_with fail
            generalize hwz : World.setCell _ _ _ = wz
            have hBz : Blk wz pp #[.int .i64 (c : Int), .int .u64 (r : Int)] 54 := by rw [← hwz]; have h := ((HB5.out.set 1 (.int .u64 (r : Int))).set 0 (.int .i64 (c : Int))).set 1 (.int .u64 (r : Int)); simpa using h
            have hCz : Chg (fun x => x = pp) w5 wz := by rw [← hwz]; exact ((Chg.setCell w5 ⟨pp, 1, none⟩ _).trans (Chg.setCell _ ⟨pp, 0, none⟩ _) (fun _ _ h => h)).trans (Chg.setCell _ ⟨pp, 1, none⟩ _) (fun _ _ h => h)
            have z0 : wz.cell? ⟨pp, 0, none⟩ = some (.int .i64 (c : Int)) := Blk.cell hBz rfl
            have z1 : wz.cell? ⟨pp, 1, none⟩ = some (.int .u64 (r : Int)) := Blk.cell hBz rfl
            refine bodyPost_ret (v := .tuple #[.agg #[.int .i64 (c : Int), .int .u64 (r : Int)], .int .i64 0]) (by simp [results, Try.results35, go_sem, z0, z1]) rfl ?_
            exact ⟨by rw [HGo.out]; rfl, fun _ => ⟨k + n + (c - 1), hmore, hCz.keep HR6.out (by omega), by rw [HGo.out]⟩, HC5.out.trans hCz (fun x hx h => by omega)⟩
          · generalize hT : wpOrd _ _ _ K _ = T
            have HT := kept hT
            clear hT
            go_wp2_with fail
            show T _ _
            rw [← HT.out]
            clear HT T
            unfold wpOrd
            simp only [pick, List.filterMap_cons, List.filterMap_nil, List.getElem?_cons_zero, List.getElem?_cons_succ]
            show wpList _ _ _ [_, _] _ _
            go_wp2_with fail
            refine hK _ _ ?_
            go_wp2_with fail
            generalize hwz : World.setCell _ _ _ = wz
            have hBz : Blk wz pp #[.int .i64 (c : Int), .int .u64 (r : Int)] 54 := by rw [← hwz]; have h := ((HB5.out.set 1 (.int .u64 (r : Int))).set 0 (.int .i64 (c : Int))).set 1 (.int .u64 (r : Int)); simpa using h
            have hCz : Chg (fun x => x = pp) w5 wz := by rw [← hwz]; exact ((Chg.setCell w5 ⟨pp, 1, none⟩ _).trans (Chg.setCell _ ⟨pp, 0, none⟩ _) (fun _ _ h => h)).trans (Chg.setCell _ ⟨pp, 1, none⟩ _) (fun _ _ h => h)
            have z0 : wz.cell? ⟨pp, 0, none⟩ = some (.int .i64 (c : Int)) := Blk.cell hBz rfl
            have z1 : wz.cell? ⟨pp, 1, none⟩ = some (.int .u64 (r : Int)) := Blk.cell hBz rfl
            refine bodyPost_ret (v := .tuple #[.agg #[.int .i64 (c : Int), .int .u64 (r : Int)], .int .i64 0]) (by simp [results, Try.results35, go_sem, z0, z1]) rfl ?_
            exact ⟨by rw [HGo.out]; rfl, fun _ => ⟨k + n + (c - 1), hmore, hCz.keep HR6.out (by omega), by rw [HGo.out]⟩, HC5.out.trans hCz (fun x hx h => by omega)⟩
      · generalize hT : wpOrd _ _ _ K _ = T
        have HT := kept hT
        clear hT
        go_wp2_with fail
        show T _ _
        rw [← HT.out]
        clear HT T
        unfold wpOrd
        simp only [pick, List.filterMap_cons, List.filterMap_nil, List.getElem?_cons_zero, List.getElem?_cons_succ]
        show wpList _ _ _ [_, _, _, _] _ _
        go_wp2_with fail
        refine hK _ _ ?_
        go_wp2_with fail
        generalize hwz : World.setCell _ _ _ = wz
        have hBz : Blk wz pp #[.int .i64 (c : Int), .int .u64 (r : Int)] 54 := by rw [← hwz]; have h := ((HB5.out.set 1 (.int .u64 (r : Int))).set 0 (.int .i64 (c : Int))).set 1 (.int .u64 (r : Int)); simpa using h
        have hCz : Chg (fun x => x = pp) w5 wz := by rw [← hwz]; exact ((Chg.setCell w5 ⟨pp, 1, none⟩ _).trans (Chg.setCell _ ⟨pp, 0, none⟩ _) (fun _ _ h => h)).trans (Chg.setCell _ ⟨pp, 1, none⟩ _) (fun _ _ h => h)
        have z0 : wz.cell? ⟨pp, 0, none⟩ = some (.int .i64 (c : Int)) := Blk.cell hBz rfl
        have z1 : wz.cell? ⟨pp, 1, none⟩ = some (.int .u64 (r : Int)) := Blk.cell hBz rfl
        refine bodyPost_ret (v := .tuple #[.agg #[.int .i64 (c : Int), .int .u64 (r : Int)], .int .i64 0]) (by simp [results, Try.results35, go_sem, z0, z1]) rfl ?_
        exact ⟨by rw [HGo.out]; rfl, fun _ => ⟨k + n + (c - 1), hmore, hCz.keep HR6.out (by omega), by rw [HGo.out]⟩, HC5.out.trans hCz (fun x hx h => by omega)⟩
    · have HGet := kept (get_more q s (k + n) (c - 1) w4 HR5.out hs (by omega) (by omega) (by omega))
      have hg : getOne L ((bitsS s).drop k) = (2, (0, 0), (bitsS s).drop k) := getOne_more HD.out (by rw [List.length_drop, length_bitsS]; omega)
      have HGo := kept hg
      clear hg hbn
      go_wp2_with fail
      refine HGet.out.mono ?_
      rintro e w5 ⟨rfl, hb5⟩
      have hB5 : Blk w5 pp #[.int .i64 (c : Int), .int .u64 0] 54 := (hb5.block pp (Blk.lt HB4.out)).trans HB4.out
      have d0 : w5.cell? ⟨pp, 0, none⟩ = some (.int .i64 (c : Int)) := Blk.cell hB5 rfl
      have d1 : w5.cell? ⟨pp, 1, none⟩ = some (.int .u64 0) := Blk.cell hB5 rfl
      have f0 : w5.frozen? ⟨pp, 0, none⟩ = false := Blk.free hB5 0
      have f1 : w5.frozen? ⟨pp, 1, none⟩ = false := Blk.free hB5 1
      have HC5 := kept (HC4.out.trans (Chg.of_below hb5) (fun _ _ h => h))
      have HB5 := kept hB5
      clear hb5 hB5
      go_wp2_with fail
      show T _ _
      rw [← HT.out]
      clear HT T
      unfold wpOrd
      simp only [pick, List.filterMap_cons, List.filterMap_nil, List.getElem?_cons_zero, List.getElem?_cons_succ]
      refine ⟨?_, ?_⟩
      · generalize hT : wpOrd _ _ _ K _ = T
        have HT := kept hT
        clear hT
        go_wp2_with fail
        show T _ _
        rw [← HT.out]
        clear HT T
        unfold wpOrd
        simp only [pick, List.filterMap_cons, List.filterMap_nil, List.getElem?_cons_zero, List.getElem?_cons_succ]
        refine ⟨?_, ?_⟩
        · generalize hT : wpOrd _ _ _ K _ = T
          have HT := kept hT
          clear hT
          go_wp2_with fail
          show T _ _
          rw [← HT.out]
          clear HT T
          unfold wpOrd
          simp only [pick, List.filterMap_cons, List.filterMap_nil, List.getElem?_cons_zero, List.getElem?_cons_succ]
          show wpList _ _ _ [_, _, _] _ _
          go_wp2_with fail
          refine hK _ _ ?_
          go_wp2_with fail
          generalize hwz : World.setCell _ _ _ = wz
          have hBz : Blk wz pp #[.int .i64 0, .int .u64 0] 54 := by rw [← hwz]; have h := ((HB5.out.set 1 (.int .u64 0)).set 0 (.int .i64 0)).set 1 (.int .u64 0); simpa using h
          have hCz : Chg (fun x => x = pp) w5 wz := by rw [← hwz]; exact ((Chg.setCell w5 ⟨pp, 1, none⟩ _).trans (Chg.setCell _ ⟨pp, 0, none⟩ _) (fun _ _ h => h)).trans (Chg.setCell _ ⟨pp, 1, none⟩ _) (fun _ _ h => h)
          have z0 : wz.cell? ⟨pp, 0, none⟩ = some (.int .i64 0) := Blk.cell hBz rfl
          have z1 : wz.cell? ⟨pp, 1, none⟩ = some (.int .u64 0) := Blk.cell hBz rfl
          refine bodyPost_ret (v := .tuple #[.agg #[.int .i64 0, .int .u64 0], .int .i64 2]) (by simp [results, Try.results35, go_sem, z0, z1]) rfl ?_
          exact ⟨by rw [HGo.out]; rfl, fun h => absurd h (by rw [HGo.out]; exact (by decide : ¬ (2 : Nat) = 0)), HC5.out.trans hCz (fun x hx h => by omega)⟩
        · generalize hT : wpOrd _ _ _ K _ = T
          have HT := kept hT
          clear hT
          go_wp2_with fail
          show T _ _
          rw [← HT.out]
          clear HT T
          unfold wpOrd
          simp only [pick, List.filterMap_cons, List.filterMap_nil, List.getElem?_cons_zero, List.getElem?_cons_succ]
          refine ⟨?_, ?_⟩
          · generalize hT : wpOrd _ _ _ K _ = T
            have HT := kept hT
            clear hT
            go_wp2_with fail
            show T _ _
            rw [← HT.out]
            clear HT T
            unfold wpOrd
            simp only [pick, List.filterMap_cons, List.filterMap_nil, List.getElem?_cons_zero, List.getElem?_cons_succ]
            show wpList _ _ _ [_, _] _ _
            go_wp2_with fail
            refine hK _ _ ?_
            go_wp2_with fail
            generalize hwz : World.setCell _ _ _ = wz
            have hBz : Blk wz pp #[.int .i64 0, .int .u64 0] 54 := by rw [← hwz]; have h := ((HB5.out.set 1 (.int .u64 0)).set 0 (.int .i64 0)).set 1 (.int .u64 0); simpa using h
            have hCz : Chg (fun x => x = pp) w5 wz := by rw [← hwz]; exact ((Chg.setCell w5 ⟨pp, 1, none⟩ _).trans (Chg.setCell _ ⟨pp, 0, none⟩ _) (fun _ _ h => h)).trans (Chg.setCell _ ⟨pp, 1, none⟩ _) (fun _ _ h => h)
            have z0 : wz.cell? ⟨pp, 0, none⟩ = some (.int .i64 0) := Blk.cell hBz rfl
            have z1 : wz.cell? ⟨pp, 1, none⟩ = some (.int .u64 0) := Blk.cell hBz rfl
            refine bodyPost_ret (v := .tuple #[.agg #[.int .i64 0, .int .u64 0], .int .i64 2]) (by simp [results, Try.results35, go_sem, z0, z1]) rfl ?_
            exact ⟨by rw [HGo.out]; rfl, fun h => absurd h (by rw [HGo.out]; exact (by decide : ¬ (2 : Nat) = 0)), HC5.out.trans hCz (fun x hx h => by omega)⟩
          · generalize hT : wpOrd _ _ _ K _ = T
            have HT := kept hT
            clear hT
            go_wp2_with fail
            show T _ _
            rw [← HT.out]
            clear HT T
            unfold wpOrd
            simp only [pick, List.filterMap_cons, List.filterMap_nil, List.getElem?_cons_zero, List.getElem?_cons_succ]
            show wpList _ _ _ [_, _] _ _
            go_wp2_with fail
            refine hK _ _ ?_
            go_wp2_with fail
            generalize hwz : World.setCell _ _ _ = wz
            have hBz : Blk wz pp #[.int .i64 0, .int .u64 0] 54 := by rw [← hwz]; have h := ((HB5.out.set 1 (.int .u64 0)).set 0 (.int .i64 0)).set 1 (.int .u64 0); simpa using h
            have hCz : Chg (fun x => x = pp) w5 wz := by rw [← hwz]; exact ((Chg.setCell w5 ⟨pp, 1, none⟩ _).trans (Chg.setCell _ ⟨pp, 0, none⟩ _) (fun _ _ h => h)).trans (Chg.setCell _ ⟨pp, 1, none⟩ _) (fun _ _ h => h)
            have z0 : wz.cell? ⟨pp, 0, none⟩ = some (.int .i64 0) := Blk.cell hBz rfl
            have z1 : wz.cell? ⟨pp, 1, none⟩ = some (.int .u64 0) := Blk.cell hBz rfl
            refine bodyPost_ret (v := .tuple #[.agg #[.int .i64 0, .int .u64 0], .int .i64 2]) (by simp [results, Try.results35, go_sem, z0, z1]) rfl ?_
            exact ⟨by rw [HGo.out]; rfl, fun h => absurd h (by rw [HGo.out]; exact (by decide : ¬ (2 : Nat) = 0)), HC5.out.trans hCz (fun x hx h => by omega)⟩
      · generalize hT : wpOrd _ _ _ K _ = T
        have HT := kept hT
        clear hT
        go_wp2_with fail
        show T _ _
        rw [← HT.out]
        clear HT T
        unfold wpOrd
        simp only [pick, List.filterMap_cons, List.filterMap_nil, List.getElem?_cons_zero, List.getElem?_cons_succ]
        show wpList _ _ _ [_, _, _, _] _ _
        go_wp2_with fail
        refine hK _ _ ?_
        go_wp2_with fail
        generalize hwz : World.setCell _ _ _ = wz
        have hBz : Blk wz pp #[.int .i64 0, .int .u64 0] 54 := by rw [← hwz]; have h := ((HB5.out.set 1 (.int .u64 0)).set 0 (.int .i64 0)).set 1 (.int .u64 0); simpa using h
        have hCz : Chg (fun x => x = pp) w5 wz := by rw [← hwz]; exact ((Chg.setCell w5 ⟨pp, 1, none⟩ _).trans (Chg.setCell _ ⟨pp, 0, none⟩ _) (fun _ _ h => h)).trans (Chg.setCell _ ⟨pp, 1, none⟩ _) (fun _ _ h => h)
        have z0 : wz.cell? ⟨pp, 0, none⟩ = some (.int .i64 0) := Blk.cell hBz rfl
        have z1 : wz.cell? ⟨pp, 1, none⟩ = some (.int .u64 0) := Blk.cell hBz rfl
        refine bodyPost_ret (v := .tuple #[.agg #[.int .i64 0, .int .u64 0], .int .i64 2]) (by simp [results, Try.results35, go_sem, z0, z1]) rfl ?_
        exact ⟨by rw [HGo.out]; rfl, fun h => absurd h (by rw [HGo.out]; exact (by decide : ¬ (2 : Nat) = 0)), HC5.out.trans hCz (fun x hx h => by omega)⟩
  · have hg := getOne_err (L := L) (bs := (bitsS s).drop k) (by rw [HD.out]; exact her)
    rw [HD.out] at hg
    have HGo := kept hg
    have ter : ((er : Int) != 0) = true := by rw [bne_iff_ne]; omega
    clear hg
    go_wp2_with fail
    generalize hwz : World.setCell _ _ _ = wz
    have hBz : Blk wz pp #[.int .i64 0, .int .u64 0] 54 := by
      rw [← hwz]
      have h := (HB3.out.set 0 (.int .i64 0)).set 1 (.int .u64 0)
      simpa using h
    have hCz : Chg (fun x => x = q) w wz := by
      rw [← hwz]
      exact HC2.out.trans (((Chg.setCell w2 ⟨pp, 0, none⟩ _).trans (Chg.setCell _ ⟨pp, 0, none⟩ _) (fun _ _ h => h)).trans (Chg.setCell _ ⟨pp, 1, none⟩ _) (fun _ _ h => h)) (fun x hx h => by simp at h; omega)
    have z0 : wz.cell? ⟨pp, 0, none⟩ = some (.int .i64 0) := Blk.cell hBz rfl
    have z1 : wz.cell? ⟨pp, 1, none⟩ = some (.int .u64 0) := Blk.cell hBz rfl
    refine bodyPost_ret (v := .tuple #[.agg #[.int .i64 0, .int .u64 0], .int .i64 (er : Int)]) (by simp [results, Try.results35, go_sem, z0, z1]) rfl ?_
    exact ⟨by rw [HGo.out]; rfl, fun h => absurd h (by rw [HGo.out]; exact her), hCz⟩
set_option maxHeartbeats 8000000 in
theorem read_only (L : List Int) (F : List (Nat × Nat × Nat)) (p q b : Nat) (s : ByteArray) (k : Nat) (w : World) (h : IsHr w p q b s k F) (hs : s.size ≤ 1000000000000) (hk2 : k ≤ 8 * s.size)
    (how : ∀ w1, IsHr w1 p q b s k F → Calls Try.prog 34 #[.pointer (some ⟨p, 0, none⟩)] w1 (StepPost L q s k w1)) :
    Calls Try.prog 35 #[.pointer (some ⟨p, 0, none⟩), .func (.func 34) #[.pointer (some ⟨p, 0, none⟩)] #[]] w (PartPost L q s k w) := by
  have H := kept h
  have HPQ := kept h.pq
  have HHow := kept how
  clear h how
  obtain ⟨er, c, n, hd⟩ : ∃ er c n, dec L ((bitsS s).drop k) 0 0 = (er, c, n) := ⟨_, _, _, rfl⟩
  have HD := kept hd
  have hus := dec_used L ((bitsS s).drop k) 0 0
  rw [hd] at hus
  have HUs := kept hus
  clear hd hus
  go_enter Try.func35, Try.ntmps35
  go_wp2_with fail
  obtain ⟨pp, hpp⟩ : ∃ pp, pp = w.heap.size := ⟨_, rfl⟩
  generalize hw1 : World.alloc w _ = w1
  have HP1 : Kept (Blk w1 pp #[.int .i64 0, .int .u64 0] 54) := kept (by rw [hpp, ← hw1]; exact Blk.fresh _ _ _)
  have HB1 : Kept (Below w.heap.size w w1) := kept (by rw [← hw1]; exact (Below.refl _ _).alloc (Nat.le_refl _) _)
  have HPn : Kept (w.heap.size ≤ pp) := kept (Nat.le_of_eq hpp.symm)
  rw [← hpp]
  clear hw1 hpp
  have HH1 : Kept (IsHr w1 p q b s k F) := kept ⟨(HB1.out.block p (Blk.lt H.out.self)).trans H.out.self, H.out.rd.later HB1.out, H.out.mp.later HB1.out⟩
  refine (HHow.out w1 HH1.out).mono ?_
  rintro e w2 ⟨rfl, hR2, hC2⟩
  rw [HD.out] at hR2 ⊢
  have hqlt : q < w.heap.size := Blk.lt H.out.rd
  have hplt : p < w.heap.size := Blk.lt H.out.self
  have hpn := HPn.out
  have hB2 : Blk w2 pp #[.int .i64 0, .int .u64 0] 54 := hC2.keep HP1.out (by omega)
  have hS2 : Blk w2 p #[.pointer (some ⟨q, 0, none⟩), .map (some b)] 85 := hC2.keep HH1.out.self HPQ.out
  have hC12 : Chg (fun x => x = q) w w2 := (Chg.of_below HB1.out).trans hC2 (fun _ _ h => h)
  have d0 : w2.cell? ⟨pp, 0, none⟩ = some (.int .i64 0) := Blk.cell hB2 rfl
  have d1 : w2.cell? ⟨pp, 1, none⟩ = some (.int .u64 0) := Blk.cell hB2 rfl
  have f0 : w2.frozen? ⟨pp, 0, none⟩ = false := Blk.free hB2 0
  have f1 : w2.frozen? ⟨pp, 1, none⟩ = false := Blk.free hB2 1
  have hb3 : Blk (w2.setCell ⟨pp, 0, none⟩ (.int .i64 (c : Int))) pp #[.int .i64 (c : Int), .int .u64 0] 54 := by
    have h := Blk.set hB2 0 (.int .i64 (c : Int))
    simpa using h
  have HB2 := kept hB2
  have HS2 := kept hS2
  have HC2 := kept hC12
  have HR2 := kept hR2
  have HB3 := kept hb3
  clear hR2 hC2 hB2 hS2 hC12 hb3
  by_cases her : er = 0
  · subst her
    have hR3 := HR2.out rfl
    obtain ⟨_, hlen, h65⟩ := HUs.out rfl
    rw [Nat.zero_add, List.length_drop, length_bitsS] at hlen
    simp only at hlen h65 hR3
    have hC3 : Chg (fun x => x = q) w (w2.setCell ⟨pp, 0, none⟩ (.int .i64 (c : Int))) := HC2.out.trans (Chg.setCell w2 ⟨pp, 0, none⟩ _) (fun x hx h => by simp at h; omega)
    have hR4 : IsRd (w2.setCell ⟨pp, 0, none⟩ (.int .i64 (c : Int))) q s (k + n) := (Chg.setCell w2 ⟨pp, 0, none⟩ (.int .i64 (c : Int))).keep hR3 (fun h => by simp at h; omega)
    have hS4 : Blk (w2.setCell ⟨pp, 0, none⟩ (.int .i64 (c : Int))) p #[.pointer (some ⟨q, 0, none⟩), .map (some b)] 85 := Blk.setOther HS2.out (show p ≠ pp by omega) _
    have HC3 := kept hC3
    have HR4 := kept hR4
    have HS4 := kept hS4
    clear hR3 hC3 hR4 hS4
    go_upto_region 4 with fail
    generalize World.setCell w2 _ _ = w3 at HB3 HC3 HR4 HS4 ⊢
    clear d0 d1 f0 f1
    have e0 := lat_cell (Blk.cell HS4.out (i := 0) rfl)
    have e1 := lat_cell (Blk.cell HB3.out (i := 0) rfl)
    have emx : mx 0 ((c : Int) - 1) = ((c - 1 : Nat) : Int) := by rw [mx_eq]; omega
    have hbn : ((bitsS s).drop k).drop n = (bitsS s).drop (k + n) := by rw [List.drop_drop]
    refine wp_region_ordL [0,1,2,4] [3,5,6,7] (.pre [8,9] (.fork 10 (.fork 11 (.chain [12,13,14]) 12 (.fork 11 (.chain [13,14]) 13 (.chain [11,14]))) 11 (.chain [10,12,13,14]))) (by kernel_rfl) (by kernel_rfl) ?_
    intro K hK
    simp only [pick, List.filterMap_cons, List.filterMap_nil, List.getElem?_cons_zero, List.getElem?_cons_succ]
    iterate 8 (show wpQuiet _ _ _ _ (_ :: _) _; go_big_quiet_step (fail))
    refine wpQuiet_nil ?_
    clear e0 e1 emx
    have hwd : Below w3.heap.size w3 w3.drew := (Below.refl _ _).drew
    generalize w3.drew = w4 at hwd ⊢
    have HB4 : Kept (Blk w4 pp #[.int .i64 (c : Int), .int .u64 0] 54) := kept ((hwd.block pp (Blk.lt HB3.out)).trans HB3.out)
    have HR5 := kept (HR4.out.later hwd)
    have HC4 := kept (HC3.out.trans (Chg.of_below hwd) (fun _ _ h => h))
    clear hwd
    unfold wpOrd
    simp only [pick, List.filterMap_cons, List.filterMap_nil, List.getElem?_cons_zero, List.getElem?_cons_succ]
    generalize hT : wpOrd _ _ _ K (Ord.fork _ _ _ _) = T
    have HT := kept hT
    clear hT
    show wpList _ _ _ [_, _] _ _
    by_cases hmore : k + n + (c - 1) ≤ 8 * s.size
    · have HGet := kept (get_ok q s (k + n) (c - 1) w4 HR5.out hs (by omega) (by omega) hmore)
      obtain ⟨r, hr⟩ : ∃ r, r = ofBits (((bitsS s).drop (k + n)).take (c - 1)) := ⟨_, rfl⟩
      have hg : getOne L ((bitsS s).drop k) = (0, (c, r), (bitsS s).drop (k + n + (c - 1))) := by
        rw [getOne_ok HD.out (by rw [List.length_drop, length_bitsS]; omega), hbn, ← hr, List.drop_drop, show k + (n + (c - 1)) = k + n + (c - 1) by omega]
      rw [← hr] at HGet
      have HGo := kept hg
      clear hr hg hbn
      go_wp2_with fail
      refine HGet.out.mono ?_
      rintro e w5 ⟨rfl, hR5, hC5⟩
      have hB5 : Blk w5 pp #[.int .i64 (c : Int), .int .u64 0] 54 := hC5.keep HB4.out (by omega)
      have d0 : w5.cell? ⟨pp, 0, none⟩ = some (.int .i64 (c : Int)) := Blk.cell hB5 rfl
      have d1 : w5.cell? ⟨pp, 1, none⟩ = some (.int .u64 0) := Blk.cell hB5 rfl
      have f0 : w5.frozen? ⟨pp, 0, none⟩ = false := Blk.free hB5 0
      have f1 : w5.frozen? ⟨pp, 1, none⟩ = false := Blk.free hB5 1
      have HC5 := kept (HC4.out.trans hC5 (fun _ _ h => h))
      have HR6 := kept hR5
      have HB5 := kept hB5
      clear hR5 hC5 hB5
      go_wp2_with fail
      show T _ _
      rw [← HT.out]
      clear HT T
      unfold wpOrd
      simp only [pick, List.filterMap_cons, List.filterMap_nil, List.getElem?_cons_zero, List.getElem?_cons_succ]
      refine ⟨?_, ?_⟩
      · generalize hT : wpOrd _ _ _ K _ = T
        have HT := kept hT
        clear hT
        go_wp2_with fail
        show T _ _
        rw [← HT.out]
        clear HT T
        unfold wpOrd
        simp only [pick, List.filterMap_cons, List.filterMap_nil, List.getElem?_cons_zero, List.getElem?_cons_succ]
        refine ⟨?_, ?_⟩
        · generalize hT : wpOrd _ _ _ K _ = T
          have HT := kept hT
          clear hT
          go_wp2_with fail
          show T _ _
          rw [← HT.out]
          clear HT T
          unfold wpOrd
          simp only [pick, List.filterMap_cons, List.filterMap_nil, List.getElem?_cons_zero, List.getElem?_cons_succ]
          show wpList _ _ _ [_, _, _] _ _
          go_wp2_with fail
          refine hK _ _ ?_
          go_wp2_with fail
          generalize hwz : World.setCell _ _ _ = wz
          have hBz : Blk wz pp #[.int .i64 (c : Int), .int .u64 (r : Int)] 54 := by rw [← hwz]; have h := ((HB5.out.set 1 (.int .u64 (r : Int))).set 0 (.int .i64 (c : Int))).set 1 (.int .u64 (r : Int)); simpa using h
          have hCz : Chg (fun x => x = pp) w5 wz := by rw [← hwz]; exact ((Chg.setCell w5 ⟨pp, 1, none⟩ _).trans (Chg.setCell _ ⟨pp, 0, none⟩ _) (fun _ _ h => h)).trans (Chg.setCell _ ⟨pp, 1, none⟩ _) (fun _ _ h => h)
          have z0 : wz.cell? ⟨pp, 0, none⟩ = some (.int .i64 (c : Int)) := Blk.cell hBz rfl
          have z1 : wz.cell? ⟨pp, 1, none⟩ = some (.int .u64 (r : Int)) := Blk.cell hBz rfl
          refine bodyPost_ret (v := .tuple #[.agg #[.int .i64 (c : Int), .int .u64 (r : Int)], .int .i64 0]) (by simp [results, Try.results35, go_sem, z0, z1]) rfl ?_
          exact ⟨by rw [HGo.out]; rfl, fun _ => ⟨k + n + (c - 1), hmore, hCz.keep HR6.out (by omega), by rw [HGo.out]⟩, HC5.out.trans hCz (fun x hx h => by omega)⟩
        · generalize hT : wpOrd _ _ _ K _ = T
          have HT := kept hT
          clear hT
          go_wp2_with fail
          show T _ _
          rw [← HT.out]
          clear HT T
          unfold wpOrd
          simp only [pick, List.filterMap_cons, List.filterMap_nil, List.getElem?_cons_zero, List.getElem?_cons_succ]
          refine ⟨?_, ?_⟩
          · generalize hT : wpOrd _ _ _ K _ = T
            have HT := kept hT
            clear hT
            go_wp2_with fail
            show T _ _
            rw [← HT.out]
            clear HT T
            unfold wpOrd
            simp only [pick, List.filterMap_cons, List.filterMap_nil, List.getElem?_cons_zero, List.getElem?_cons_succ]
            show wpList _ _ _ [_, _] _ _
            go_wp2_with fail
            refine hK _ _ ?_
            go_wp2_with fail
            generalize hwz : World.setCell _ _ _ = wz
            have hBz : Blk wz pp #[.int .i64 (c : Int), .int .u64 (r : Int)] 54 := by rw [← hwz]; have h := ((HB5.out.set 1 (.int .u64 (r : Int))).set 0 (.int .i64 (c : Int))).set 1 (.int .u64 (r : Int)); simpa using h
            have hCz : Chg (fun x => x = pp) w5 wz := by rw [← hwz]; exact ((Chg.setCell w5 ⟨pp, 1, none⟩ _).trans (Chg.setCell _ ⟨pp, 0, none⟩ _) (fun _ _ h => h)).trans (Chg.setCell _ ⟨pp, 1, none⟩ _) (fun _ _ h => h)
            have z0 : wz.cell? ⟨pp, 0, none⟩ = some (.int .i64 (c : Int)) := Blk.cell hBz rfl
            have z1 : wz.cell? ⟨pp, 1, none⟩ = some (.int .u64 (r : Int)) := Blk.cell hBz rfl
            refine bodyPost_ret (v := .tuple #[.agg #[.int .i64 (c : Int), .int .u64 (r : Int)], .int .i64 0]) (by simp [results, Try.results35, go_sem, z0, z1]) rfl ?_
            exact ⟨by rw [HGo.out]; rfl, fun _ => ⟨k + n + (c - 1), hmore, hCz.keep HR6.out (by omega), by rw [HGo.out]⟩, HC5.out.trans hCz (fun x hx h => by omega)⟩
          · generalize hT : wpOrd _ _ _ K _ = T
            have HT := kept hT
            clear hT
            go_wp2_with fail
            show T _ _
            rw [← HT.out]
            clear HT T
            unfold wpOrd
            simp only [pick, List.filterMap_cons, List.filterMap_nil, List.getElem?_cons_zero, List.getElem?_cons_succ]
            show wpList _ _ _ [_, _] _ _
            go_wp2_with fail
            refine hK _ _ ?_
            go_wp2_with fail
            generalize hwz : World.setCell _ _ _ = wz
            have hBz : Blk wz pp #[.int .i64 (c : Int), .int .u64 (r : Int)] 54 := by rw [← hwz]; have h := ((HB5.out.set 1 (.int .u64 (r : Int))).set 0 (.int .i64 (c : Int))).set 1 (.int .u64 (r : Int)); simpa using h
            have hCz : Chg (fun x => x = pp) w5 wz := by rw [← hwz]; exact ((Chg.setCell w5 ⟨pp, 1, none⟩ _).trans (Chg.setCell _ ⟨pp, 0, none⟩ _) (fun _ _ h => h)).trans (Chg.setCell _ ⟨pp, 1, none⟩ _) (fun _ _ h => h)
            have z0 : wz.cell? ⟨pp, 0, none⟩ = some (.int .i64 (c : Int)) := Blk.cell hBz rfl
            have z1 : wz.cell? ⟨pp, 1, none⟩ = some (.int .u64 (r : Int)) := Blk.cell hBz rfl
            refine bodyPost_ret (v := .tuple #[.agg #[.int .i64 (c : Int), .int .u64 (r : Int)], .int .i64 0]) (by simp [results, Try.results35, go_sem, z0, z1]) rfl ?_
            exact ⟨by rw [HGo.out]; rfl, fun _ => ⟨k + n + (c - 1), hmore, hCz.keep HR6.out (by omega), by rw [HGo.out]⟩, HC5.out.trans hCz (fun x hx h => by omega)⟩
      · generalize hT : wpOrd _ _ _ K _ = T
        have HT := kept hT
        clear hT
        go_wp2_with fail
        show T _ _
        rw [← HT.out]
        clear HT T
        unfold wpOrd
        simp only [pick, List.filterMap_cons, List.filterMap_nil, List.getElem?_cons_zero, List.getElem?_cons_succ]
        show wpList _ _ _ [_, _, _, _] _ _
        go_wp2_with fail
        refine hK _ _ ?_
        go_wp2_with fail
        generalize hwz : World.setCell _ _ _ = wz
        have hBz : Blk wz pp #[.int .i64 (c : Int), .int .u64 (r : Int)] 54 := by rw [← hwz]; have h := ((HB5.out.set 1 (.int .u64 (r : Int))).set 0 (.int .i64 (c : Int))).set 1 (.int .u64 (r : Int)); simpa using h
        have hCz : Chg (fun x => x = pp) w5 wz := by rw [← hwz]; exact ((Chg.setCell w5 ⟨pp, 1, none⟩ _).trans (Chg.setCell _ ⟨pp, 0, none⟩ _) (fun _ _ h => h)).trans (Chg.setCell _ ⟨pp, 1, none⟩ _) (fun _ _ h => h)
        have z0 : wz.cell? ⟨pp, 0, none⟩ = some (.int .i64 (c : Int)) := Blk.cell hBz rfl
        have z1 : wz.cell? ⟨pp, 1, none⟩ = some (.int .u64 (r : Int)) := Blk.cell hBz rfl
        refine bodyPost_ret (v := .tuple #[.agg #[.int .i64 (c : Int), .int .u64 (r : Int)], .int .i64 0]) (by simp [results, Try.results35, go_sem, z0, z1]) rfl ?_
        exact ⟨by rw [HGo.out]; rfl, fun _ => ⟨k + n + (c - 1), hmore, hCz.keep HR6.out (by omega), by rw [HGo.out]⟩, HC5.out.trans hCz (fun x hx h => by omega)⟩
    · have HGet := kept (get_more q s (k + n) (c - 1) w4 HR5.out hs (by omega) (by omega) (by omega))
      have hg : getOne L ((bitsS s).drop k) = (2, (0, 0), (bitsS s).drop k) := getOne_more HD.out (by rw [List.length_drop, length_bitsS]; omega)
      have HGo := kept hg
      clear hg hbn
      go_wp2_with fail
      refine HGet.out.mono ?_
      rintro e w5 ⟨rfl, hb5⟩
      have hB5 : Blk w5 pp #[.int .i64 (c : Int), .int .u64 0] 54 := (hb5.block pp (Blk.lt HB4.out)).trans HB4.out
      have d0 : w5.cell? ⟨pp, 0, none⟩ = some (.int .i64 (c : Int)) := Blk.cell hB5 rfl
      have d1 : w5.cell? ⟨pp, 1, none⟩ = some (.int .u64 0) := Blk.cell hB5 rfl
      have f0 : w5.frozen? ⟨pp, 0, none⟩ = false := Blk.free hB5 0
      have f1 : w5.frozen? ⟨pp, 1, none⟩ = false := Blk.free hB5 1
      have HC5 := kept (HC4.out.trans (Chg.of_below hb5) (fun _ _ h => h))
      have HB5 := kept hB5
      clear hb5 hB5
      go_wp2_with fail
      show T _ _
      rw [← HT.out]
      clear HT T
      unfold wpOrd
      simp only [pick, List.filterMap_cons, List.filterMap_nil, List.getElem?_cons_zero, List.getElem?_cons_succ]
      refine ⟨?_, ?_⟩
      · generalize hT : wpOrd _ _ _ K _ = T
        have HT := kept hT
        clear hT
        go_wp2_with fail
        show T _ _
        rw [← HT.out]
        clear HT T
        unfold wpOrd
        simp only [pick, List.filterMap_cons, List.filterMap_nil, List.getElem?_cons_zero, List.getElem?_cons_succ]
        refine ⟨?_, ?_⟩
        · generalize hT : wpOrd _ _ _ K _ = T
          have HT := kept hT
          clear hT
          go_wp2_with fail
          show T _ _
          rw [← HT.out]
          clear HT T
          unfold wpOrd
          simp only [pick, List.filterMap_cons, List.filterMap_nil, List.getElem?_cons_zero, List.getElem?_cons_succ]
          show wpList _ _ _ [_, _, _] _ _
          go_wp2_with fail
          refine hK _ _ ?_
          go_wp2_with fail
          generalize hwz : World.setCell _ _ _ = wz
          have hBz : Blk wz pp #[.int .i64 0, .int .u64 0] 54 := by rw [← hwz]; have h := ((HB5.out.set 1 (.int .u64 0)).set 0 (.int .i64 0)).set 1 (.int .u64 0); simpa using h
          have hCz : Chg (fun x => x = pp) w5 wz := by rw [← hwz]; exact ((Chg.setCell w5 ⟨pp, 1, none⟩ _).trans (Chg.setCell _ ⟨pp, 0, none⟩ _) (fun _ _ h => h)).trans (Chg.setCell _ ⟨pp, 1, none⟩ _) (fun _ _ h => h)
          have z0 : wz.cell? ⟨pp, 0, none⟩ = some (.int .i64 0) := Blk.cell hBz rfl
          have z1 : wz.cell? ⟨pp, 1, none⟩ = some (.int .u64 0) := Blk.cell hBz rfl
          refine bodyPost_ret (v := .tuple #[.agg #[.int .i64 0, .int .u64 0], .int .i64 2]) (by simp [results, Try.results35, go_sem, z0, z1]) rfl ?_
          exact ⟨by rw [HGo.out]; rfl, fun h => absurd h (by rw [HGo.out]; exact (by decide : ¬ (2 : Nat) = 0)), HC5.out.trans hCz (fun x hx h => by omega)⟩
        · generalize hT : wpOrd _ _ _ K _ = T
          have HT := kept hT
          clear hT
          go_wp2_with fail
          show T _ _
          rw [← HT.out]
          clear HT T
          unfold wpOrd
          simp only [pick, List.filterMap_cons, List.filterMap_nil, List.getElem?_cons_zero, List.getElem?_cons_succ]
          refine ⟨?_, ?_⟩
          · generalize hT : wpOrd _ _ _ K _ = T
            have HT := kept hT
            clear hT
            go_wp2_with fail
            show T _ _
            rw [← HT.out]
            clear HT T
            unfold wpOrd
            simp only [pick, List.filterMap_cons, List.filterMap_nil, List.getElem?_cons_zero, List.getElem?_cons_succ]
            show wpList _ _ _ [_, _] _ _
            go_wp2_with fail
            refine hK _ _ ?_
            go_wp2_with fail
            generalize hwz : World.setCell _ _ _ = wz
            have hBz : Blk wz pp #[.int .i64 0, .int .u64 0] 54 := by rw [← hwz]; have h := ((HB5.out.set 1 (.int .u64 0)).set 0 (.int .i64 0)).set 1 (.int .u64 0); simpa using h
            have hCz : Chg (fun x => x = pp) w5 wz := by rw [← hwz]; exact ((Chg.setCell w5 ⟨pp, 1, none⟩ _).trans (Chg.setCell _ ⟨pp, 0, none⟩ _) (fun _ _ h => h)).trans (Chg.setCell _ ⟨pp, 1, none⟩ _) (fun _ _ h => h)
            have z0 : wz.cell? ⟨pp, 0, none⟩ = some (.int .i64 0) := Blk.cell hBz rfl
            have z1 : wz.cell? ⟨pp, 1, none⟩ = some (.int .u64 0) := Blk.cell hBz rfl
            refine bodyPost_ret (v := .tuple #[.agg #[.int .i64 0, .int .u64 0], .int .i64 2]) (by simp [results, Try.results35, go_sem, z0, z1]) rfl ?_
            exact ⟨by rw [HGo.out]; rfl, fun h => absurd h (by rw [HGo.out]; exact (by decide : ¬ (2 : Nat) = 0)), HC5.out.trans hCz (fun x hx h => by omega)⟩
          · generalize hT : wpOrd _ _ _ K _ = T
            have HT := kept hT
            clear hT
            go_wp2_with fail
            show T _ _
            rw [← HT.out]
            clear HT T
            unfold wpOrd
            simp only [pick, List.filterMap_cons, List.filterMap_nil, List.getElem?_cons_zero, List.getElem?_cons_succ]
            show wpList _ _ _ [_, _] _ _
            go_wp2_with fail
            refine hK _ _ ?_
            go_wp2_with fail
            generalize hwz : World.setCell _ _ _ = wz
            have hBz : Blk wz pp #[.int .i64 0, .int .u64 0] 54 := by rw [← hwz]; have h := ((HB5.out.set 1 (.int .u64 0)).set 0 (.int .i64 0)).set 1 (.int .u64 0); simpa using h
            have hCz : Chg (fun x => x = pp) w5 wz := by rw [← hwz]; exact ((Chg.setCell w5 ⟨pp, 1, none⟩ _).trans (Chg.setCell _ ⟨pp, 0, none⟩ _) (fun _ _ h => h)).trans (Chg.setCell _ ⟨pp, 1, none⟩ _) (fun _ _ h => h)
            have z0 : wz.cell? ⟨pp, 0, none⟩ = some (.int .i64 0) := Blk.cell hBz rfl
            have z1 : wz.cell? ⟨pp, 1, none⟩ = some (.int .u64 0) := Blk.cell hBz rfl
            refine bodyPost_ret (v := .tuple #[.agg #[.int .i64 0, .int .u64 0], .int .i64 2]) (by simp [results, Try.results35, go_sem, z0, z1]) rfl ?_
            exact ⟨by rw [HGo.out]; rfl, fun h => absurd h (by rw [HGo.out]; exact (by decide : ¬ (2 : Nat) = 0)), HC5.out.trans hCz (fun x hx h => by omega)⟩
      · generalize hT : wpOrd _ _ _ K _ = T
        have HT := kept hT
        clear hT
        go_wp2_with fail
        show T _ _
        rw [← HT.out]
        clear HT T
        unfold wpOrd
        simp only [pick, List.filterMap_cons, List.filterMap_nil, List.getElem?_cons_zero, List.getElem?_cons_succ]
        show wpList _ _ _ [_, _, _, _] _ _
        go_wp2_with fail
        refine hK _ _ ?_
        go_wp2_with fail
        generalize hwz : World.setCell _ _ _ = wz
        have hBz : Blk wz pp #[.int .i64 0, .int .u64 0] 54 := by rw [← hwz]; have h := ((HB5.out.set 1 (.int .u64 0)).set 0 (.int .i64 0)).set 1 (.int .u64 0); simpa using h
        have hCz : Chg (fun x => x = pp) w5 wz := by rw [← hwz]; exact ((Chg.setCell w5 ⟨pp, 1, none⟩ _).trans (Chg.setCell _ ⟨pp, 0, none⟩ _) (fun _ _ h => h)).trans (Chg.setCell _ ⟨pp, 1, none⟩ _) (fun _ _ h => h)
        have z0 : wz.cell? ⟨pp, 0, none⟩ = some (.int .i64 0) := Blk.cell hBz rfl
        have z1 : wz.cell? ⟨pp, 1, none⟩ = some (.int .u64 0) := Blk.cell hBz rfl
        refine bodyPost_ret (v := .tuple #[.agg #[.int .i64 0, .int .u64 0], .int .i64 2]) (by simp [results, Try.results35, go_sem, z0, z1]) rfl ?_
        exact ⟨by rw [HGo.out]; rfl, fun h => absurd h (by rw [HGo.out]; exact (by decide : ¬ (2 : Nat) = 0)), HC5.out.trans hCz (fun x hx h => by omega)⟩
  · have hg := getOne_err (L := L) (bs := (bitsS s).drop k) (by rw [HD.out]; exact her)
    rw [HD.out] at hg
    have HGo := kept hg
    have ter : ((er : Int) != 0) = true := by rw [bne_iff_ne]; omega
    clear hg
    go_wp2_with fail
    generalize hwz : World.setCell _ _ _ = wz
    have hBz : Blk wz pp #[.int .i64 0, .int .u64 0] 54 := by
      rw [← hwz]
      have h := (HB3.out.set 0 (.int .i64 0)).set 1 (.int .u64 0)
      simpa using h
    have hCz : Chg (fun x => x = q) w wz := by
      rw [← hwz]
      exact HC2.out.trans (((Chg.setCell w2 ⟨pp, 0, none⟩ _).trans (Chg.setCell _ ⟨pp, 0, none⟩ _) (fun _ _ h => h)).trans (Chg.setCell _ ⟨pp, 1, none⟩ _) (fun _ _ h => h)) (fun x hx h => by simp at h; omega)
    have z0 : wz.cell? ⟨pp, 0, none⟩ = some (.int .i64 0) := Blk.cell hBz rfl
    have z1 : wz.cell? ⟨pp, 1, none⟩ = some (.int .u64 0) := Blk.cell hBz rfl
    refine bodyPost_ret (v := .tuple #[.agg #[.int .i64 0, .int .u64 0], .int .i64 (er : Int)]) (by simp [results, Try.results35, go_sem, z0, z1]) rfl ?_
    exact ⟨by rw [HGo.out]; rfl, fun h => absurd h (by rw [HGo.out]; exact her), hCz⟩
end Go.Proofs.Ytnakjencodicmaa

-- ---- Br
/- bits.Reader: whether nothing is left. -/
namespace Go.Proofs.Ytnakjencodicmaa
set_option maxRecDepth 100000
set_option linter.unusedSimpArgs false
set_option linter.unusedVariables false
open Go.RowKit Mix _root_.Go.Proofs.Ytnakjencodicmaa.Own Bits
attribute [local go_sem] max_int min_int

/-- Whether nothing but noughts is left, and these fewer than eight. -/
def restS (s : ByteArray) (k : Nat) : Bool := decide (8 * s.size < k + 8) && ((bitsS s).drop k).all fun b => !b

theorem restS_byte (s : ByteArray) (k : Nat) (h1 : k < 8 * s.size) (h2 : 8 * s.size < k + 8) : restS s k = (byteS s (s.size - 1) / 2 ^ (k % 8) == 0) := by
  unfold restS
  rw [decide_eq_true h2, Bool.true_and, Bool.eq_iff_iff, ← ofBits_zero, beq_iff_eq]
  have e : ofBits ((bitsS s).drop k) = byteS s (s.size - 1) / 2 ^ (k % 8) := by
    apply Nat.eq_of_testBit_eq
    intro i
    rw [testBit_ofBits, List.getD_eq_getElem?_getD, List.getElem?_drop, ← List.getD_eq_getElem?_getD, getD_bitsS, Nat.testBit_div_two_pow]
    by_cases hi : k + i < 8 * s.size
    · have e1 : (k + i) / 8 = s.size - 1 := by omega
      have e2 : (k + i) % 8 = k % 8 + i := by omega
      simp only [hi, decide_true, Bool.true_and, bitS, e1, e2]
      congr 1; omega
    · simp only [hi, decide_false, Bool.false_and]
      symm
      apply Nat.testBit_lt_two_pow
      have hb := byteS_lt s (s.size - 1)
      have : 2 ^ 8 ≤ 2 ^ (i + k % 8) := Nat.pow_le_pow_right (by decide) (by omega)
      omega
  rw [e]

set_option maxHeartbeats 2000000 in
theorem rest_calls (p : Nat) (s : ByteArray) (k : Nat) (w : World) (h : IsRd w p s k) (hs : s.size ≤ 1000000000000) (hk : k ≤ 8 * s.size) :
    Calls Try.prog 36 #[.pointer (some ⟨p, 0, none⟩)] w fun e w' => e = .returned (.bool (restS s k)) ∧ Below w.heap.size w w' := by
  have c0 : w.cell? ⟨p, 0, none⟩ = some (.string s) := Blk.cell h rfl
  have c1 : w.cell? ⟨p, 1, none⟩ = some (.int .i64 (k : Int)) := Blk.cell h rfl
  have H := kept h
  clear h
  by_cases h8 : k + 8 ≤ 8 * s.size
  · have e : restS s k = false := by unfold restS; rw [decide_eq_false (by omega)]; rfl
    rw [e]
    have t1 : decide ((8 : Int) ≤ 8 * (s.size : Int) - (k : Int)) = true := by simp; omega
    go_enter Try.func36, Try.ntmps36
    go_wp2_with (first | (go_at_call 52; refine (left_calls p s k w H.out hs hk).mono ?_; rintro e w1 ⟨rfl, hb1⟩; have HB1 := kept hb1; clear hb1))
    go_ret
    exact ⟨rfl, HB1.out⟩
  · have t1 : decide ((8 : Int) ≤ 8 * (s.size : Int) - (k : Int)) = false := by simp; omega
    by_cases h0 : k = 8 * s.size
    · have e : restS s k = true := by unfold restS; rw [decide_eq_true (by omega), List.drop_eq_nil_of_le (by simp; omega)]; rfl
      rw [e]
      have t2 : (8 * (s.size : Int) - (k : Int) == 0) = true := by rw [beq_iff_eq]; omega
      go_enter Try.func36, Try.ntmps36
      go_wp2_with (first | (go_at_call 52; refine (left_calls p s k w H.out hs hk).mono ?_; rintro e w1 ⟨rfl, hb1⟩; have h1 : IsRd w1 p s k := (hb1.block p (Blk.lt H.out)).trans H.out; have l0 := lat_cell (Blk.cell h1 (i := 0) rfl); have l1 := lat_cell (Blk.cell h1 (i := 1) rfl); have H1 := kept h1; have HB1 := kept hb1; clear hb1 h1))
      refine wp_region_quietL (by kernel_rfl) (by kernel_rfl) ?_
      repeat (go_big_quiet_step ((go_at_call 52; exact lat_call (left_calls p s k _ (lat_block H1.out _) hs hk))))
      refine wpQuiet_nil ?_
      intro nq
      go_wp2_with fail
      go_ret
      exact ⟨rfl, HB1.out.trans (nq.below.mono HB1.out.size)⟩
    · have e := restS_byte s k (by omega) (by omega)
      rw [e]
      have t2 : (8 * (s.size : Int) - (k : Int) == 0) = false := by rw [beq_eq_false_iff_ne]; omega
      have hix := run_ix (P := Try.prog) (T := 9) Try.underlying9 s ((s.size : Int) - 1) (s.size - 1) (by omega) (by omega)
      obtain ⟨b, hb⟩ : ∃ b, b = byteS s (s.size - 1) := ⟨_, rfl⟩
      have hb8 : b < 256 := by rw [hb]; exact byteS_lt _ _
      rw [← hb] at hix
      have HB := kept hb
      clear hb e
      rw [← HB.out]
      have hbq : Kept (((b : Int) / 2 ^ (k % 8) == 0) = (b / 2 ^ (k % 8) == 0)) := kept (by
        have e : ((b : Int) / 2 ^ (k % 8)) = ((b / 2 ^ (k % 8) : Nat) : Int) := by simp
        rw [Bool.eq_iff_iff, beq_iff_eq, beq_iff_eq, e]
        omega)
      go_enter Try.func36, Try.ntmps36
      go_wp2_with (first | (go_at_call 52; refine (left_calls p s k w H.out hs hk).mono ?_; rintro e w1 ⟨rfl, hb1⟩; have h1 : IsRd w1 p s k := (hb1.block p (Blk.lt H.out)).trans H.out; have l0 := lat_cell (Blk.cell h1 (i := 0) rfl); have l1 := lat_cell (Blk.cell h1 (i := 1) rfl); have H1 := kept h1; have HB1 := kept hb1; clear hb1 h1))
      refine wp_region_quietL (by kernel_rfl) (by kernel_rfl) ?_
      repeat (go_big_quiet_step ((go_at_call 52; exact lat_call (left_calls p s k _ (lat_block H1.out _) hs hk))))
      refine wpQuiet_nil ?_
      intro nq
      go_wp2_with fail
      go_ret
      exact ⟨by show Ending.returned (Value.bool ((b : Int) / 2 ^ (k % 8) == 0)) = _; rw [hbq.out], HB1.out.trans (nq.below.mono HB1.out.size)⟩
end Go.Proofs.Ytnakjencodicmaa

-- ---- Je
/- Codes as what a map holds; the answer of getting parts. Plain facts; no program in sight. -/
namespace Go.Proofs.Ytnakjencodicmaa
set_option maxRecDepth 100000
set_option linter.unusedSimpArgs false
set_option linter.unusedVariables false
open Go.RowKit Mix _root_.Go.Proofs.Ytnakjencodicmaa.Own Bits Hu Dp

/-- The classes with a code, one behind the other. -/
def entF (L : List Int) (n : Nat) : List (Nat × Nat × Nat) := (List.range n).flatMap fun c => if 0 < cdN L c then [(cdB L c, cdN L c, c)] else []
theorem entF_zero (L : List Int) : entF L 0 = [] := rfl
theorem entF_succ (L : List Int) (n : Nat) : entF L (n + 1) = entF L n ++ (if 0 < cdN L n then [(cdB L n, cdN L n, n)] else []) := by simp [entF, List.range_succ]
theorem mem_entF {L : List Int} {n : Nat} {p : Nat × Nat × Nat} : p ∈ entF L n ↔ ∃ c, c < n ∧ 0 < cdN L c ∧ p = (cdB L c, cdN L c, c) := by
  unfold entF
  rw [List.mem_flatMap]
  constructor
  · rintro ⟨c, h1, h2⟩
    split at h2
    · rename_i h; exact ⟨c, List.mem_range.1 h1, h, by simpa using h2⟩
    · cases h2
  · rintro ⟨c, h1, h2, h3⟩
    exact ⟨c, List.mem_range.2 h1, by rw [if_pos h2]; simp [h3]⟩
theorem fit_entF {L : List Int} (hm : mayL L = true) {n : Nat} (hn : n ≤ 65) : Fit (entF L n) := by
  refine ⟨fun p hp => ?_, fun p hp q hq h1 h2 => ?_⟩
  · obtain ⟨c, hc, _, rfl⟩ := mem_entF.1 hp
    obtain ⟨a1, a2, _⟩ := cd_all hm c (by omega)
    have h3 : 2 ^ cdN L c ≤ 2 ^ 15 := Nat.pow_le_pow_right (by decide) a1
    simp only; omega
  · obtain ⟨c, hc, hc0, rfl⟩ := mem_entF.1 hp
    obtain ⟨d, hd, hd0, rfl⟩ := mem_entF.1 hq
    simp only at h1 h2
    by_cases e : c = d
    · rw [e]
    · have := cd_apart hm (show c < 65 by omega) (show d < 65 by omega) e (by omega) (by omega)
      rw [h2, Nat.sub_self, Nat.pow_zero, Nat.div_one] at this
      exact absurd h1.symm this
theorem new_entF {L : List Int} (hm : mayL L = true) {n : Nat} (hn : n < 65) (h0 : 0 < cdN L n) : ∀ p ∈ entF L n, ¬ (p.1 = cdB L n ∧ p.2.1 = cdN L n) := by
  rintro p hp ⟨h1, h2⟩
  obtain ⟨c, hc, hc0, rfl⟩ := mem_entF.1 hp
  simp only at h1 h2
  have := cd_apart hm (show c < 65 by omega) hn (show c ≠ n by omega) (by omega) (by omega)
  rw [h2, Nat.sub_self, Nat.pow_zero, Nat.div_one] at this
  exact this h1.symm
theorem tells_entF {L : List Int} (hm : mayL L = true) : Tells L (entF L 65) := by
  intro v n hn
  cases hf : findC L v n with
  | none =>
    refine lookL_none fun p hp hh => ?_
    obtain ⟨c, hc, hc0, rfl⟩ := mem_entF.1 hp
    exact findC_none hf c hc hn hh.2 hh.1
  | some c =>
    obtain ⟨h1, _, h3, h4⟩ := findC_some hf
    have h := lookL_some (fit_entF hm (Nat.le_refl 65)) (mem_entF.2 ⟨c, h1, by omega, rfl⟩)
    simp only at h
    rw [h3, h4] at h
    exact h
theorem length_entF {L : List Int} (hl : L.length = 65) : (entF L 65).length = sm L := by
  have key : ∀ n, n ≤ 65 → (entF L n).length = ((L.take n).map fun x : Int => if 0 < x then 1 else 0).sum := by
    intro n
    induction n with
    | zero => intro _; rfl
    | succ n ih =>
      intro hn
      have e : L.take (n + 1) = L.take n ++ [L.getD n 0] := by rw [List.take_succ_eq_append_getElem (by omega)]; simp [List.getD_eq_getElem?_getD, show n < L.length by omega]
      rw [entF_succ, List.length_append, ih (by omega), e, List.map_append, List.sum_append]
      congr 1
      have e2 : cdN L n = (L.getD n 0).toNat := rfl
      by_cases h : 0 < L.getD n 0
      · rw [if_pos (by omega)]; simp only [List.map_cons, List.map_nil, List.sum_cons, List.sum_nil]; rw [if_pos h]; rfl
      · rw [if_neg (by omega)]; simp only [List.map_cons, List.map_nil, List.sum_cons, List.sum_nil]; rw [if_neg h]; rfl
  have h := key 65 (Nat.le_refl _)
  rw [h, List.take_of_length_le (by omega)]; rfl

/-- Whether nothing but noughts is left, and these fewer than eight. -/
def restL (bs : List Bool) : Bool := decide (bs.length < 8) && bs.all fun b => !b
theorem restS_drop (s : ByteArray) (k : Nat) (hk : k ≤ 8 * s.size) : restS s k = restL ((bitsS s).drop k) := by
  unfold restS restL
  congr 1
  rw [List.length_drop, length_bitsS]
  apply decide_eq_decide.2
  omega
/-- What is got: parts and an error. -/
def getE (L : List Int) (s : ByteArray) (n : Int) : List (Nat × Nat) × Int :=
  if mayL L = true then
    if n < 0 ∨ 4096 < n then ([], 1)
    else if (getPs L n.toNat (bitsS s)).1 ≠ 0 then ([], ((getPs L n.toNat (bitsS s)).1 : Int))
    else if restL (getPs L n.toNat (bitsS s)).2.2 = true then ((getPs L n.toNat (bitsS s)).2.1, 0) else ([], 3)
  else ([], 3)
end Go.Proofs.Ytnakjencodicmaa
