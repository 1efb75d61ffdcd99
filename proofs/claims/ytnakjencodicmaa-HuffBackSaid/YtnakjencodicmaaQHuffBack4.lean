/- Part HuffBack4 of what the layer's laws stand on: Rg, PAx21, PAx30, Le, PAx47, Jq, PAx15, PAx22, PAx23, Uhf, PAx1, PAx37, PAx48, PAx49, Unf, Usp, PureHuffBack, LawHuffBack. Written by a program (merge.py) out of this session's own texts and of what the kit's print wrote over stand-ins (sp.py). Conditions: those that each theorem names. -/
import Derived.Test.YtnakjencodicmaaQHuffBack3
import Derived.Deep.CutBlock
import Derived.Test.YtnakjencodicmaaQHuffBack2
import Derived.Test.YtnakjencodicmaaQHuffBack1
import Derived.Test.YtnakjencodicmaaRows
import Derived.WalkKit
import Derived.ProofKit
import Derived.OpenShut
import Derived.ShutString
import Derived.ChangeOld
import Derived.Below
import Derived.SizedLaws
import Derived.Test.YtnakjencodicmaaQHuffBackVSized
-- ---- Rg
/- wringerref7.Lengths: what the call answers for what may be asked. Conditions: the list reads as the argument does. -/
namespace Go.Proofs.Ytnakjencodicmaa
set_option maxRecDepth 100000
set_option linter.unusedSimpArgs false
set_option linter.unusedVariables false
open Go.RowKit Mix _root_.Go.Proofs.Ytnakjencodicmaa.Own Dp Ol
attribute [local go_sem] Own.max_int Own.min_int

theorem sliceX {w : World} {v : Value} {l : List Nat} (h : Owns w 3 v (idx l)) : ∃ a c, v = .slice a l.length c ∧ (l ≠ [] → ∃ g, a = some ⟨g, 0, none⟩) := by
  obtain ⟨a, c, e, hr⟩ := h.slice
  refine ⟨a, c, by rw [e, length_idx], fun hl => hr fun e => hl ?_⟩
  have := congrArg List.length e
  rw [length_idx] at this
  exact List.length_eq_zero_iff.1 this
theorem Own.Many.rest {B : Nat} {w : World} {e : TypeId} {r : Value × List Value} {R : List (Value × List Value)} (h : Many B w e (r :: R)) : Many B w e [r] :=
  ⟨fun i v xs hi => by
    match i, hi with
    | 0, hi => exact h.own 0 v xs hi
    | i + 1, hi => simp at hi, fun i v xs hi => by
    match i, hi with
    | 0, hi => exact h.new 0 v xs hi
    | i + 1, hi => simp at hi, fun i j a xs b ys hij hi hj => by
    have h1 : i = 0 := by have := (List.getElem?_eq_some_iff.1 hi).1; simpa using this
    have h2 : j = 0 := by have := (List.getElem?_eq_some_iff.1 hj).1; simpa using this
    omega⟩
/-- The end: the block of the result told. -/
theorem rlen_end {B : Nat} {w wr : World} {g : Nat} {xs : List Int} (h1 : Blk wr B #[.slice none 0 0, .int .i64 0] 45) (h2 : Below B w wr) (h3 : Many B wr 3 [(.slice (some ⟨g, 0, none⟩) 65 65, ints .i64 xs)]) :
    Blk ((wr.setCell ⟨B, 0, none⟩ (.slice (some ⟨g, 0, none⟩) 65 65)).setCell ⟨B, 1, none⟩ (.int .i64 0)) B #[.slice (some ⟨g, 0, none⟩) 65 65, .int .i64 0] 45 ∧
    Owns ((wr.setCell ⟨B, 0, none⟩ (.slice (some ⟨g, 0, none⟩) 65 65)).setCell ⟨B, 1, none⟩ (.int .i64 0)) 3 (.slice (some ⟨g, 0, none⟩) 65 65) (ints .i64 xs) ∧
    (∀ b, (Value.slice (some ⟨g, 0, none⟩) 65 65).ownBlock = some b → B ≤ b) ∧ Below B w ((wr.setCell ⟨B, 0, none⟩ (.slice (some ⟨g, 0, none⟩) 65 65)).setCell ⟨B, 1, none⟩ (.int .i64 0)) := by
  have hb1 := h1.set 0 (.slice (some ⟨g, 0, none⟩) 65 65)
  have m1 := h3.setBlk h1 (by decide) 0 (.slice (some ⟨g, 0, none⟩) 65 65)
  have m2 := m1.setBlk hb1 (by decide) 1 (.int .i64 0)
  exact ⟨hb1.set 1 _, m2.own 0 _ _ rfl, h3.new 0 _ _ rfl, (h2.setCell (p := ⟨B, 0, none⟩) (Nat.le_refl _) _).setCell (p := ⟨B, 1, none⟩) (Nat.le_refl _) _⟩

set_option maxRecDepth 100000 in
set_option maxHeartbeats 4000000 in
theorem rlen_ok (A0 : Option Addr) (c0 : Nat) (l0 : List Int) (m : Nat) (w : World) (hR : Rd w (.slice A0 65 65) (ints .i64 l0)) (hf : Fq l0 m) :
    Calls Try.prog 18 #[.slice A0 65 c0, .int .i64 (m : Int)] w fun e w' => ∃ v, e = .returned (.agg #[v, .int .i64 0]) ∧ Owns w' 3 v (ints .i64 (lenL l0 m)) ∧ (∀ g, v.ownBlock = some g → w.heap.size ≤ g) ∧ Below w.heap.size w w' := by
  obtain ⟨i0, hi, hz0, hz1, hz2⟩ := info_partsI infoI64
  have h65 := hf.len
  obtain ⟨B, hB⟩ : ∃ B, B = w.heap.size := ⟨_, rfl⟩
  have hro := fun w1 (h : Below w.heap.size w w1) => rorder_calls A0 65 c0 l0 w1 (hR.later h) (by omega)
  rw [← hB]
  have t7 : decide ((m : Int) < 7) = false := decide_eq_false (by have := hf.lo; omega)
  have t15 : decide (15 < (m : Int)) = false := decide_eq_false (by have := hf.hi; omega)
  have HB := kept hB
  have HF := kept hf
  have HR := kept hR
  have HL := kept h65
  have HRo := kept hro
  clear hB hf hR h65 hro
  go_enter Try.func18, Try.ntmps18
  go_wp2_with fail
  rw [show w.heap.size = B from HB.out.symm]
  generalize hw1 : World.alloc w _ = w1
  have HS1 : Kept (Blk w1 B #[.slice none 0 0, .int .i64 0] 45 ∧ Below B w w1) := kept (by rw [← hw1, HB.out]; exact ⟨Blk.fresh _ _ _, (Below.refl _ _).alloc (Nat.le_refl _) _⟩)
  have HR1 := kept (HR.out.later (show Below w.heap.size w w1 by rw [← HB.out]; exact HS1.out.2))
  clear hw1
  go_loopw [5] (fun s5 wr => ∃ i : Nat, i ≤ 65 ∧ s5 = .int .i64 (i : Int) ∧ wr = w1) (fun s5 _ => 65 - (intOf s5).toNat)
  case atStart => exact ⟨0, by omega, rfl, rfl⟩
  case round =>
    obtain ⟨i, hi65, rfl, rfl⟩ := hrel
    by_cases hlt : i < 65
    · have hil : i < l0.length := by rw [HL.out]; exact hlt
      obtain ⟨x, rfl, hc⟩ := HR1.out.at (Own.ints_at .i64 l0 i hil)
      have hy := HF.out.each (l0.getD i 0) (by simp [List.getD_eq_getElem?_getD, hil])
      obtain ⟨y, hye⟩ : ∃ y, y = l0.getD i 0 := ⟨_, rfl⟩
      rw [← hye] at hc hy
      obtain ⟨hy0, hy1⟩ := hy
      have ty : decide (y < 0) = false := decide_eq_false (by omega)
      have tz : decide (16777216 < y) = false := decide_eq_false (by omega)
      clear hye hil
      go_wp2_with fail
      go_roundw
      case rel => exact ⟨i + 1, by omega, by go_num, trivial⟩
      case measure => simp [intOf]; omega
    · have hie : i = 65 := by omega
      subst hie
      go_wp2_with (first | (refine wpList_mk1 rfl _ _ 23 rfl 3 i0 (.int .i64 0) 8 Try.underlying23 hi hz0 hz1 hz2 rfl .i64 .i64 _ _ 65 rfl rfl rfl rfl (by decide) (by decide) ?_))
      intro w2 hO hb hlt2
      obtain ⟨g, hg⟩ : ∃ g, g = wr.heap.size := ⟨_, rfl⟩
      have hM2 : Many B w2 3 [(.slice (some ⟨g, 0, none⟩) 65 65, ints .i64 (List.replicate 65 0))] := by
        have := (Many.nil B wr 3).add (v := .slice (some ⟨wr.heap.size, 0, none⟩) 65 65) hb hO (fun b hb => by simp [Value.ownBlock] at hb; omega) (Nat.le_of_lt HS1.out.1.lt)
        rw [hg]; simpa [ints] using this
      have HS2 : Kept (Blk w2 B #[.slice none 0 0, .int .i64 0] 45 ∧ Below B w w2) := kept ⟨(hb.block B HS1.out.1.lt).trans HS1.out.1, HS1.out.2.trans (hb.mono (Nat.le_of_lt HS1.out.1.lt))⟩
      have HM2 := kept hM2
      rw [← hg]
      have HC := kept (HRo.out w2 (by rw [← HB.out]; exact HS2.out.2))
      clear hO hb hlt2 hg hM2 hlt HS1 HR1
      go_wp2_with fail
      refine HC.out.mono ?_
      rintro e w3 ⟨v7, rfl, ho⟩
      have hM3 := HM2.out.add ho.low ho.own ho.new (Nat.le_of_lt HS2.out.1.lt)
      have HS3 : Kept (Blk w3 B #[.slice none 0 0, .int .i64 0] 45 ∧ Below B w w3) := kept ⟨(ho.low.block B HS2.out.1.lt).trans HS2.out.1, HS2.out.2.trans (ho.low.mono (Nat.le_of_lt HS2.out.1.lt))⟩
      obtain ⟨a7, c7, rfl, ha7⟩ := sliceX ho.own
      have HM3 := kept hM3
      have hnl := length_ordL l0
      rw [HL.out] at hnl
      obtain ⟨n, hn⟩ : ∃ n, n = (ordL l0).length := ⟨_, rfl⟩
      rw [← hn] at HM3 hnl ⊢
      have HN := kept hn
      have HA7 := kept ha7
      clear ho hM3 hn ha7 HC HM2 HS2
      have d0 := HS3.out.1.cell (i := 0) rfl
      have d1 := HS3.out.1.cell (i := 1) rfl
      have f0 := HS3.out.1.free 0
      have f1 := HS3.out.1.free 1
      by_cases hn1 : n = 1
      · subst hn1
        have hlen1 : (ordL l0).length = 1 := HN.out.symm
        obtain ⟨k, hk⟩ : ∃ k, ordL l0 = [k] := List.length_eq_one_iff.1 hlen1
        obtain ⟨g7, rfl⟩ := HA7.out (by rw [hk]; simp)
        have hk65 : k < 65 := by have h := (mem_ordL (f := l0) (i := k)).1 (by rw [hk]; simp); rw [← HL.out]; exact h.1
        have hcell7 : w3.cell? ⟨g7, 0, none⟩ = some (.int .i64 (k : Int)) := by
          have := (HM3.out.own 1 _ _ rfl).cell (j := 0) (idx_at _ 0 (by rw [hlen1]; decide))
          rw [hk] at this; exact this
        have co := (HM3.out.own 0 _ _ rfl).cell (j := k) (Own.ints_at .i64 (List.replicate 65 0) k (by simpa using hk65))
        have fo := (HM3.out.own 0 _ _ rfl).free k
        have HLen : Kept (lenL l0 m = (List.replicate 65 0).set k 1) := kept (by
          have e : lensOf l0 m = [1] := by unfold lensOf; rw [if_pos hlen1]
          unfold lenL; rw [e, hk]; rfl)
        have hM4 := (HM3.out.store 0 rfl k (.int .i64 1) (Nat.le_of_lt HS3.out.1.lt)).rest
        rw [← ints_set] at hM4
        have HM4 : Kept (Many B (w3.setCell ⟨g, k, none⟩ (.int .i64 1)) 3 [(.slice (some ⟨g, 0, none⟩) 65 65, ints .i64 (lenL l0 m))]) := kept (by rw [HLen.out]; exact hM4)
        have hc4 : Chg (fun b => some b = (Value.slice (some ⟨g, 0, none⟩) 65 65).ownBlock) w3 (w3.setCell ⟨g, k, none⟩ (.int .i64 1)) := (Chg.setCell w3 ⟨g, k, none⟩ (.int .i64 1)).mono fun b _ hb => by rw [hb]; rfl
        have HS4 : Kept (Blk (w3.setCell ⟨g, k, none⟩ (.int .i64 1)) B #[.slice none 0 0, .int .i64 0] 45 ∧ Below B w (w3.setCell ⟨g, k, none⟩ (.int .i64 1))) := kept ⟨HM3.out.other 0 rfl hc4 HS3.out.1 (by decide), HS3.out.2.trans (HM3.out.below 0 rfl hc4 (Nat.le_of_lt HS3.out.1.lt))⟩
        have HE := kept (rlen_end HS4.out.1 HS4.out.2 HM4.out)
        have e0 := HS4.out.1.cell (i := 0) rfl
        have e1 := HS4.out.1.cell (i := 1) rfl
        have g0 := HS4.out.1.free 0
        have g1 := HS4.out.1.free 1
        clear hk hlen1 hM4 hc4 d0 d1 f0 f1
        go_wp2_with fail
        exact bodyPost_ret (results_cell_row rfl _ _ B 45 #[.slice (some ⟨g, 0, none⟩) 65 65, .int .i64 0] (0, 0) _ rfl HE.out.1 Try.underlying45 rfl (by kernel_rfl)) rfl ⟨_, rfl, HE.out.2⟩
      · by_cases hn0 : n = 0
        · subst hn0
          have HE := kept (rlen_end HS3.out.1 HS3.out.2 HM3.out.rest)
          have HLen : Kept (lenL l0 m = List.replicate 65 0) := kept (by
            have e : ordL l0 = [] := List.length_eq_zero_iff.1 HN.out.symm
            unfold lenL; rw [e, scat_nil])
          clear hn1
          go_wp2_with fail
          exact bodyPost_ret (results_cell_row rfl _ _ B 45 #[.slice (some ⟨g, 0, none⟩) 65 65, .int .i64 0] (0, 0) _ rfl HE.out.1 Try.underlying45 rfl (by kernel_rfl)) rfl ⟨_, rfl, by rw [HLen.out]; exact HE.out.2⟩
        · obtain ⟨g7, rfl⟩ := HA7.out (by intro e; apply hn0; rw [HN.out, e]; rfl)
          have tn1 : ((n : Int) == 1) = false := by rw [beq_eq_false_iff_ne]; omega
          have hn2 : 2 ≤ n := by omega
          clear hn0 hn1 d0 d1 f0 f1
          go_upto_region 14 with (fail)
          go_cut [8] from 65 to 72 (fun s8 wx => ∃ p vk vs, s8 = .pointer (some ⟨p, 0, none⟩) ∧ StB B w wx g g7 c7 l0 m p (.slice none 0 0) vk vs (List.replicate 65 0) [] (List.replicate 166600 0) (List.replicate (n + 1) 0))
          case first =>
            refine wp_region_treeL [0,2,3,4] [] (.two 1 (.seq [5,6,7,8]) 5 (.seq [1,6,7,8])) (by kernel_rfl) (by kernel_rfl) ?_
            intro K hK
            simp only [pick, List.filterMap_cons, List.filterMap_nil, List.getElem?_cons_zero, List.getElem?_cons_succ]
            repeat (show wpQuiet _ _ _ _ (_ :: _) _; go_big_quiet_step (fail))
            refine wpQuiet_nil (wpQuiet_nil ?_)
            generalize hwd : World.drew w3 = x0
            have HS4 : Kept (Blk x0 B #[.slice none 0 0, .int .i64 0] 45 ∧ Below B w x0) := kept (by rw [← hwd]; exact ⟨HS3.out.1, HS3.out.2.drew⟩)
            have HM4 : Kept (Many B x0 3 ([(.slice (some ⟨g, 0, none⟩) 65 65, ints .i64 (List.replicate 65 0))] ++ [(.slice (some ⟨g7, 0, none⟩) n c7, idx (ordL l0))])) := kept (by rw [← hwd]; exact HM3.out.later (Below.refl _ _).drew)
            clear hwd
            refine (show _ ∧ _ from ⟨?_, ?_⟩)
            · show wpList _ _ _ [_] _ _
              refine wpList_mk1 rfl _ _ 23 rfl 3 i0 (.int .i64 0) 8 Try.underlying23 hi hz0 hz1 hz2 rfl .i64 .i64 166600 166600 166600 rfl rfl rfl rfl (by decide) (by decide) ?_
              intro x1 hO hb hlt2
              obtain ⟨g1, hg1⟩ : ∃ g1, g1 = x0.heap.size := ⟨_, rfl⟩
              have hm1 := HM4.out.add hb hO (fun b hb => by simp [Value.ownBlock] at hb; omega) (Nat.le_of_lt HS4.out.1.lt)
              rw [← hg1] at hm1 ⊢
              have HS5 : Kept (Blk x1 B #[.slice none 0 0, .int .i64 0] 45 ∧ Below B w x1) := kept ⟨(hb.block B HS4.out.1.lt).trans HS4.out.1, HS4.out.2.trans (hb.mono (Nat.le_of_lt HS4.out.1.lt))⟩
              have HM5 := kept hm1
              clear hO hb hlt2 hg1 hm1
              change wpTr _ _ _ _ _ _
              unfold wpTr
              show wpList _ _ _ [_, _, _, _] _ _
              refine wpList_mk1 rfl _ _ 23 rfl 3 i0 (.int .i64 0) 8 Try.underlying23 hi hz0 hz1 hz2 rfl .i64 .i64 _ _ (n + 1) rfl rfl (by omega) (by omega) (by omega) (by simp [maxLen]; omega) ?_
              intro x2 hO hb hlt2
              obtain ⟨g2, hg2⟩ : ∃ g2, g2 = x1.heap.size := ⟨_, rfl⟩
              have hm2 := HM5.out.add hb hO (fun b hb => by simp [Value.ownBlock] at hb; omega) (Nat.le_of_lt HS5.out.1.lt)
              rw [← hg2] at hm2 ⊢
              have HS6 : Kept (Blk x2 B #[.slice none 0 0, .int .i64 0] 45 ∧ Below B w x2) := kept ⟨(hb.block B HS5.out.1.lt).trans HS5.out.1, HS5.out.2.trans (hb.mono (Nat.le_of_lt HS5.out.1.lt))⟩
              rw [HN.out] at hm2
              have hm3 := StB.make (g := g) (g7 := g7) (c7 := c7) (l := l0) (m := m) (xs := List.replicate 65 0) (K := List.replicate 166600 0) (S := List.replicate (n + 1) 0) HS6.out.1 HS6.out.2 (by
                have h := hm2
                have e1 : List.replicate 166600 (Value.int .i64 0) = ints .i64 (List.replicate 166600 0) := by unfold ints; rw [List.map_replicate]
                have e2 : List.replicate (n + 1) (Value.int .i64 0) = ints .i64 (List.replicate (n + 1) 0) := by unfold ints; rw [List.map_replicate]
                rw [← HN.out, e1, e2] at h
                rw [← HN.out]
                exact h)
              have HB3 := kept hm3
              clear hO hb hlt2 hg2 hm2 hm3
              go_wp2_with fail
              refine hK _ _ ?_
              go_wp2_with fail
              go_meet
              case rel => exact ⟨_, _, _, rfl, HB3.out⟩
            · show wpList _ _ _ [_] _ _
              refine wpList_mk1 rfl _ _ 23 rfl 3 i0 (.int .i64 0) 8 Try.underlying23 hi hz0 hz1 hz2 rfl .i64 .i64 _ _ (n + 1) rfl rfl (by omega) (by omega) (by omega) (by simp [maxLen]; omega) ?_
              intro x1 hO hb hlt2
              obtain ⟨g1, hg1⟩ : ∃ g1, g1 = x0.heap.size := ⟨_, rfl⟩
              have hm1 := HM4.out.add hb hO (fun b hb => by simp [Value.ownBlock] at hb; omega) (Nat.le_of_lt HS4.out.1.lt)
              rw [← hg1] at hm1 ⊢
              have HS5 : Kept (Blk x1 B #[.slice none 0 0, .int .i64 0] 45 ∧ Below B w x1) := kept ⟨(hb.block B HS4.out.1.lt).trans HS4.out.1, HS4.out.2.trans (hb.mono (Nat.le_of_lt HS4.out.1.lt))⟩
              have HM5 := kept hm1
              clear hO hb hlt2 hg1 hm1
              change wpTr _ _ _ _ _ _
              unfold wpTr
              show wpList _ _ _ [_, _, _, _] _ _
              refine wpList_mk1 rfl _ _ 23 rfl 3 i0 (.int .i64 0) 8 Try.underlying23 hi hz0 hz1 hz2 rfl .i64 .i64 _ _ 166600 rfl rfl rfl rfl (by decide) (by decide) ?_
              intro x2 hO hb hlt2
              obtain ⟨g2, hg2⟩ : ∃ g2, g2 = x1.heap.size := ⟨_, rfl⟩
              have hm2 := HM5.out.add hb hO (fun b hb => by simp [Value.ownBlock] at hb; omega) (Nat.le_of_lt HS5.out.1.lt)
              rw [← hg2] at hm2 ⊢
              have HS6 : Kept (Blk x2 B #[.slice none 0 0, .int .i64 0] 45 ∧ Below B w x2) := kept ⟨(hb.block B HS5.out.1.lt).trans HS5.out.1, HS5.out.2.trans (hb.mono (Nat.le_of_lt HS5.out.1.lt))⟩
              rw [HN.out] at hm2
              have hm3 := StB.make (g := g) (g7 := g7) (c7 := c7) (l := l0) (m := m) (xs := List.replicate 65 0) (K := List.replicate 166600 0) (S := List.replicate (n + 1) 0) HS6.out.1 HS6.out.2 (by
                have h := hm2.swap
                have e1 : List.replicate 166600 (Value.int .i64 0) = ints .i64 (List.replicate 166600 0) := by unfold ints; rw [List.map_replicate]
                have e2 : List.replicate (n + 1) (Value.int .i64 0) = ints .i64 (List.replicate (n + 1) 0) := by unfold ints; rw [List.map_replicate]
                rw [← HN.out, e1, e2] at h
                rw [← HN.out]
                exact h)
              have HB3 := kept hm3
              clear hO hb hlt2 hg2 hm2 hm3
              go_wp2_with fail
              refine hK _ _ ?_
              go_wp2_with fail
              go_meet
              case rel => exact ⟨_, _, _, rfl, HB3.out⟩
          case rest =>
            obtain ⟨p, vk, vs, rfl, hst⟩ := hcut
            obtain ⟨w4, rfl⟩ : ∃ w4, w4 = wc := ⟨wc, rfl⟩
            obtain ⟨G, hG⟩ : ∃ G, G = ofs l0 := ⟨_, rfl⟩
            have hGl : G.length = n := by rw [hG, length_ofs]; exact HN.out.symm
            have HG := kept hG
            have HGl := kept hGl
            have HS4 := kept hst
            clear hG hGl hst HS3 HM3 HA7
            go_wp2_with fail
            go_loopw [9] (fun s9 wr => ∃ i : Nat, i ≤ n ∧ s9 = .int .i64 (i : Int) ∧ ∃ vf, StB B w wr g g7 c7 l0 m p vf vk vs (List.replicate 65 0) (G.take i) (List.replicate 166600 0) (List.replicate (n + 1) 0)) (fun s9 _ => n - (intOf s9).toNat)
            case atStart => exact ⟨0, by omega, rfl, _, HS4.out⟩
            case round =>
              obtain ⟨i, hin, rfl, vf, hst⟩ := hrel
              obtain ⟨wq, rfl⟩ : ∃ wq, wq = wr := ⟨wr, rfl⟩
              by_cases hlt : i < n
              · have hio : i < (ordL l0).length := by rw [← HN.out]; exact hlt
                obtain ⟨q, hq⟩ : ∃ q, q = (ordL l0).getD i 0 := ⟨_, rfl⟩
                have hqm : q ∈ ordL l0 := by rw [hq]; simp [List.getD_eq_getElem?_getD, hio]
                have hq65 : q < 65 := by have h := (mem_ordL.1 hqm).1; rw [HL.out] at h; exact h
                have c7i := hst.ordAt i hio
                rw [← hq] at c7i
                have cp := hst.blk.cell (i := 0) rfl
                have hrd := HR.out.later (show Below w.heap.size w wq by rw [← HB.out]; exact hst.low)
                obtain ⟨x, rfl, hcq⟩ := hrd.at (Own.ints_at .i64 l0 q (by rw [HL.out]; exact hq65))
                obtain ⟨y, hy⟩ : ∃ y, y = l0.getD q 0 := ⟨_, rfl⟩
                rw [← hy] at hcq
                have hGi : G.take (i + 1) = G.take i ++ [y] := by
                  have hiG : i < G.length := by rw [HGl.out]; exact hlt
                  have h := ofs_at l0 i hio
                  rw [← HG.out, ← hq, ← hy] at h
                  rw [List.take_succ_eq_append_getElem hiG, ← h]; simp [List.getD_eq_getElem?_getD, hiG]
                have HGi := kept hGi
                have HS := kept hst
                have l1 := lat_cell c7i
                have l2 := lat_cell cp
                have l3 := lat_cell hcq
                clear hGi hst hrd hy hq hqm hio c7i cp hcq
                go_wp2_with fail
                refine wp_region_mixL [0] [1,2,3,4,5,6,7,8,9,10,11] [12,13,14,15,16] (by kernel_rfl) (by kernel_rfl) ?_
                intro K hK
                simp only [pick, List.filterMap_cons, List.filterMap_nil, List.getElem?_cons_zero, List.getElem?_cons_succ]
                repeat (show wpQuiet _ _ _ _ (_ :: _) _; go_big_quiet_step (fail))
                show wpList _ _ _ [_, _, _, _, _] _ _
                generalize hwd : World.drew wq = wd
                have HSd := kept (show StB B w wd g g7 c7 l0 m p vf vk vs (List.replicate 65 0) (G.take i) (List.replicate 166600 0) (List.replicate (n + 1) 0) by rw [← hwd]; exact HS.out.later (Below.refl _ _).drew)
                clear hwd l1 l2 l3
                have hgl : (G.take i).length ≤ 65 := by rw [List.length_take]; omega
                have hov := HSd.out.many.own 4 _ _ rfl
                go_wp2_with (first | (at_builtin; go_loud (refine wpList_app1 rfl _ _ 23 rfl 3 i0 (.int .i64 0) 8 Try.underlying23 hi hz0 hz1 hz2 rfl vf _ (.int .i64 y) rfl hov rfl rfl ?_ ?_ ?_)))
                · simp [maxLen]; omega
                · simp; omega
                intro v5 w5 O5 C5 F5
                have e5 : ints .i64 (G.take i) ++ [.int .i64 y] = ints .i64 (G.take i ++ [y]) := by simp [ints]
                rw [e5] at O5
                obtain ⟨a5, c5, hv5⟩ := sliceI O5
                rw [← HGi.out, show (G.take (i + 1)).length = i + 1 by rw [List.length_take, HGl.out]; omega] at hv5
                subst hv5
                obtain ⟨hp1, hp2, hp3⟩ := HSd.out.push O5 C5 F5
                rw [← HGi.out] at hp1
                have HS5 := kept hp1
                clear O5 C5 F5 e5 hp1 hov
                go_wp2_with fail
                refine hK _ _ ?_
                go_wp2_with fail
                go_roundw
                case rel => exact ⟨i + 1, by omega, by go_num, _, HS5.out⟩
                case measure => simp [intOf]; omega
              · have hie : i = n := by omega
                subst hie
                have hGt : G.take i = G := List.take_of_length_le (by rw [HGl.out]; exact Nat.le_refl _)
                rw [hGt] at hst
                obtain ⟨gf, cf, hvf, _, _⟩ := rowI (hst.many.own 4 _ _ rfl) (by intro e; have := HGl.out; rw [e] at this; simp at this; omega)
                obtain ⟨gs, cs, hvs, _, _⟩ := rowI (hst.many.own 3 _ _ rfl) (by intro e; have := congrArg List.length e; simp at this)
                rw [HGl.out] at hvf
                rw [List.length_replicate] at hvs
                subst hvf hvs
                have HGs : Kept (Gs G) := kept ⟨by rw [HGl.out]; omega, fun x hx => by
                  rw [HG.out] at hx
                  obtain ⟨j, hj, rfl⟩ := List.mem_map.1 hx
                  have h2 := HF.out.each (l0.getD j 0) (by have h := (mem_ordL.1 hj).1; simp [List.getD_eq_getElem?_getD, h])
                  exact h2⟩
                have HS5 : Kept (StB B w wq g g7 c7 l0 m p (.slice (some ⟨gf, 0, none⟩) i cf) vk (.slice (some ⟨gs, 0, none⟩) (i + 1) cs) (List.replicate 65 0) G (List.replicate 166600 0) (sumsN G i)) := kept (by
                  have h := sumsN_none G
                  rw [HGl.out] at h
                  rw [h]; exact hst)
                clear hst hGt hlt HS4
                go_wp2_with fail
                go_loopw [10] (fun s10 wr => ∃ j : Nat, j ≤ i ∧ s10 = .int .i64 ((j : Int) - 1) ∧ StB B w wr g g7 c7 l0 m p (.slice (some ⟨gf, 0, none⟩) i cf) vk (.slice (some ⟨gs, 0, none⟩) (i + 1) cs) (List.replicate 65 0) G (List.replicate 166600 0) (sumsN G j)) (fun s10 _ => (intOf s10 + 1).toNat)
                case atStart => exact ⟨i, Nat.le_refl _, rfl, HS5.out⟩
                case round =>
                  obtain ⟨j, hjn, rfl, hst⟩ := hrel
                  obtain ⟨wl, rfl⟩ : ∃ wl, wl = wr := ⟨wr, rfl⟩
                  by_cases hj0 : 0 < j
                  · obtain ⟨k, rfl⟩ : ∃ k, j = k + 1 := ⟨j - 1, by omega⟩
                    rw [show (((k + 1 : Nat) : Int) - 1) = (k : Int) by omega]
                    have cp0 := hst.blk.cell (i := 0) rfl
                    have cp3 := hst.blk.cell (i := 3) rfl
                    have hsl : (sumsN G (k + 1)).length = i + 1 := by rw [length_sumsN, HGl.out]
                    have cs1 := (hst.many.own 3 _ _ rfl).cell (j := k + 1) (Own.ints_at .i64 (sumsN G (k + 1)) (k + 1) (by rw [hsl]; omega))
                    rw [sumsN_at G (k + 1) (by rw [HGl.out]; omega)] at cs1
                    have cs0 := (hst.many.own 3 _ _ rfl).cell (j := k) (Own.ints_at .i64 (sumsN G (k + 1)) k (by rw [hsl]; omega))
                    have fs0 := (hst.many.own 3 _ _ rfl).free k
                    have cf0 := (hst.many.own 4 _ _ rfl).cell (j := k) (Own.ints_at .i64 G k (by rw [HGl.out]; omega))
                    have hset := sumsN_set G k (by rw [HGl.out]; omega)
                    have hb1 := HGs.out.sum (k + 1)
                    have hb2 := HGs.out.each (G.getD k 0) (by have : k < G.length := by rw [HGl.out]; omega
                                                              simp [List.getD_eq_getElem?_getD, this])
                    obtain ⟨S1, hS1⟩ : ∃ S1, S1 = (G.drop (k + 1)).sum := ⟨_, rfl⟩
                    obtain ⟨y, hy⟩ : ∃ y, y = G.getD k 0 := ⟨_, rfl⟩
                    rw [← hS1] at cs1 hset hb1
                    rw [← hy] at cf0 hset hb2
                    obtain ⟨hb1a, hb1b⟩ := hb1
                    obtain ⟨hb2a, hb2b⟩ := hb2
                    obtain ⟨z0, hz0e⟩ : ∃ z0, z0 = (sumsN G (k + 1)).getD k 0 := ⟨_, rfl⟩
                    rw [← hz0e] at cs0
                    have HSet := kept hset
                    have HSo := kept hst
                    have l0' := lat_cell cp0
                    have l1' := lat_cell cp3
                    have l2' := lat_cell cs1
                    have l3' := lat_cell cf0
                    clear hset hst hsl hS1 hy hz0e cp0 cp3 cs1 cf0 hj0
                    go_wp2_with fail
                    refine wp_region_mixL [] [0,1,2,3,4,5,6,7,8,9,10,11,12,13,14,15,16,17,18,19,20,21] [22] (by kernel_rfl) (by kernel_rfl) ?_
                    intro K hK
                    simp only [pick, List.filterMap_cons, List.filterMap_nil, List.getElem?_cons_zero, List.getElem?_cons_succ]
                    refine wpQuiet_nil ?_
                    repeat (show wpQuiet _ _ _ _ (_ :: _) _; go_big_quiet_step (fail))
                    refine wpQuiet_nil ?_
                    show wpList _ _ _ [_] _ _
                    generalize hwd : World.drew wl = wd
                    have hcd : wd.cell? ⟨gs, k, none⟩ = some (.int .i64 z0) := by rw [← hwd]; exact cs0
                    have hfd : wd.frozen? ⟨gs, k, none⟩ = false := by rw [← hwd]; exact fs0
                    have HNd : Kept (StB B w (wd.setCell ⟨gs, k, none⟩ (.int .i64 (S1 + y))) g g7 c7 l0 m p (.slice (some ⟨gf, 0, none⟩) i cf) vk (.slice (some ⟨gs, 0, none⟩) (i + 1) cs) (List.replicate 65 0) G (List.replicate 166600 0) (sumsN G k)) := kept (by
                      have h := (HSo.out.later (Below.refl _ _).drew).storeSum k (S1 + y)
                      rw [HSet.out] at h
                      rw [← hwd]; exact h)
                    clear hwd l0' l1' l2' l3' cs0 fs0
                    go_wp2_with fail
                    refine hK _ _ ?_
                    go_wp2_with fail
                    go_roundw
                    case rel => exact ⟨k, by omega, by go_num, HNd.out⟩
                    case measure => simp [intOf]
                  · have hj : j = 0 := by omega
                    subst hj
                    rw [show (((0 : Nat) : Int) - 1) = -1 from rfl]
                    rw [sumsN_all] at hst
                    have HS6 := kept hst
                    clear hst HS5 hj0 hjn
                    obtain ⟨L, hL⟩ : ∃ L, L = lensOf l0 m := ⟨_, rfl⟩
                    obtain ⟨x0, hx0⟩ := HF.out.can (by rw [← HN.out]; exact hn2)
                    rw [← HG.out] at hx0
                    have hLe : L = lens m 1 G 2 := by rw [hL, HG.out]; unfold lensOf; rw [if_neg (by rw [← HN.out]; omega)]
                    have hLl : L.length = i := by rw [hL, HF.out.spec.1]; exact HN.out.symm
                    have HLe := kept hLe
                    have HLl := kept hLl
                    have HLL := kept hL
                    have HX0 := kept hx0
                    have hm15 := HF.out.hi
                    clear hLe hLl hL hx0
                    go_wp2_with fail
                    go_loopw [11, 12, 13] (fun s11 s12 s13 wr => ∃ (d j o r : Nat) (x : Int) (K : List Int), s11 = .int .i64 (j : Int) ∧ s12 = .int .i64 (o : Int) ∧ s13 = .int .i64 (d : Int) ∧ d + r = m + 1 ∧ 1 ≤ d ∧ j ≤ i ∧ o ≤ 130 ∧ dp r (G.drop j) o = some x ∧ L.drop j = lens r d (G.drop j) o ∧ KGood m G K ∧
                        StB B w wr g g7 c7 l0 m p (.slice (some ⟨gf, 0, none⟩) i cf) vk (.slice (some ⟨gs, 0, none⟩) (i + 1) cs) (scat (List.replicate 65 0) ((ordL l0).take j) (L.take j)) G K (sums G)) (fun _ _ s13 _ => m + 1 - (intOf s13).toNat)
                    case atStart =>
                      refine ⟨1, 0, 2, m, x0, _, rfl, rfl, rfl, by omega, Nat.le_refl _, Nat.zero_le _, by decide, HX0.out, by rw [List.drop_zero, List.drop_zero]; exact HLe.out, kgood_zero m G hm15, ?_⟩
                      rw [List.take_zero, scat_nil]; exact HS6.out
                    case round =>
                      obtain ⟨d, j, o, r, x, K, rfl, rfl, rfl, hdr, hd1, hji, ho130, hdp, hLd, hK, hst⟩ := hrel
                      obtain ⟨wl, rfl⟩ : ∃ wl, wl = wr := ⟨wr, rfl⟩
                      by_cases hlt : j < i
                      · have hne : G.drop j ≠ [] := by intro e; have := congrArg List.length e; rw [List.length_drop, HGl.out] at this; simp at this; omega
                        obtain ⟨r, rfl⟩ : ∃ r', r = r' + 1 := by
                          cases r with
                          | zero => rw [dp_out hne (by omega)] at hdp; cases hdp
                          | succ r => exact ⟨r, rfl⟩
                        obtain ⟨ho1, hol, y, hy, hxy⟩ := dp_some hdp hne
                        rw [List.length_drop, HGl.out] at hol
                        obtain ⟨k, hk⟩ : ∃ k, k = Dp.take r (G.drop j) o := ⟨_, rfl⟩
                        have hko : k ≤ o := by rw [hk]; exact take_le _ _ _
                        rw [lens_cons hne, ← hk] at hLd
                        rw [← hk] at hy hxy
                        have hxb := dp_le _ _ _ _ (HGs.out.drop j) hdp
                        obtain ⟨hx1, hx2⟩ := hxb
                        have hx3 : x ≤ 20000000000 := by omega
                        have hcall := cost_calls G m p _ _ _ HGs.out hm15 (r + 1) d j o K wl (hst.tab hK) (by rw [HGl.out]; omega) ho130 hd1 hdr
                        unfold CostE at hcall
                        rw [hdp] at hcall
                        simp only [enc] at hcall
                        have HC1 := kept hcall
                        have HSt := kept hst
                        have HK := kept hk
                        have HLd := kept hLd
                        have HY := kept hy
                        have HDp := kept hdp
                        have HNe := kept hne
                        clear hcall hst hk hLd hy hdp hne hxy hx2 hK HS6
                        go_upto_block 8 with (first | (go_at_call 42; refine HC1.out.mono ?_; rintro e w5 ⟨rfl, K2, hT2, hC2⟩; have HK2 := kept hT2.good; have HS2 := kept (HSt.out.costed hT2 hC2); clear hT2 hC2))
                        go_cut [15] from 136 to 167 (fun s15 wx => s15 = .int .i64 (k : Int) ∧ ∃ K', KGood m G K' ∧ StB B w wx g g7 c7 l0 m p (.slice (some ⟨gf, 0, none⟩) i cf) vk (.slice (some ⟨gs, 0, none⟩) (i + 1) cs) (scat (List.replicate 65 0) ((ordL l0).take j) (L.take j)) G K' (sums G))
                        case first =>
                          go_wp2_with fail
                          go_loopw [15] (fun s15 wr => ∃ (t : Nat) (K' : List Int), t ≤ o ∧ s15 = .int .i64 (t : Int) ∧ (∀ t', t < t' → t' ≤ o → cand r (G.drop j) o t' ≠ some x) ∧ KGood m G K' ∧
                            StB B w wr g g7 c7 l0 m p (.slice (some ⟨gf, 0, none⟩) i cf) vk (.slice (some ⟨gs, 0, none⟩) (i + 1) cs) (scat (List.replicate 65 0) ((ordL l0).take j) (L.take j)) G K' (sums G)) (fun s15 _ => (intOf s15).toNat)
                          case atStart => exact ⟨o, _, Nat.le_refl _, rfl, fun t' h1 h2 => by omega, HK2.out, HS2.out⟩
                          case round =>
                            obtain ⟨t, K3, hto, rfl, hbig, hK3, hst3⟩ := hrel
                            obtain ⟨wk, rfl⟩ : ∃ wk, wk = wr := ⟨wr, rfl⟩
                            by_cases ht0 : 0 < t
                            · have hcall := cost_calls G m p _ _ _ HGs.out hm15 r (d + 1) (j + t) (2 * (o - t)) K3 wk (hst3.tab hK3) (by rw [HGl.out]; omega) (by omega) (by omega) (by omega)
                              rw [show ((d + 1 : Nat) : Int) = (d : Int) + 1 by omega, show ((j + t : Nat) : Int) = (j : Int) + (t : Int) by omega, show ((2 * (o - t) : Nat) : Int) = 2 * ((o : Int) - (t : Int)) by omega] at hcall
                              unfold CostE at hcall
                              have hcand : cand r (G.drop j) o t = (dp r (G.drop (j + t)) (2 * (o - t))).map (· + (G.drop (j + t)).sum) := by unfold cand; rw [List.drop_drop]
                              have hSb := HGs.out.sum (j + t)
                              have hsAt := sums_at G (j + t) (by rw [HGl.out]; omega)
                              have hsl := length_sums G
                              obtain ⟨S, hS⟩ : ∃ S, S = (G.drop (j + t)).sum := ⟨_, rfl⟩
                              rw [← hS] at hcand hSb hsAt
                              obtain ⟨hSb1, hSb2⟩ := hSb
                              have HSt3 := kept hst3
                              have HBig := kept hbig
                              have HSAt := kept hsAt
                              have HSl := kept hsl
                              clear hst3 hbig hS hsAt hsl
                              cases hdt : dp r (G.drop (j + t)) (2 * (o - t)) with
                              | none =>
                                rw [hdt] at hcall hcand
                                simp only [enc] at hcall
                                have HC3 := kept hcall
                                have HCa := kept hcand
                                clear hcall hcand hdt
                                go_wp2_with (first | (go_at_call 42; refine HC3.out.mono ?_; rintro e w6 ⟨rfl, K4, hT4, hC4⟩; have HK4 := kept hT4.good; have HS4 := kept (HSt3.out.costed hT4 hC4); clear hT4 hC4))
                                go_roundw
                                case rel =>
                                  refine ⟨t - 1, K4, by omega, by go_num, fun t' h1 h2 => ?_, HK4.out, HS4.out⟩
                                  by_cases e : t' = t
                                  · rw [e, HCa.out]; simp
                                  · exact HBig.out t' (by omega) h2
                                case measure => simp [intOf]; omega
                              | some z =>
                                rw [hdt] at hcall hcand
                                simp only [enc, Option.map_some] at hcall hcand
                                have hzb := dp_le _ _ _ _ (HGs.out.drop (j + t)) hdt
                                obtain ⟨hz1', hz2'⟩ := hzb
                                have hz3' : z ≤ 20000000000 := by omega
                                have tz : decide (0 ≤ z) = true := decide_eq_true hz1'
                                have HC3 := kept hcall
                                have HCa := kept hcand
                                clear hcall hcand hdt hz2'
                                by_cases heq : z + S = x
                                · have teq : (z + S == x) = true := by rw [beq_iff_eq]; exact heq
                                  have HTk : Kept (k = t) := kept (by rw [HK.out]; exact take_is HDp.out HNe.out hto HBig.out (.inr (by rw [HCa.out, heq])))
                                  have HEq := kept heq
                                  clear heq
                                  go_wp2_with (first | (go_at_call 42; refine HC3.out.mono ?_; rintro e w6 ⟨rfl, K4, hT4, hC4⟩; have HK4 := kept hT4.good; have HS4 := kept (HSt3.out.costed hT4 hC4); have d3 := hT4.blk.cell (i := 3) rfl; have dsum := (by have := (hT4.rs.cell (j := j + t) (Own.ints_at .i64 (sums G) (j + t) (by rw [HSl.out, HGl.out]; omega))); rw [HSAt.out] at this; exact this : w6.cell? ⟨gs, j + t, none⟩ = some (.int .i64 S)); clear hT4 hC4))
                                  go_meet
                                  case rel => exact ⟨by rw [HTk.out], K4, HK4.out, HS4.out⟩
                                · have teq : (z + S == x) = false := by rw [beq_eq_false_iff_ne]; exact heq
                                  have HEq := kept heq
                                  clear heq
                                  go_wp2_with (first | (go_at_call 42; refine HC3.out.mono ?_; rintro e w6 ⟨rfl, K4, hT4, hC4⟩; have HK4 := kept hT4.good; have HS4 := kept (HSt3.out.costed hT4 hC4); have d3 := hT4.blk.cell (i := 3) rfl; have dsum := (by have := (hT4.rs.cell (j := j + t) (Own.ints_at .i64 (sums G) (j + t) (by rw [HSl.out, HGl.out]; omega))); rw [HSAt.out] at this; exact this : w6.cell? ⟨gs, j + t, none⟩ = some (.int .i64 S)); clear hT4 hC4))
                                  go_roundw
                                  case rel =>
                                    refine ⟨t - 1, K4, by omega, by go_num, fun t' h1 h2 => ?_, HK4.out, HS4.out⟩
                                    by_cases e : t' = t
                                    · rw [e, HCa.out]; intro h; exact HEq.out (Option.some.inj h)
                                    · exact HBig.out t' (by omega) h2
                                  case measure => simp [intOf]; omega
                            · have ht : t = 0 := by omega
                              subst ht
                              have HTk : Kept (k = 0) := kept (by rw [HK.out]; exact take_is HDp.out HNe.out (Nat.zero_le _) hbig (.inl rfl))
                              have HS7 := kept hst3
                              have HK7 := kept hK3
                              clear hst3 hK3 hbig ht0
                              go_wp2_with fail
                              go_meet
                              case rel => exact ⟨by rw [HTk.out], K3, HK7.out, HS7.out⟩
                        case rest =>
                          obtain ⟨rfl, K5, hK5, hst5⟩ := hcut
                          obtain ⟨w8, rfl⟩ : ∃ w8, w8 = wc := ⟨wc, rfl⟩
                          have HK5 := kept hK5
                          have HS5' := kept hst5
                          have hkj : j + k ≤ i := by omega
                          have HLat : Kept (∀ q, q < k → L.getD (j + q) 0 = d) := kept (fun q hq => by
                            have e : L.getD (j + q) 0 = (L.drop j).getD q 0 := by simp [List.getD_eq_getElem?_getD]
                            rw [e, HLd.out]
                            have hq2 : q < (List.replicate k d).length := by rw [List.length_replicate]; exact hq
                            rw [List.getD_eq_getElem?_getD, List.getElem?_append_left hq2]
                            simp [hq])
                          have HLdr : Kept (L.drop (j + k) = lens r (d + 1) (G.drop (j + k)) (2 * (o - k))) := kept (by
                            have e : L.drop (j + k) = (L.drop j).drop k := by rw [List.drop_drop]
                            rw [e, HLd.out, List.drop_drop, List.drop_left' (by rw [List.length_replicate])])
                          have HY2 : Kept (dp r (G.drop (j + k)) (2 * (o - k)) = some y) := kept (by rw [← HY.out, List.drop_drop])
                          clear hK5 hst5 HSt HK2 HS2 HC1
                          go_wp2_with fail
                          go_loopw [17] (fun s17 wr => ∃ q : Nat, q ≤ k ∧ s17 = .int .i64 (q : Int) ∧ StB B w wr g g7 c7 l0 m p (.slice (some ⟨gf, 0, none⟩) i cf) vk (.slice (some ⟨gs, 0, none⟩) (i + 1) cs) (scat (List.replicate 65 0) ((ordL l0).take (j + q)) (L.take (j + q))) G K5 (sums G)) (fun s17 _ => k - (intOf s17).toNat)
                          case atStart => exact ⟨0, Nat.zero_le _, rfl, HS5'.out⟩
                          case round =>
                            obtain ⟨q, hqk, rfl, hst6⟩ := hrel
                            obtain ⟨wm, rfl⟩ : ∃ wm, wm = wr := ⟨wr, rfl⟩
                            by_cases hq : q < k
                            · have hjq : j + q < (ordL l0).length := by rw [← HN.out]; omega
                              obtain ⟨c, hc⟩ : ∃ c, c = (ordL l0).getD (j + q) 0 := ⟨_, rfl⟩
                              have hcm : c ∈ ordL l0 := by rw [hc]; simp [List.getD_eq_getElem?_getD, hjq]
                              have hc65 : c < 65 := by have h := (mem_ordL.1 hcm).1; rw [HL.out] at h; exact h
                              have c7i := hst6.ordAt (j + q) hjq
                              rw [← hc] at c7i
                              have hsc := scat_take (List.replicate 65 0) (ordL l0) L (j + q) hjq (by rw [HLl.out]; omega)
                              rw [← hc, HLat.out q hq] at hsc
                              obtain ⟨xs, hxs⟩ : ∃ xs, xs = scat (List.replicate 65 0) ((ordL l0).take (j + q)) (L.take (j + q)) := ⟨_, rfl⟩
                              have hxl : xs.length = 65 := by rw [hxs, length_scat]; simp
                              rw [← hxs] at hsc hst6
                              have co := hst6.out.cell (j := c) (Own.ints_at .i64 xs c (by rw [hxl]; exact hc65))
                              have fo := hst6.out.free c
                              have hst7 := hst6.storeOut c (d : Int)
                              rw [← hsc] at hst7
                              obtain ⟨z0, hz0e⟩ : ∃ z0, z0 = xs.getD c 0 := ⟨_, rfl⟩
                              rw [← hz0e] at co
                              have HS7 := kept hst7
                              clear hst6 hst7 hsc hxs hxl hz0e hc hcm hjq
                              go_wp2_with fail
                              go_roundw
                              case rel => exact ⟨q + 1, by omega, by go_num, HS7.out⟩
                              case measure => simp [intOf]; omega
                            · have hqe : q = k := by omega
                              subst hqe
                              have HS7 := kept hst6
                              clear hst6 hq
                              go_wp2_with fail
                              go_roundw
                              case rel =>
                                exact ⟨d + 1, j + q, 2 * (o - q), r, y, K5, by go_num, by go_num, by go_num, by omega, by omega, hkj, by omega, HY2.out, HLdr.out, HK5.out, HS7.out⟩
                              case measure => simp [intOf]; omega
                      · have hje : j = i := by omega
                        subst hje
                        rw [List.take_of_length_le (by rw [← HN.out]; exact Nat.le_refl _), List.take_of_length_le (by rw [HLl.out]; exact Nat.le_refl _), HLL.out] at hst
                        have HLn : Kept (scat (List.replicate 65 0) (ordL l0) (lensOf l0 m) = lenL l0 m) := kept rfl
                        rw [HLn.out] at hst
                        have HE := kept (rlen_end hst.res hst.low hst.many.rest)
                        have d0 := hst.res.cell (i := 0) rfl
                        have d1 := hst.res.cell (i := 1) rfl
                        have f0 := hst.res.free 0
                        have f1 := hst.res.free 1
                        clear hst hdp hLd hK HS6
                        go_wp2_with fail
                        exact bodyPost_ret (results_cell_row rfl _ _ B 45 #[.slice (some ⟨g, 0, none⟩) 65 65, .int .i64 0] (0, 0) _ rfl HE.out.1 Try.underlying45 rfl (by kernel_rfl)) rfl ⟨_, rfl, HE.out.2⟩
end Go.Proofs.Ytnakjencodicmaa

-- ---- PAx21
/- huff.Get: what the call answers. Conditions: the text is not longer than a thousand million bytes. -/
namespace Go.Proofs.Ytnakjencodicmaa.PA
set_option maxRecDepth 100000
open Go.RowKit Go.Proofs.YtnakjencodicmaaW.PrintWords Go.Proofs.YtnakjencodicmaaW.PrintLast Go.Proofs.YtnakjencodicmaaW.PrintMore
set_option linter.unusedVariables false
set_option linter.unusedSimpArgs false

def partS (p : Nat × Nat) : S54 := ⟨(p.1 : Int), (p.2 : Int)⟩
def getPE (s : ByteArray) (n : Int) (l : List Int) : List (S54) × Int := ((getE l s n).1.map partS, (getE l s n).2)
def huff_Get.f (a0 : ByteArray) (a1 : Int) (l2 : List Int) : Option ((List (S54)) × Int) := if a0.size ≤ 1000000000 then some (getPE a0 a1 l2) else none
theorem huff_Get.calls (a0 : ByteArray) (a1 : Int) (A2 : Option Addr) (c2 : Nat) (l2 : List Int) (r1 : List (S54)) (r2 : Int) (w : World) (hr2 : Kd.C (Kd.int .i64) w A2 l2.length l2) (hc2 : l2.length ≤ c2) (h : huff_Get.f a0 a1 l2 = some (r1, r2)) :
    Calls Try.prog 12 #[.string a0, .int .i64 a1, .slice A2 l2.length c2] w fun e w' => ∃ v0_ : Value, e = .returned (.tuple #[v0_, .int .i64 r2]) ∧ Kd.R k54 54 w' w.heap.size (fun _ => True) v0_ r1 ∧ Below w.heap.size w w' := by
  unfold huff_Get.f at h
  split at h
  · rename_i hs
    have h := Option.some.inj h
    unfold getPE at h
    obtain ⟨rfl, rfl⟩ := Prod.mk.inj h
    have key : Calls Try.prog 12 #[.string a0, .int .i64 a1, .slice A2 l2.length c2] w (GetPost l2 a0 a1 w) := by
      cases hm : Dp.mayL l2 with
      | false => exact hget_form A2 c2 l2 a0 a1 w hr2 hc2 hm
      | true =>
        by_cases hn : a1 < 0 ∨ 4096 < a1
        · exact hget_arg A2 c2 l2 a0 a1 w hr2 hc2 hm hn
        · obtain ⟨N, rfl⟩ := Int.eq_ofNat_of_zero_le (show 0 ≤ a1 by omega)
          by_cases hsm : Dp.sm l2 < 2
          · exact hget_only A2 c2 l2 a0 N w hr2 hc2 hm (by omega) (by omega) hsm
          · exact hget_code A2 c2 l2 a0 N w hr2 hc2 hm (by omega) (by omega) hsm
    refine key.mono ?_
    rintro e w' ⟨v, rfl, ho, hnew, hb⟩
    refine ⟨v, rfl, ?_, hb⟩
    refine Own.R_of_flat k54 (fun x => [.int .i64 x.f0, .int .u64 x.f1]) (fun ok x => k54_mkM w' w.heap.size ok x) (fun _ => rfl) ?_ hnew
    rw [List.length_map]
    have e : ((getE l2 a0 a1).1.map partS).flatMap (fun x => [Value.int .i64 x.f0, .int .u64 x.f1]) = flN (getE l2 a0 a1).1 := by
      generalize (getE l2 a0 a1).1 = ps
      unfold flN
      induction ps with
      | nil => rfl
      | cons a t ih => simp only [List.map_cons, List.flatMap_cons, ih]; rfl
    rw [e]; exact ho
  · cases h
end Go.Proofs.Ytnakjencodicmaa.PA

-- ---- PAx30
/- wringerref7.PutHuff: what the call answers. Conditions: the parts are of Go's own sizes, no more than a million. -/
namespace Go.Proofs.Ytnakjencodicmaa.PA
set_option maxRecDepth 100000
open Go.RowKit Go.Proofs.YtnakjencodicmaaW.PrintWords Go.Proofs.YtnakjencodicmaaW.PrintLast Go.Proofs.YtnakjencodicmaaW.PrintMore
set_option linter.unusedVariables false
set_option linter.unusedSimpArgs false

def wringerref7_PutHuff.f (l0 : List (S54)) (l1 : List Int) : Option (ByteArray × Int) := if l0.length ≤ 1000000 ∧ l0.all wfB = true then some (putE l1 (l0.map pairP)) else none
theorem wringerref7_PutHuff.calls (A0 : Option Addr) (c0 : Nat) (l0 : List (S54)) (A1 : Option Addr) (c1 : Nat) (l1 : List Int) (r1 : ByteArray) (r2 : Int) (w : World) (hr0 : Kd.C k54 w A0 l0.length l0) (hc0 : l0.length ≤ c0) (hr1 : Kd.C (Kd.int .i64) w A1 l1.length l1) (hc1 : l1.length ≤ c1) (h : wringerref7_PutHuff.f l0 l1 = some (r1, r2)) :
    Calls Try.prog 11 #[.slice A0 l0.length c0, .slice A1 l1.length c1] w fun e w' => e = .returned (.agg #[.string r1, .int .i64 r2]) ∧ Below w.heap.size w w' := by
  unfold wringerref7_PutHuff.f at h
  split at h
  · rename_i hg
    have h := Option.some.inj h
    have e1 : r1 = (putE l1 (l0.map pairP)).1 := by rw [h]
    have e2 : r2 = (putE l1 (l0.map pairP)).2 := by rw [h]
    rw [e1, e2]
    cases hm : Dp.mayL l1 with
    | false => exact rhput_form A0 l0.length c0 A1 c1 l1 _ w hr1 hc1 hm
    | true => exact rhput_calls A0 l0.length c0 A1 c1 l1 _ w (rdq_of hr0 hg.2) hr1 hc1 hm hg.1
  · cases h
end Go.Proofs.Ytnakjencodicmaa.PA

-- ---- Le
/- The answer of both lengths. No program in sight. -/
namespace Go.Proofs.Ytnakjencodicmaa.PA
set_option maxRecDepth 100000
/-- The answer. -/
def lenE (l : List Int) (a : Int) : List Int × Int := if fqB l a = true then (Dp.lenL l a.toNat, 0) else ([], 1)
end Go.Proofs.Ytnakjencodicmaa.PA

-- ---- PAx47
/- The document's lengths: what the call answers, for every list and limit. Conditions: the list's length fits a slice. -/
namespace Go.Proofs.Ytnakjencodicmaa.PA
open Go.RowKit Go.Proofs.YtnakjencodicmaaW.PrintWords Go.Proofs.YtnakjencodicmaaW.PrintLast Go.Proofs.YtnakjencodicmaaW.PrintMore
set_option linter.unusedVariables false
set_option linter.unusedSimpArgs false

def wringerref7_Lengths.f (l0 : List Int) (a1 : Int) : Option (List Int × Int) := if l0.length < 200000000000000 then some (lenE l0 a1) else none
theorem wringerref7_Lengths.calls (A0 : Option Addr) (c0 : Nat) (l0 : List Int) (a1 : Int) (r1 : List Int) (r2 : Int) (w : World) (hr0 : Kd.C (Kd.int .i64) w A0 l0.length l0) (hc0 : l0.length ≤ c0) (h : wringerref7_Lengths.f l0 a1 = some (r1, r2)) :
    Calls Try.prog 18 #[.slice A0 l0.length c0, .int .i64 a1] w fun e w' => ∃ v0_ : Value, e = .returned (.agg #[v0_, .int .i64 r2]) ∧ Kd.R (Kd.int .i64) 3 w' w.heap.size (fun _ => True) v0_ r1 ∧ Below w.heap.size w w' := by
  unfold wringerref7_Lengths.f at h
  split at h
  · rename_i hn
    have h := Option.some.inj h
    unfold lenE at h
    have hR := Own.rd_of_C hr0
    split at h
    · rename_i hg
      obtain ⟨rfl, rfl⟩ := Prod.mk.inj h
      obtain ⟨m, rfl, hf⟩ := (fqB_iff l0 a1).1 hg
      have h65 := hf.len
      rw [h65] at hR ⊢
      refine (rlen_ok A0 c0 l0 m w hR hf).mono ?_
      rintro e w' ⟨v, rfl, ho, hnew, hb⟩
      exact ⟨v, rfl, Own.R_of_owns (by rw [Int.toNat_natCast]; exact ho) hnew, hb⟩
    · rename_i hg
      obtain ⟨rfl, rfl⟩ := Prod.mk.inj h
      refine (rlen_bad A0 l0.length c0 l0 a1 w hR hn hg).mono ?_
      rintro e w' ⟨rfl, hb⟩
      exact ⟨_, rfl, Kd.R_nil _ _ _ _ _, hb⟩
  · cases h
end Go.Proofs.Ytnakjencodicmaa.PA

-- ---- Jq
/- The bytes of parts by the lengths of their classes: the facts that the laws of layer 11 stand on. No program in sight. Conditions: numbers of 64 bits, no more than 60 of them. -/
namespace Go.Proofs.Ytnakjencodicmaa.PA
set_option maxRecDepth 100000
set_option linter.unusedVariables false
set_option linter.unusedSimpArgs false
open Go.RowKit Go.Proofs.YtnakjencodicmaaW.PrintWords Go.Proofs.YtnakjencodicmaaW.PrintLast Go.Proofs.YtnakjencodicmaaW.PrintMore
open Zig Bits Dp Hu

theorem byteS_appL (a b : ByteArray) (i : Nat) (h : i < a.size) : byteS (a ++ b) i = byteS a i := by
  unfold byteS
  rw [ByteArray.data_append, Array.toList_append, List.getD_eq_getElem?_getD, List.getElem?_append_left (by exact h), ← List.getD_eq_getElem?_getD]
theorem byteS_appR (a b : ByteArray) (i : Nat) (h : a.size ≤ i) : byteS (a ++ b) i = byteS b (i - a.size) := by
  unfold byteS
  rw [ByteArray.data_append, Array.toList_append, List.getD_eq_getElem?_getD, List.getElem?_append_right (by exact h), ← List.getD_eq_getElem?_getD]
  rfl
theorem bitsS_append (a b : ByteArray) : bitsS (a ++ b) = bitsS a ++ bitsS b := by
  have hs : (a ++ b).size = a.size + b.size := ByteArray.size_append
  refine ext_getD (by rw [List.length_append, length_bitsS, length_bitsS, length_bitsS, hs]; omega) fun i => ?_
  rw [getD_bitsS, hs]
  by_cases h : i < 8 * a.size
  · rw [show (bitsS a ++ bitsS b).getD i false = (bitsS a).getD i false by
      rw [List.getD_eq_getElem?_getD, List.getElem?_append_left (by rw [length_bitsS]; exact h), ← List.getD_eq_getElem?_getD], getD_bitsS]
    unfold bitS
    rw [byteS_appL a b _ (by omega), decide_eq_true (show i < 8 * (a.size + b.size) by omega), decide_eq_true h]
  · rw [show (bitsS a ++ bitsS b).getD i false = (bitsS b).getD (i - 8 * a.size) false by
      rw [List.getD_eq_getElem?_getD, List.getElem?_append_right (by rw [length_bitsS]; omega), length_bitsS, ← List.getD_eq_getElem?_getD], getD_bitsS]
    unfold bitS
    rw [byteS_appR a b _ (by omega), show i / 8 - a.size = (i - 8 * a.size) / 8 by omega, show i % 8 = (i - 8 * a.size) % 8 by omega]
    congr 1
    apply decide_eq_decide.2; omega
/-- The parts of numbers, as the plain functions hold them. -/
def nP (l : List Int) : List (Nat × Nat) := l.map fun v => (bl (zmap v), rstU (zmap v))
theorem nP_is (l : List Int) : (((l.map partP).map pairP).map natP) = nP l := by
  unfold nP
  rw [List.map_map, List.map_map]
  refine List.map_congr_left fun v _ => ?_
  simp [natP, pairP, partP]
theorem length_nP (l : List Int) : (nP l).length = l.length := by simp [nP]

structure Made (ns : List Int) (f : List Int) (m : Nat) : Prop where
  len : ns.length ≤ 200
  wf : ∀ x ∈ ns, Wf x
  fq : Fq f m
  has : ∀ v ∈ ns, 0 < f.getD (bl (zmap v)) 0

theorem ofL_has (ns : List Int) (hw : ∀ x ∈ ns, Wf x) (v : Int) (hv : v ∈ ns) : 0 < (ofL (ns.map partP)).getD (bl (zmap v)) 0 := by
  have hx := hw v hv
  have h64 := bl_le (zmap v) (by have := zmap_lt v hx.1 hx.2; omega)
  rw [ofL_at _ _ (by omega)]
  have : 0 < cnt (ns.map partP) (bl (zmap v)) := by
    unfold cnt
    refine List.length_pos_of_mem (a := partP v) (List.mem_filter.2 ⟨List.mem_map.2 ⟨v, hv, rfl⟩, ?_⟩)
    simp [partP]
  omega
namespace Made
variable {ns f : List Int} {m : Nat}
theorem lens (h : Made ns f m) : wringerref7_Lengths.f f (m : Int) = some (lenL f m, 0) := by
  unfold wringerref7_Lengths.f lenE
  rw [if_pos (by have := h.fq.len; omega), if_pos ((fqB_iff f m).2 ⟨m, rfl, h.fq⟩), Int.toNat_natCast]
theorem may (h : Made ns f m) : mayL (lenL f m) = true := h.fq.may
theorem ok (h : Made ns f m) : ((ns.map partP).map pairP).all (okP (lenL f m)) = true := by
  rw [List.map_map, List.all_eq_true]
  intro p hp
  obtain ⟨v, hv, rfl⟩ := List.mem_map.1 hp
  have hx := h.wf v hv
  have h1 := mayP_part v hx
  have h2 := (h.fq.pos (bl (zmap v))).1.2 (h.has v hv)
  show okP (lenL f m) (((bl (zmap v) : Nat) : Int), ((rstU (zmap v) : Nat) : Int).toNat) = true
  unfold okP
  rw [Bool.and_eq_true]
  refine ⟨h1, ?_⟩
  rw [decide_eq_true_eq]
  simp only [Int.toNat_natCast]
  omega
theorem able (h : Made ns f m) : ∀ p ∈ nP ns, Able (lenL f m) p := by
  intro p hp
  rw [← nP_is] at hp
  obtain ⟨q, hq, rfl⟩ := List.mem_map.1 hp
  exact (okP_able h.may (List.all_eq_true.1 h.ok q hq)).2.2
/-- The bits. -/
theorem put (h : Made ns f m) : wringerref7_PutHuff.f (ns.map partP) (lenL f m) = some (textOf (pack (enc (lenL f m) (nP ns))), 0) := by
  unfold wringerref7_PutHuff.f
  rw [if_pos]
  · unfold putE
    rw [if_pos h.may, if_pos h.ok, nP_is]
  · refine ⟨by rw [List.length_map]; have := h.len; omega, ?_⟩
    rw [List.all_eq_true]
    intro p hp
    obtain ⟨v, hv, rfl⟩ := List.mem_map.1 hp
    have := partP_wf v (h.wf v hv)
    unfold WfP Wf at this
    unfold wfB
    rw [decide_eq_true_eq]
    omega
end Made
theorem restL_long (bs : List Bool) (h : 8 ≤ bs.length) : _root_.Go.Proofs.Ytnakjencodicmaa.restL bs = false := by
  unfold _root_.Go.Proofs.Ytnakjencodicmaa.restL
  rw [decide_eq_false (by omega)]; rfl
theorem size_text (B : List Bool) : (textOf (pack B)).size = (B.length + 7) / 8 := by
  have h := congrArg List.length (bitsS_textOf B)
  rw [length_bitsS, List.length_append, List.length_replicate] at h
  omega
end Go.Proofs.Ytnakjencodicmaa.PA

-- ---- PAx15
/- huff.Put: what the call answers. Conditions: the parts are of Go's own sizes, no more than a million. -/
namespace Go.Proofs.Ytnakjencodicmaa.PA
set_option maxRecDepth 100000
open Go.RowKit Go.Proofs.YtnakjencodicmaaW.PrintWords Go.Proofs.YtnakjencodicmaaW.PrintLast Go.Proofs.YtnakjencodicmaaW.PrintMore
set_option linter.unusedVariables false
set_option linter.unusedSimpArgs false

def huff_Put.f (k : Nat) (l0 : List (S54)) (l1 : List Int) : Option (ByteArray × Int) := if l0.length ≤ 1000000 ∧ l0.all wfB = true then some (putE l1 (l0.map pairP)) else none
theorem huff_Put.mono : ∀ a0 a1 k, LeO (huff_Put.f k a0 a1) (huff_Put.f (k + 1) a0 a1) := fun _ _ _ => LeO.refl _
theorem huff_Put.calls (k : Nat) (A0 : Option Addr) (c0 : Nat) (l0 : List (S54)) (A1 : Option Addr) (c1 : Nat) (l1 : List Int) (r1 : ByteArray) (r2 : Int) (w : World) (hr0 : Kd.C k54 w A0 l0.length l0) (hc0 : l0.length ≤ c0) (hr1 : Kd.C (Kd.int .i64) w A1 l1.length l1) (hc1 : l1.length ≤ c1) (h : huff_Put.f k l0 l1 = some (r1, r2)) :
    Calls Try.prog 10 #[.slice A0 l0.length c0, .slice A1 l1.length c1] w fun e w' => e = .returned (.tuple #[.string r1, .int .i64 r2]) ∧ Below w.heap.size w w' := by
  unfold huff_Put.f at h
  split at h
  · rename_i hg
    have h := Option.some.inj h
    have e1 : r1 = (putE l1 (l0.map pairP)).1 := by rw [h]
    have e2 : r2 = (putE l1 (l0.map pairP)).2 := by rw [h]
    rw [e1, e2]
    cases hm : Dp.mayL l1 with
    | false => exact hput_form A0 l0.length c0 A1 c1 l1 _ w hr1 hc1 hm
    | true => exact hput_calls A0 l0.length c0 A1 c1 l1 _ w (rdq_of hr0 hg.2) hr1 hc1 hm hg.1
  · cases h
end Go.Proofs.Ytnakjencodicmaa.PA

-- ---- PAx22

namespace Go.Proofs.Ytnakjencodicmaa.PA
open Go.RowKit Go.Proofs.YtnakjencodicmaaW.PrintWords Go.Proofs.YtnakjencodicmaaW.PrintLast Go.Proofs.YtnakjencodicmaaW.PrintMore
attribute [local go_sem] max2_int min2_int max_two min_two max_three min_three max_four min_four   -- for this text's walks alone
set_option linter.unusedVariables false
set_option linter.unusedSimpArgs false

/-! ### wringerlaw1_Err: function 14 -/
def wringerlaw1_Err.f (a0 : Int) : Option (Int) := some a0
set_option maxHeartbeats 8000000 in
set_option maxRecDepth 100000 in
theorem wringerlaw1_Err.calls (a0 : Int) (r : Int) (w : World) (h : wringerlaw1_Err.f a0 = some r) :
    Calls Try.prog 14 #[.int .i64 a0] w fun e w' => e = .returned (.int .i64 r) ∧ Drawn0 w w' := by
  have H : (some a0) = some r := h
  clear h
  obtain rfl := Option.some.inj H
  go_enter Try.func14, Try.ntmps14
  go_wp2
  go_ret
  exact ⟨by first | rfl | (simp; done) | (simp [*]; done), by repeat (first | exact Drawn0.refl _ | apply Drawn0.step)⟩

end Go.Proofs.Ytnakjencodicmaa.PA

-- ---- PAx23

namespace Go.Proofs.Ytnakjencodicmaa.PA
open Go.RowKit Go.Proofs.YtnakjencodicmaaW.PrintWords Go.Proofs.YtnakjencodicmaaW.PrintLast Go.Proofs.YtnakjencodicmaaW.PrintMore
attribute [local go_sem] max2_int min2_int max_two min_two max_three min_three max_four min_four   -- for this text's walks alone
set_option linter.unusedVariables false
set_option linter.unusedSimpArgs false

/-! ### wringerlaw11_awake: function 9 -/
def wringerlaw11_awake.f (k : Nat)  : Option (Bool) := if 65 ≤ 35184372088832 then ((some (List.replicate 65 0 : List Int)).bind fun y128 => (if 0 < (y128.length : Int) then ((some (y128.set (0 : Int).toNat 1 : List Int)).bind fun y131 => ((huff_Put.f k ([] : List (S54)) y131).bind fun bt132 => ((huff_Put.f k (([(⟨0, 0⟩ : S54), (⟨0, 0⟩ : S54)] : List (S54))) y131).bind fun bt137 => ((huff_Get.f bt137.1 2 y131).bind fun bt139 => (if bt132.1.toList = ([] : List UInt8) then ((wringerlaw1_Err.f bt132.2).bind fun t143 => ((wringerlaw1_Err.f bt137.2).bind fun t144 => ((wringerlaw1_Err.f bt139.2).bind fun t145 => (if (wrap64 ((wrap64 (t143 + t144)) + t145)) = 0 then (if (bt137.1.size : Int) = 1 then (some ((bt139.1.length : Int) == 2)) else (some false)) else (some false))))) else (some false)))))) else (none))) else (none)
theorem wringerlaw11_awake.mono : ∀ k, LeO (wringerlaw11_awake.f k ) (wringerlaw11_awake.f (k + 1) ) := by
  intro  k
  unfold wringerlaw11_awake.f
  repeat' first
      | (with_reducible exact huff_Put.mono _ _ _)
      | (with_reducible exact LeO.refl _)
      | (with_reducible exact LeO.none _)
      | (with_reducible refine LeO.ite ?_ ?_)
      | (with_reducible refine LeO.bind ?_ (fun _ => ?_))
      | exact huff_Put.mono _ _ _
      | exact LeO.none _
      | refine LeO.ite ?_ ?_
      | refine LeO.bind ?_ (fun _ => ?_)
set_option maxHeartbeats 8000000 in
set_option maxRecDepth 100000 in
theorem wringerlaw11_awake.calls (k : Nat)  (r : Bool) (w : World) (h : wringerlaw11_awake.f k  = some r) :
    Calls Try.prog 9 #[] w fun e w' => e = .returned (.bool r) ∧ Below w.heap.size w w' := by
  have hu54 := Try.underlying54
  have HB := Aside0.mk (Below.refl w.heap.size w)
  have H : (if 65 ≤ 35184372088832 then ((some (List.replicate 65 0 : List Int)).bind fun y128 => (if 0 < (y128.length : Int) then ((some (y128.set (0 : Int).toNat 1 : List Int)).bind fun y131 => ((huff_Put.f k ([] : List (S54)) y131).bind fun bt132 => ((huff_Put.f k (([(⟨0, 0⟩ : S54), (⟨0, 0⟩ : S54)] : List (S54))) y131).bind fun bt137 => ((huff_Get.f bt137.1 2 y131).bind fun bt139 => (if bt132.1.toList = ([] : List UInt8) then ((wringerlaw1_Err.f bt132.2).bind fun t143 => ((wringerlaw1_Err.f bt137.2).bind fun t144 => ((wringerlaw1_Err.f bt139.2).bind fun t145 => (if (wrap64 ((wrap64 (t143 + t144)) + t145)) = 0 then (if (bt137.1.size : Int) = 1 then (some ((bt139.1.length : Int) == 2)) else (some false)) else (some false))))) else (some false)))))) else (none))) else (none)) = some r := h
  clear h
  by_cases c1 : 65 ≤ 35184372088832
  · rw [if_pos c1] at H
    have c1b0 := eq_true c1
    have c1b1 : decide (65 ≤ 35184372088832) = true := decide_eq_true c1
    clear c1
    obtain ⟨y128, hy128⟩ : ∃ y_ : List Int, y_ = (List.replicate 65 0) := ⟨_, rfl⟩
    replace H : (if 0 < (y128.length : Int) then ((some (y128.set (0 : Int).toNat 1 : List Int)).bind fun y131 => ((huff_Put.f k ([] : List (S54)) y131).bind fun bt132 => ((huff_Put.f k (([(⟨0, 0⟩ : S54), (⟨0, 0⟩ : S54)] : List (S54))) y131).bind fun bt137 => ((huff_Get.f bt137.1 2 y131).bind fun bt139 => (if bt132.1.toList = ([] : List UInt8) then ((wringerlaw1_Err.f bt132.2).bind fun t143 => ((wringerlaw1_Err.f bt137.2).bind fun t144 => ((wringerlaw1_Err.f bt139.2).bind fun t145 => (if (wrap64 ((wrap64 (t143 + t144)) + t145)) = 0 then (if (bt137.1.size : Int) = 1 then (some ((bt139.1.length : Int) == 2)) else (some false)) else (some false))))) else (some false)))))) else (none)) = some r := by first | (rw [hy128]; with_reducible exact H) | (have H2_ := (Option.bind_some _ _).symm.trans H; rw [hy128]; with_reducible exact H2_) | (have H2_ := (Option.bind_some _ _).symm.trans H; with_reducible exact H2_) | with_reducible exact H | (rw [hy128]; exact H) | exact H
    have Ny128 := Aside0.mk hy128
    clear hy128
    by_cases c2 : 0 < (y128.length : Int)
    · rw [if_pos c2] at H
      have c2b0 : decide (0 < (y128.length : Int)) = true := decide_eq_true c2
      have c2b1 : decide (0 < y128.length) = true := decide_eq_true (by omega)
      clear c2
      obtain ⟨y131, hy131⟩ : ∃ y_ : List Int, y_ = (y128.set (0 : Int).toNat 1) := ⟨_, rfl⟩
      replace H : ((huff_Put.f k ([] : List (S54)) y131).bind fun bt132 => ((huff_Put.f k (([(⟨0, 0⟩ : S54), (⟨0, 0⟩ : S54)] : List (S54))) y131).bind fun bt137 => ((huff_Get.f bt137.1 2 y131).bind fun bt139 => (if bt132.1.toList = ([] : List UInt8) then ((wringerlaw1_Err.f bt132.2).bind fun t143 => ((wringerlaw1_Err.f bt137.2).bind fun t144 => ((wringerlaw1_Err.f bt139.2).bind fun t145 => (if (wrap64 ((wrap64 (t143 + t144)) + t145)) = 0 then (if (bt137.1.size : Int) = 1 then (some ((bt139.1.length : Int) == 2)) else (some false)) else (some false))))) else (some false))))) = some r := by first | (rw [hy131]; with_reducible exact H) | (have H2_ := (Option.bind_some _ _).symm.trans H; rw [hy131]; with_reducible exact H2_) | (have H2_ := (Option.bind_some _ _).symm.trans H; with_reducible exact H2_) | with_reducible exact H | (rw [hy131]; exact H) | exact H
      have Ny131 := Aside0.mk hy131
      clear hy131
      replace H := Option.bind_eq_some_iff.mp H
      obtain ⟨⟨t132, t133⟩, A40, H⟩ := H
      replace H : ((huff_Put.f k (([(⟨0, 0⟩ : S54), (⟨0, 0⟩ : S54)] : List (S54))) y131).bind fun bt137 => ((huff_Get.f bt137.1 2 y131).bind fun bt139 => (if t132.toList = ([] : List UInt8) then ((wringerlaw1_Err.f t133).bind fun t143 => ((wringerlaw1_Err.f bt137.2).bind fun t144 => ((wringerlaw1_Err.f bt139.2).bind fun t145 => (if (wrap64 ((wrap64 (t143 + t144)) + t145)) = 0 then (if (bt137.1.size : Int) = 1 then (some ((bt139.1.length : Int) == 2)) else (some false)) else (some false))))) else (some false)))) = some r := H
      have A4 := Aside0.mk A40
      clear A40
      obtain ⟨y134, hy134⟩ : ∃ y_ : List (S54), y_ = (([(⟨0, 0⟩ : S54), (⟨0, 0⟩ : S54)] : List (S54))) := ⟨_, rfl⟩
      replace H : ((huff_Put.f k y134 y131).bind fun bt137 => ((huff_Get.f bt137.1 2 y131).bind fun bt139 => (if t132.toList = ([] : List UInt8) then ((wringerlaw1_Err.f t133).bind fun t143 => ((wringerlaw1_Err.f bt137.2).bind fun t144 => ((wringerlaw1_Err.f bt139.2).bind fun t145 => (if (wrap64 ((wrap64 (t143 + t144)) + t145)) = 0 then (if (bt137.1.size : Int) = 1 then (some ((bt139.1.length : Int) == 2)) else (some false)) else (some false))))) else (some false)))) = some r := by first | (rw [hy134]; with_reducible exact H) | (have H2_ := (Option.bind_some _ _).symm.trans H; rw [hy134]; with_reducible exact H2_) | (have H2_ := (Option.bind_some _ _).symm.trans H; with_reducible exact H2_) | with_reducible exact H | (rw [hy134]; exact H) | exact H
      have Ny134 := Aside0.mk hy134
      clear hy134
      replace H := Option.bind_eq_some_iff.mp H
      obtain ⟨⟨t137, t138⟩, A50, H⟩ := H
      replace H : ((huff_Get.f t137 2 y131).bind fun bt139 => (if t132.toList = ([] : List UInt8) then ((wringerlaw1_Err.f t133).bind fun t143 => ((wringerlaw1_Err.f t138).bind fun t144 => ((wringerlaw1_Err.f bt139.2).bind fun t145 => (if (wrap64 ((wrap64 (t143 + t144)) + t145)) = 0 then (if (t137.size : Int) = 1 then (some ((bt139.1.length : Int) == 2)) else (some false)) else (some false))))) else (some false))) = some r := H
      have A5 := Aside0.mk A50
      clear A50
      replace H := Option.bind_eq_some_iff.mp H
      obtain ⟨⟨t139, t140⟩, A60, H⟩ := H
      replace H : (if t132.toList = ([] : List UInt8) then ((wringerlaw1_Err.f t133).bind fun t143 => ((wringerlaw1_Err.f t138).bind fun t144 => ((wringerlaw1_Err.f t140).bind fun t145 => (if (wrap64 ((wrap64 (t143 + t144)) + t145)) = 0 then (if (t137.size : Int) = 1 then (some ((t139.length : Int) == 2)) else (some false)) else (some false))))) else (some false)) = some r := H
      have A6 := Aside0.mk A60
      clear A60
      by_cases c7 : t132.toList = ([] : List UInt8)
      · rw [if_pos c7] at H
        have c7b0 : (t132.toList == ([] : List UInt8)) = true := beq_iff_eq.mpr c7
        have c7b1 : (t132.toList != ([] : List UInt8)) = false := bne_eq_false_iff_eq.mpr c7
        clear c7
        replace H := Option.bind_eq_some_iff.mp H
        obtain ⟨t143, A80, H⟩ := H
        replace H : ((wringerlaw1_Err.f t138).bind fun t144 => ((wringerlaw1_Err.f t140).bind fun t145 => (if (wrap64 ((wrap64 (t143 + t144)) + t145)) = 0 then (if (t137.size : Int) = 1 then (some ((t139.length : Int) == 2)) else (some false)) else (some false)))) = some r := H
        have A8 := Aside0.mk A80
        clear A80
        replace H := Option.bind_eq_some_iff.mp H
        obtain ⟨t144, A90, H⟩ := H
        replace H : ((wringerlaw1_Err.f t140).bind fun t145 => (if (wrap64 ((wrap64 (t143 + t144)) + t145)) = 0 then (if (t137.size : Int) = 1 then (some ((t139.length : Int) == 2)) else (some false)) else (some false))) = some r := H
        have A9 := Aside0.mk A90
        clear A90
        replace H := Option.bind_eq_some_iff.mp H
        obtain ⟨t145, A100, H⟩ := H
        replace H : (if (wrap64 ((wrap64 (t143 + t144)) + t145)) = 0 then (if (t137.size : Int) = 1 then (some ((t139.length : Int) == 2)) else (some false)) else (some false)) = some r := H
        have A10 := Aside0.mk A100
        clear A100
        by_cases c11 : (wrap64 ((wrap64 (t143 + t144)) + t145)) = 0
        · rw [if_pos c11] at H
          have c11b0 : ((wrap64 ((wrap64 (t143 + t144)) + t145)) == 0) = true := beq_iff_eq.mpr c11
          have c11b1 : ((wrap64 ((wrap64 (t143 + t144)) + t145)) != 0) = false := bne_eq_false_iff_eq.mpr c11
          clear c11
          by_cases c12 : (t137.size : Int) = 1
          · rw [if_pos c12] at H
            have c12b0 : ((t137.size : Int) == 1) = true := beq_iff_eq.mpr c12
            have c12b1 : ((t137.size : Int) != 1) = false := bne_eq_false_iff_eq.mpr c12
            clear c12
            obtain rfl := Option.some.inj H
            go_enter Try.func9, Try.ntmps9
            go_wp2_with (first | ((with_reducible refine gate_dst (N := 8) rfl ?_); (try (refine gate_guard (by rfl) ?_; dsimp only)); refine Kd.R_make (Kd.int .i64) _ 3 rfl (N := 8) rfl 23 _ _ rfl 65 rfl rfl Try.underlying23 (.int .i64 0) 8 info3 rfl (by decide) (by omega) 0 (ok := fun _ => True) (okp := fun _ => True) rfl (fun _ hk => hk) trivial (by omega) (by omega) (Below.refl _ _) (Nat.le_refl _) ?_; intro v129 w13 ho14 hb hg_ hnew_; clear hg_ hnew_; (first | rw [← Ny128.out] at ho14 | (simp only [Int.reduceToNat] at ho14; rw [← Ny128.out] at ho14)); have n0_ := Aside0.mk (Kd.R_lower ho14 (below_size (by repeat (first | (with_reducible first | exact HB.out | apply below_alloc | apply pw_below_drewN | apply below_drew1) | exact HB.out)))); have n1_ := Aside0.mk (below_step (by repeat (first | (with_reducible first | exact HB.out | apply below_alloc | apply pw_below_drewN | apply below_drew1) | exact HB.out)) hb); clear HB; have HO130 := n0_; have HB := n1_; clear n0_ n1_; clear hb ho14; have p3 : 0 ≤ (0 : Int) := (by omega); have q3 : (0 : Int) < ((y128.length : Int) : Int) := of_decide_eq_true (by first | (with_reducible assumption) | assumption); have qi3 : (0 < y128.length) = True := eq_true (by omega); obtain ⟨go3, co3, eo3, gb3, gl3, cl3, HG3⟩ := Kd.R_form HO130.out (by omega); (first | cases eo3 | (injection eo3 with ea_ en_ ec_; (first | subst ea_ | (injection ea_ with ea_; subst ea_)); subst ec_; clear en_)); have GB3 := Aside0.mk gb3; have GG3 := Aside0.mk HG3; clear gb3 gl3 HG3; obtain ⟨hx3_0, hf3_0⟩ := Kd.R_celln 0 HO130.out (0 : Int) p3 q3; (try rw [show ((0 : Int)).toNat = 0 from rfl] at hx3_0); (try simp only [Nat.reduceMul, Nat.zero_mul, Nat.zero_add, Nat.reduceAdd] at hx3_0); (try rw [show ((0 : Int)).toNat = 0 from rfl] at hf3_0); (try simp only [Nat.reduceMul, Nat.zero_mul, Nat.zero_add, Nat.reduceAdd] at hf3_0); replace p3 := eq_true p3; replace q3 := eq_true q3; obtain ⟨hy15_, hz15_⟩ := Kd.R_celln 0 HO130.out (0 : Int) (by omega) (of_decide_eq_true (by first | (with_reducible assumption) | assumption)); (try simp only [Int.reduceToNat, Int.toNat_zero, Int.toNat_ofNat, Nat.reduceMul, Nat.zero_mul, Nat.zero_add] at hy15_ hz15_); (try rw [show ((0 : Int)).toNat = 0 from rfl] at hy15_); (try rw [show ((0 : Int)).toNat = 0 from rfl] at hz15_); have HP15 := Kd.R_putg HO130.out (0 : Int) 1) | ((with_reducible refine gate_store (t := 3) (p := 10) rfl ?_); refine store_event (t := 3) (p := 10) (v := ?vo_w16) (w1 := (w13.setCell ⟨go3, (0 : Int).toNat, none⟩ (.int .i64 1))) ?hg ?ho ?hn ?hr ?_; (case ho => rfl); (case hg => rfl); (case hn => rfl); (case hr => first | (go_simp; done) | (go_simp; rfl)); intro w16 hw; have hg : w13.grownBy w16 (some go3) := (by rw [hw]; exact HP15.2); have hp_ : Kd.R (Kd.int .i64) 3 w16 w.heap.size (fun _ => True) (.slice (some ⟨go3, 0, none⟩) y128.length co3) y131 := (by rw [hw, Ny131.out]; exact HP15.1); clear HP15; have n0_ := Aside0.mk (hp_); have n1_ := Aside0.mk ((by rw [hw]; exact below_set (HB.out) GB3.out : Below w.heap.size w w16)); clear HO130; clear HB; have HO130 := n0_; have HB := n1_; clear n0_ n1_; clear hg hw hp_) | ((with_reducible refine gate_callee (f := 10) rfl ?_); refine goesL_ (some 13) rfl rfl Try.func10 (by kernel_rfl) rfl #[.slice none 0 0, .slice (some ⟨go3, 0, none⟩) y131.length co3] rfl (by (try simp only [List.map_toArray, List.map_cons, List.map_nil]); first | done | (rw [show y131.length = y128.length from (Kd.R_reads' HO130.out).1.symm] <;> rfl) | rfl | (simp only [List.length_drop, List.length_take]; rfl)) ?_; (refine (huff_Put.calls k _ _ ([] : List (S54)) _ _ y131 t132 t133 _ ?side1 ?side2 ?side3 ?side4 A4.out).mono ?_); (case side1 => exact Kd.C_nil _ _); (case side2 => exact Nat.le_refl _); (case side3 => repeat (first | exact (Kd.R_reads' HO130.out).2.2 | (with_reducible refine Kd.C_alloc ?_ _) | (with_reducible refine Kd.C_drewN ?_ _) | (with_reducible refine Kd.C_drew ?_))); (case side4 => rw [show y131.length = y128.length from (Kd.R_reads' HO130.out).1.symm]; exact (Kd.R_reads' HO130.out).2.1); rintro e w17 ⟨rfl, hb⟩; refine ⟨_, rfl, ?_⟩; have n0_ := Aside0.mk (Kd.R_below (by (with_reducible repeat (first | apply Kd.R_alloc | apply Kd.R_drewN | apply Kd.R_drew)); exact HO130.out) hb); have n1_ := Aside0.mk (below_step (by repeat (first | (with_reducible first | exact HB.out | apply below_alloc | apply pw_below_drewN | apply below_drew1) | exact HB.out)) hb); clear HO130; clear HB; have HO130 := n0_; have HB := n1_; clear n0_ n1_; (try clear hb); (try clear hb2); (try clear hk); (try clear hi)) | ((with_reducible refine gate_dst (N := 19) rfl ?_); (try (refine gate_guard (by rfl) ?_; dsimp only)); refine Kd.R_lit k54 _ 54 ?hg (N := 19) ?hd (xs := ([(⟨0, 0⟩ : S54), (⟨0, 0⟩ : S54)] : List (S54))) (inner := [.int .i64 0, .int .u64 0, .int .i64 0, .int .u64 0]) (ok := fun _ => True) (okp := fun _ => True) ?hr ?hp (fun _ hk => hk) trivial (Below.refl _ _) (Nat.le_refl _) (by simp) ?_; (case hd => rfl); (case hg => rfl); (case hr => first | (go_simp; done) | (go_simp; rfl)); (case hp => exact (Reps.c2 (show Kd.M k54 _ _ _ (⟨0, 0⟩ : S54) [.int .i64 0, .int .u64 0] from (k54_mkM _ _ _ (⟨0, 0⟩ : S54) )) (Reps.c2 (show Kd.M k54 _ _ _ (⟨0, 0⟩ : S54) [.int .i64 0, .int .u64 0] from (k54_mkM _ _ _ (⟨0, 0⟩ : S54) )) (Reps.none _ _)))); intro v135 w18 ho19 hb hg_ hnew_; clear hg_ hnew_; (first | rw [← Ny134.out] at ho19 | (simp only [Int.reduceToNat] at ho19; rw [← Ny134.out] at ho19)); have n0_ := Aside0.mk (Kd.R_below (by (with_reducible repeat (first | apply Kd.R_alloc | apply Kd.R_drewN | apply Kd.R_drew)); exact HO130.out) hb); have n1_ := Aside0.mk (Kd.R_lower ho19 (below_size (by repeat (first | (with_reducible first | exact HB.out | apply below_alloc | apply pw_below_drewN | apply below_drew1) | exact HB.out)))); have n2_ := Aside0.mk (below_step (by repeat (first | (with_reducible first | exact HB.out | apply below_alloc | apply pw_below_drewN | apply below_drew1) | exact HB.out)) hb); clear HO130; clear HB; have HO130 := n0_; have HO136 := n1_; have HB := n2_; clear n0_ n1_ n2_; clear hb ho19; obtain ⟨Ao20, co20, eo20⟩ := Kd.R_slice HO136.out; subst eo20) | ((with_reducible refine gate_callee (f := 10) rfl ?_); refine goesL_ (some 21) rfl rfl Try.func10 (by kernel_rfl) rfl #[.slice Ao20 y134.length co20, .slice (some ⟨go3, 0, none⟩) y131.length co3] rfl (by (try simp only [List.map_toArray, List.map_cons, List.map_nil]); first | done | (rw [show y131.length = y128.length from (Kd.R_reads' HO130.out).1.symm] <;> rfl) | rfl | (simp only [List.length_drop, List.length_take]; rfl)) ?_; (with_reducible refine (huff_Put.calls k _ _ y134 _ _ y131 t137 t138 _ ?side1 ?side2 ?side3 ?side4 A5.out).mono ?_); (case side1 => repeat (first | exact (Kd.R_reads' HO136.out).2.2 | (with_reducible refine Kd.C_alloc ?_ _) | (with_reducible refine Kd.C_drewN ?_ _) | (with_reducible refine Kd.C_drew ?_))); (case side2 => exact (Kd.R_reads' HO136.out).2.1); (case side3 => repeat (first | exact (Kd.R_reads' HO130.out).2.2 | (with_reducible refine Kd.C_alloc ?_ _) | (with_reducible refine Kd.C_drewN ?_ _) | (with_reducible refine Kd.C_drew ?_))); (case side4 => rw [show y131.length = y128.length from (Kd.R_reads' HO130.out).1.symm]; exact (Kd.R_reads' HO130.out).2.1); rintro e w21 ⟨rfl, hb⟩; refine ⟨_, rfl, ?_⟩; have n0_ := Aside0.mk (Kd.R_below (by (with_reducible repeat (first | apply Kd.R_alloc | apply Kd.R_drewN | apply Kd.R_drew)); exact HO130.out) hb); have n1_ := Aside0.mk (Kd.R_below (by (with_reducible repeat (first | apply Kd.R_alloc | apply Kd.R_drewN | apply Kd.R_drew)); exact HO136.out) hb); have n2_ := Aside0.mk (below_step (by repeat (first | (with_reducible first | exact HB.out | apply below_alloc | apply pw_below_drewN | apply below_drew1) | exact HB.out)) hb); clear HO130; clear HO136; clear HB; have HO130 := n0_; have HO136 := n1_; have HB := n2_; clear n0_ n1_ n2_; (try clear hb); (try clear hb2); (try clear hk); (try clear hi)) | ((with_reducible refine gate_callee (f := 12) rfl ?_); refine goesL_ (some 27) rfl rfl Try.func12 (by kernel_rfl) rfl #[.string t137, .int .i64 2, .slice (some ⟨go3, 0, none⟩) y131.length co3] rfl (by (try simp only [List.map_toArray, List.map_cons, List.map_nil]); first | done | (rw [show y131.length = y128.length from (Kd.R_reads' HO130.out).1.symm] <;> rfl) | rfl | (simp only [List.length_drop, List.length_take]; rfl)) ?_; (with_reducible refine (huff_Get.calls t137 2 _ _ y131 t139 t140 _ ?side1 ?side2 A6.out).mono ?_); (case side1 => repeat (first | exact (Kd.R_reads' HO130.out).2.2 | (with_reducible refine Kd.C_alloc ?_ _) | (with_reducible refine Kd.C_drewN ?_ _) | (with_reducible refine Kd.C_drew ?_))); (case side2 => rw [show y131.length = y128.length from (Kd.R_reads' HO130.out).1.symm]; exact (Kd.R_reads' HO130.out).2.1); rintro e w22 ⟨v141, rfl, ho0, hb⟩; refine ⟨_, rfl, ?_⟩; have n0_ := Aside0.mk (Kd.R_below (by (with_reducible repeat (first | apply Kd.R_alloc | apply Kd.R_drewN | apply Kd.R_drew)); exact HO130.out) hb); have n1_ := Aside0.mk (Kd.R_elder' (by (with_reducible repeat (first | apply Kd.R_alloc | apply Kd.R_drewN | apply Kd.R_drew)); exact HO136.out) (Kd.R_base ho0) hb); have n2_ := Aside0.mk (Kd.R_lower (Kd.R_new' ho0 (Kd.R_lt (by (with_reducible repeat (first | apply Kd.R_alloc | apply Kd.R_drewN | apply Kd.R_drew)); exact HO136.out))) (below_size (by repeat (first | (with_reducible first | exact HB.out | apply below_alloc | apply pw_below_drewN | apply below_drew1) | exact HB.out)))); have n3_ := Aside0.mk (below_step (by repeat (first | (with_reducible first | exact HB.out | apply below_alloc | apply pw_below_drewN | apply below_drew1) | exact HB.out)) hb); clear HO130; clear HO136; clear HB; have HO130 := n0_; have HO136 := n1_; have HO142 := n2_; have HB := n3_; clear n0_ n1_ n2_ n3_; (try clear hb); (try clear hb2); (try clear hk); (try clear hi); (try clear ho0)) | (go_at_call 14; (with_reducible refine (wringerlaw1_Err.calls t133 t143 _ A8.out).mono ?_); rintro e w' ⟨rfl, ⟨nd, rfl⟩⟩) | (go_at_call 14; (with_reducible refine (wringerlaw1_Err.calls t138 t144 _ A9.out).mono ?_); rintro e w' ⟨rfl, ⟨nd, rfl⟩⟩) | (go_at_call 14; (with_reducible refine (wringerlaw1_Err.calls t140 t145 _ A10.out).mono ?_); rintro e w' ⟨rfl, ⟨nd, rfl⟩⟩; obtain ⟨Ao23, co23, eo23⟩ := Kd.R_slice HO142.out; subst eo23))
            go_ret
            exact ⟨by first | rfl | (simp [errW_none, errW_some] <;> rfl) | (simp [*, errW_none, errW_some] <;> rfl), by repeat (first | (with_reducible first | exact HB.out | apply below_alloc | apply pw_below_drewN | apply below_drew1) | exact HB.out)⟩
          · rw [if_neg c12] at H
            have c12b0 : ((t137.size : Int) == 1) = false := beq_eq_false_iff_ne.mpr c12
            have c12b1 : ((t137.size : Int) != 1) = true := bne_iff_ne.mpr c12
            obtain rfl := Option.some.inj H
            go_enter Try.func9, Try.ntmps9
            go_wp2_with (first | ((with_reducible refine gate_dst (N := 8) rfl ?_); (try (refine gate_guard (by rfl) ?_; dsimp only)); refine Kd.R_make (Kd.int .i64) _ 3 rfl (N := 8) rfl 23 _ _ rfl 65 rfl rfl Try.underlying23 (.int .i64 0) 8 info3 rfl (by decide) (by omega) 0 (ok := fun _ => True) (okp := fun _ => True) rfl (fun _ hk => hk) trivial (by omega) (by omega) (Below.refl _ _) (Nat.le_refl _) ?_; intro v129 w24 ho25 hb hg_ hnew_; clear hg_ hnew_; (first | rw [← Ny128.out] at ho25 | (simp only [Int.reduceToNat] at ho25; rw [← Ny128.out] at ho25)); have n0_ := Aside0.mk (Kd.R_lower ho25 (below_size (by repeat (first | (with_reducible first | exact HB.out | apply below_alloc | apply pw_below_drewN | apply below_drew1) | exact HB.out)))); have n1_ := Aside0.mk (below_step (by repeat (first | (with_reducible first | exact HB.out | apply below_alloc | apply pw_below_drewN | apply below_drew1) | exact HB.out)) hb); clear HB; have HO130 := n0_; have HB := n1_; clear n0_ n1_; clear hb ho25; have p3 : 0 ≤ (0 : Int) := (by omega); have q3 : (0 : Int) < ((y128.length : Int) : Int) := of_decide_eq_true (by first | (with_reducible assumption) | assumption); have qi3 : (0 < y128.length) = True := eq_true (by omega); obtain ⟨go3, co3, eo3, gb3, gl3, cl3, HG3⟩ := Kd.R_form HO130.out (by omega); (first | cases eo3 | (injection eo3 with ea_ en_ ec_; (first | subst ea_ | (injection ea_ with ea_; subst ea_)); subst ec_; clear en_)); have GB3 := Aside0.mk gb3; have GG3 := Aside0.mk HG3; clear gb3 gl3 HG3; obtain ⟨hx3_0, hf3_0⟩ := Kd.R_celln 0 HO130.out (0 : Int) p3 q3; (try rw [show ((0 : Int)).toNat = 0 from rfl] at hx3_0); (try simp only [Nat.reduceMul, Nat.zero_mul, Nat.zero_add, Nat.reduceAdd] at hx3_0); (try rw [show ((0 : Int)).toNat = 0 from rfl] at hf3_0); (try simp only [Nat.reduceMul, Nat.zero_mul, Nat.zero_add, Nat.reduceAdd] at hf3_0); replace p3 := eq_true p3; replace q3 := eq_true q3; obtain ⟨hy26_, hz26_⟩ := Kd.R_celln 0 HO130.out (0 : Int) (by omega) (of_decide_eq_true (by first | (with_reducible assumption) | assumption)); (try simp only [Int.reduceToNat, Int.toNat_zero, Int.toNat_ofNat, Nat.reduceMul, Nat.zero_mul, Nat.zero_add] at hy26_ hz26_); (try rw [show ((0 : Int)).toNat = 0 from rfl] at hy26_); (try rw [show ((0 : Int)).toNat = 0 from rfl] at hz26_); have HP26 := Kd.R_putg HO130.out (0 : Int) 1) | ((with_reducible refine gate_store (t := 3) (p := 10) rfl ?_); refine store_event (t := 3) (p := 10) (v := ?vo_w27) (w1 := (w24.setCell ⟨go3, (0 : Int).toNat, none⟩ (.int .i64 1))) ?hg ?ho ?hn ?hr ?_; (case ho => rfl); (case hg => rfl); (case hn => rfl); (case hr => first | (go_simp; done) | (go_simp; rfl)); intro w27 hw; have hg : w24.grownBy w27 (some go3) := (by rw [hw]; exact HP26.2); have hp_ : Kd.R (Kd.int .i64) 3 w27 w.heap.size (fun _ => True) (.slice (some ⟨go3, 0, none⟩) y128.length co3) y131 := (by rw [hw, Ny131.out]; exact HP26.1); clear HP26; have n0_ := Aside0.mk (hp_); have n1_ := Aside0.mk ((by rw [hw]; exact below_set (HB.out) GB3.out : Below w.heap.size w w27)); clear HO130; clear HB; have HO130 := n0_; have HB := n1_; clear n0_ n1_; clear hg hw hp_) | ((with_reducible refine gate_callee (f := 10) rfl ?_); refine goesL_ (some 13) rfl rfl Try.func10 (by kernel_rfl) rfl #[.slice none 0 0, .slice (some ⟨go3, 0, none⟩) y131.length co3] rfl (by (try simp only [List.map_toArray, List.map_cons, List.map_nil]); first | done | (rw [show y131.length = y128.length from (Kd.R_reads' HO130.out).1.symm] <;> rfl) | rfl | (simp only [List.length_drop, List.length_take]; rfl)) ?_; (refine (huff_Put.calls k _ _ ([] : List (S54)) _ _ y131 t132 t133 _ ?side1 ?side2 ?side3 ?side4 A4.out).mono ?_); (case side1 => exact Kd.C_nil _ _); (case side2 => exact Nat.le_refl _); (case side3 => repeat (first | exact (Kd.R_reads' HO130.out).2.2 | (with_reducible refine Kd.C_alloc ?_ _) | (with_reducible refine Kd.C_drewN ?_ _) | (with_reducible refine Kd.C_drew ?_))); (case side4 => rw [show y131.length = y128.length from (Kd.R_reads' HO130.out).1.symm]; exact (Kd.R_reads' HO130.out).2.1); rintro e w28 ⟨rfl, hb⟩; refine ⟨_, rfl, ?_⟩; have n0_ := Aside0.mk (Kd.R_below (by (with_reducible repeat (first | apply Kd.R_alloc | apply Kd.R_drewN | apply Kd.R_drew)); exact HO130.out) hb); have n1_ := Aside0.mk (below_step (by repeat (first | (with_reducible first | exact HB.out | apply below_alloc | apply pw_below_drewN | apply below_drew1) | exact HB.out)) hb); clear HO130; clear HB; have HO130 := n0_; have HB := n1_; clear n0_ n1_; (try clear hb); (try clear hb2); (try clear hk); (try clear hi)) | ((with_reducible refine gate_dst (N := 19) rfl ?_); (try (refine gate_guard (by rfl) ?_; dsimp only)); refine Kd.R_lit k54 _ 54 ?hg (N := 19) ?hd (xs := ([(⟨0, 0⟩ : S54), (⟨0, 0⟩ : S54)] : List (S54))) (inner := [.int .i64 0, .int .u64 0, .int .i64 0, .int .u64 0]) (ok := fun _ => True) (okp := fun _ => True) ?hr ?hp (fun _ hk => hk) trivial (Below.refl _ _) (Nat.le_refl _) (by simp) ?_; (case hd => rfl); (case hg => rfl); (case hr => first | (go_simp; done) | (go_simp; rfl)); (case hp => exact (Reps.c2 (show Kd.M k54 _ _ _ (⟨0, 0⟩ : S54) [.int .i64 0, .int .u64 0] from (k54_mkM _ _ _ (⟨0, 0⟩ : S54) )) (Reps.c2 (show Kd.M k54 _ _ _ (⟨0, 0⟩ : S54) [.int .i64 0, .int .u64 0] from (k54_mkM _ _ _ (⟨0, 0⟩ : S54) )) (Reps.none _ _)))); intro v135 w29 ho30 hb hg_ hnew_; clear hg_ hnew_; (first | rw [← Ny134.out] at ho30 | (simp only [Int.reduceToNat] at ho30; rw [← Ny134.out] at ho30)); have n0_ := Aside0.mk (Kd.R_below (by (with_reducible repeat (first | apply Kd.R_alloc | apply Kd.R_drewN | apply Kd.R_drew)); exact HO130.out) hb); have n1_ := Aside0.mk (Kd.R_lower ho30 (below_size (by repeat (first | (with_reducible first | exact HB.out | apply below_alloc | apply pw_below_drewN | apply below_drew1) | exact HB.out)))); have n2_ := Aside0.mk (below_step (by repeat (first | (with_reducible first | exact HB.out | apply below_alloc | apply pw_below_drewN | apply below_drew1) | exact HB.out)) hb); clear HO130; clear HB; have HO130 := n0_; have HO136 := n1_; have HB := n2_; clear n0_ n1_ n2_; clear hb ho30; obtain ⟨Ao31, co31, eo31⟩ := Kd.R_slice HO136.out; subst eo31) | ((with_reducible refine gate_callee (f := 10) rfl ?_); refine goesL_ (some 21) rfl rfl Try.func10 (by kernel_rfl) rfl #[.slice Ao31 y134.length co31, .slice (some ⟨go3, 0, none⟩) y131.length co3] rfl (by (try simp only [List.map_toArray, List.map_cons, List.map_nil]); first | done | (rw [show y131.length = y128.length from (Kd.R_reads' HO130.out).1.symm] <;> rfl) | rfl | (simp only [List.length_drop, List.length_take]; rfl)) ?_; (with_reducible refine (huff_Put.calls k _ _ y134 _ _ y131 t137 t138 _ ?side1 ?side2 ?side3 ?side4 A5.out).mono ?_); (case side1 => repeat (first | exact (Kd.R_reads' HO136.out).2.2 | (with_reducible refine Kd.C_alloc ?_ _) | (with_reducible refine Kd.C_drewN ?_ _) | (with_reducible refine Kd.C_drew ?_))); (case side2 => exact (Kd.R_reads' HO136.out).2.1); (case side3 => repeat (first | exact (Kd.R_reads' HO130.out).2.2 | (with_reducible refine Kd.C_alloc ?_ _) | (with_reducible refine Kd.C_drewN ?_ _) | (with_reducible refine Kd.C_drew ?_))); (case side4 => rw [show y131.length = y128.length from (Kd.R_reads' HO130.out).1.symm]; exact (Kd.R_reads' HO130.out).2.1); rintro e w32 ⟨rfl, hb⟩; refine ⟨_, rfl, ?_⟩; have n0_ := Aside0.mk (Kd.R_below (by (with_reducible repeat (first | apply Kd.R_alloc | apply Kd.R_drewN | apply Kd.R_drew)); exact HO130.out) hb); have n1_ := Aside0.mk (Kd.R_below (by (with_reducible repeat (first | apply Kd.R_alloc | apply Kd.R_drewN | apply Kd.R_drew)); exact HO136.out) hb); have n2_ := Aside0.mk (below_step (by repeat (first | (with_reducible first | exact HB.out | apply below_alloc | apply pw_below_drewN | apply below_drew1) | exact HB.out)) hb); clear HO130; clear HO136; clear HB; have HO130 := n0_; have HO136 := n1_; have HB := n2_; clear n0_ n1_ n2_; (try clear hb); (try clear hb2); (try clear hk); (try clear hi)) | ((with_reducible refine gate_callee (f := 12) rfl ?_); refine goesL_ (some 27) rfl rfl Try.func12 (by kernel_rfl) rfl #[.string t137, .int .i64 2, .slice (some ⟨go3, 0, none⟩) y131.length co3] rfl (by (try simp only [List.map_toArray, List.map_cons, List.map_nil]); first | done | (rw [show y131.length = y128.length from (Kd.R_reads' HO130.out).1.symm] <;> rfl) | rfl | (simp only [List.length_drop, List.length_take]; rfl)) ?_; (with_reducible refine (huff_Get.calls t137 2 _ _ y131 t139 t140 _ ?side1 ?side2 A6.out).mono ?_); (case side1 => repeat (first | exact (Kd.R_reads' HO130.out).2.2 | (with_reducible refine Kd.C_alloc ?_ _) | (with_reducible refine Kd.C_drewN ?_ _) | (with_reducible refine Kd.C_drew ?_))); (case side2 => rw [show y131.length = y128.length from (Kd.R_reads' HO130.out).1.symm]; exact (Kd.R_reads' HO130.out).2.1); rintro e w33 ⟨v141, rfl, ho0, hb⟩; refine ⟨_, rfl, ?_⟩; have n0_ := Aside0.mk (Kd.R_below (by (with_reducible repeat (first | apply Kd.R_alloc | apply Kd.R_drewN | apply Kd.R_drew)); exact HO130.out) hb); have n1_ := Aside0.mk (Kd.R_elder' (by (with_reducible repeat (first | apply Kd.R_alloc | apply Kd.R_drewN | apply Kd.R_drew)); exact HO136.out) (Kd.R_base ho0) hb); have n2_ := Aside0.mk (Kd.R_lower (Kd.R_new' ho0 (Kd.R_lt (by (with_reducible repeat (first | apply Kd.R_alloc | apply Kd.R_drewN | apply Kd.R_drew)); exact HO136.out))) (below_size (by repeat (first | (with_reducible first | exact HB.out | apply below_alloc | apply pw_below_drewN | apply below_drew1) | exact HB.out)))); have n3_ := Aside0.mk (below_step (by repeat (first | (with_reducible first | exact HB.out | apply below_alloc | apply pw_below_drewN | apply below_drew1) | exact HB.out)) hb); clear HO130; clear HO136; clear HB; have HO130 := n0_; have HO136 := n1_; have HO142 := n2_; have HB := n3_; clear n0_ n1_ n2_ n3_; (try clear hb); (try clear hb2); (try clear hk); (try clear hi); (try clear ho0)) | (go_at_call 14; (with_reducible refine (wringerlaw1_Err.calls t133 t143 _ A8.out).mono ?_); rintro e w' ⟨rfl, ⟨nd, rfl⟩⟩) | (go_at_call 14; (with_reducible refine (wringerlaw1_Err.calls t138 t144 _ A9.out).mono ?_); rintro e w' ⟨rfl, ⟨nd, rfl⟩⟩) | (go_at_call 14; (with_reducible refine (wringerlaw1_Err.calls t140 t145 _ A10.out).mono ?_); rintro e w' ⟨rfl, ⟨nd, rfl⟩⟩))
            go_ret
            exact ⟨by first | rfl | (simp [errW_none, errW_some] <;> rfl) | (simp [*, errW_none, errW_some] <;> rfl), by repeat (first | (with_reducible first | exact HB.out | apply below_alloc | apply pw_below_drewN | apply below_drew1) | exact HB.out)⟩
        · rw [if_neg c11] at H
          have c11b0 : ((wrap64 ((wrap64 (t143 + t144)) + t145)) == 0) = false := beq_eq_false_iff_ne.mpr c11
          have c11b1 : ((wrap64 ((wrap64 (t143 + t144)) + t145)) != 0) = true := bne_iff_ne.mpr c11
          obtain rfl := Option.some.inj H
          go_enter Try.func9, Try.ntmps9
          go_wp2_with (first | ((with_reducible refine gate_dst (N := 8) rfl ?_); (try (refine gate_guard (by rfl) ?_; dsimp only)); refine Kd.R_make (Kd.int .i64) _ 3 rfl (N := 8) rfl 23 _ _ rfl 65 rfl rfl Try.underlying23 (.int .i64 0) 8 info3 rfl (by decide) (by omega) 0 (ok := fun _ => True) (okp := fun _ => True) rfl (fun _ hk => hk) trivial (by omega) (by omega) (Below.refl _ _) (Nat.le_refl _) ?_; intro v129 w34 ho35 hb hg_ hnew_; clear hg_ hnew_; (first | rw [← Ny128.out] at ho35 | (simp only [Int.reduceToNat] at ho35; rw [← Ny128.out] at ho35)); have n0_ := Aside0.mk (Kd.R_lower ho35 (below_size (by repeat (first | (with_reducible first | exact HB.out | apply below_alloc | apply pw_below_drewN | apply below_drew1) | exact HB.out)))); have n1_ := Aside0.mk (below_step (by repeat (first | (with_reducible first | exact HB.out | apply below_alloc | apply pw_below_drewN | apply below_drew1) | exact HB.out)) hb); clear HB; have HO130 := n0_; have HB := n1_; clear n0_ n1_; clear hb ho35; have p3 : 0 ≤ (0 : Int) := (by omega); have q3 : (0 : Int) < ((y128.length : Int) : Int) := of_decide_eq_true (by first | (with_reducible assumption) | assumption); have qi3 : (0 < y128.length) = True := eq_true (by omega); obtain ⟨go3, co3, eo3, gb3, gl3, cl3, HG3⟩ := Kd.R_form HO130.out (by omega); (first | cases eo3 | (injection eo3 with ea_ en_ ec_; (first | subst ea_ | (injection ea_ with ea_; subst ea_)); subst ec_; clear en_)); have GB3 := Aside0.mk gb3; have GG3 := Aside0.mk HG3; clear gb3 gl3 HG3; obtain ⟨hx3_0, hf3_0⟩ := Kd.R_celln 0 HO130.out (0 : Int) p3 q3; (try rw [show ((0 : Int)).toNat = 0 from rfl] at hx3_0); (try simp only [Nat.reduceMul, Nat.zero_mul, Nat.zero_add, Nat.reduceAdd] at hx3_0); (try rw [show ((0 : Int)).toNat = 0 from rfl] at hf3_0); (try simp only [Nat.reduceMul, Nat.zero_mul, Nat.zero_add, Nat.reduceAdd] at hf3_0); replace p3 := eq_true p3; replace q3 := eq_true q3; obtain ⟨hy36_, hz36_⟩ := Kd.R_celln 0 HO130.out (0 : Int) (by omega) (of_decide_eq_true (by first | (with_reducible assumption) | assumption)); (try simp only [Int.reduceToNat, Int.toNat_zero, Int.toNat_ofNat, Nat.reduceMul, Nat.zero_mul, Nat.zero_add] at hy36_ hz36_); (try rw [show ((0 : Int)).toNat = 0 from rfl] at hy36_); (try rw [show ((0 : Int)).toNat = 0 from rfl] at hz36_); have HP36 := Kd.R_putg HO130.out (0 : Int) 1) | ((with_reducible refine gate_store (t := 3) (p := 10) rfl ?_); refine store_event (t := 3) (p := 10) (v := ?vo_w37) (w1 := (w34.setCell ⟨go3, (0 : Int).toNat, none⟩ (.int .i64 1))) ?hg ?ho ?hn ?hr ?_; (case ho => rfl); (case hg => rfl); (case hn => rfl); (case hr => first | (go_simp; done) | (go_simp; rfl)); intro w37 hw; have hg : w34.grownBy w37 (some go3) := (by rw [hw]; exact HP36.2); have hp_ : Kd.R (Kd.int .i64) 3 w37 w.heap.size (fun _ => True) (.slice (some ⟨go3, 0, none⟩) y128.length co3) y131 := (by rw [hw, Ny131.out]; exact HP36.1); clear HP36; have n0_ := Aside0.mk (hp_); have n1_ := Aside0.mk ((by rw [hw]; exact below_set (HB.out) GB3.out : Below w.heap.size w w37)); clear HO130; clear HB; have HO130 := n0_; have HB := n1_; clear n0_ n1_; clear hg hw hp_) | ((with_reducible refine gate_callee (f := 10) rfl ?_); refine goesL_ (some 13) rfl rfl Try.func10 (by kernel_rfl) rfl #[.slice none 0 0, .slice (some ⟨go3, 0, none⟩) y131.length co3] rfl (by (try simp only [List.map_toArray, List.map_cons, List.map_nil]); first | done | (rw [show y131.length = y128.length from (Kd.R_reads' HO130.out).1.symm] <;> rfl) | rfl | (simp only [List.length_drop, List.length_take]; rfl)) ?_; (refine (huff_Put.calls k _ _ ([] : List (S54)) _ _ y131 t132 t133 _ ?side1 ?side2 ?side3 ?side4 A4.out).mono ?_); (case side1 => exact Kd.C_nil _ _); (case side2 => exact Nat.le_refl _); (case side3 => repeat (first | exact (Kd.R_reads' HO130.out).2.2 | (with_reducible refine Kd.C_alloc ?_ _) | (with_reducible refine Kd.C_drewN ?_ _) | (with_reducible refine Kd.C_drew ?_))); (case side4 => rw [show y131.length = y128.length from (Kd.R_reads' HO130.out).1.symm]; exact (Kd.R_reads' HO130.out).2.1); rintro e w38 ⟨rfl, hb⟩; refine ⟨_, rfl, ?_⟩; have n0_ := Aside0.mk (Kd.R_below (by (with_reducible repeat (first | apply Kd.R_alloc | apply Kd.R_drewN | apply Kd.R_drew)); exact HO130.out) hb); have n1_ := Aside0.mk (below_step (by repeat (first | (with_reducible first | exact HB.out | apply below_alloc | apply pw_below_drewN | apply below_drew1) | exact HB.out)) hb); clear HO130; clear HB; have HO130 := n0_; have HB := n1_; clear n0_ n1_; (try clear hb); (try clear hb2); (try clear hk); (try clear hi)) | ((with_reducible refine gate_dst (N := 19) rfl ?_); (try (refine gate_guard (by rfl) ?_; dsimp only)); refine Kd.R_lit k54 _ 54 ?hg (N := 19) ?hd (xs := ([(⟨0, 0⟩ : S54), (⟨0, 0⟩ : S54)] : List (S54))) (inner := [.int .i64 0, .int .u64 0, .int .i64 0, .int .u64 0]) (ok := fun _ => True) (okp := fun _ => True) ?hr ?hp (fun _ hk => hk) trivial (Below.refl _ _) (Nat.le_refl _) (by simp) ?_; (case hd => rfl); (case hg => rfl); (case hr => first | (go_simp; done) | (go_simp; rfl)); (case hp => exact (Reps.c2 (show Kd.M k54 _ _ _ (⟨0, 0⟩ : S54) [.int .i64 0, .int .u64 0] from (k54_mkM _ _ _ (⟨0, 0⟩ : S54) )) (Reps.c2 (show Kd.M k54 _ _ _ (⟨0, 0⟩ : S54) [.int .i64 0, .int .u64 0] from (k54_mkM _ _ _ (⟨0, 0⟩ : S54) )) (Reps.none _ _)))); intro v135 w39 ho40 hb hg_ hnew_; clear hg_ hnew_; (first | rw [← Ny134.out] at ho40 | (simp only [Int.reduceToNat] at ho40; rw [← Ny134.out] at ho40)); have n0_ := Aside0.mk (Kd.R_below (by (with_reducible repeat (first | apply Kd.R_alloc | apply Kd.R_drewN | apply Kd.R_drew)); exact HO130.out) hb); have n1_ := Aside0.mk (Kd.R_lower ho40 (below_size (by repeat (first | (with_reducible first | exact HB.out | apply below_alloc | apply pw_below_drewN | apply below_drew1) | exact HB.out)))); have n2_ := Aside0.mk (below_step (by repeat (first | (with_reducible first | exact HB.out | apply below_alloc | apply pw_below_drewN | apply below_drew1) | exact HB.out)) hb); clear HO130; clear HB; have HO130 := n0_; have HO136 := n1_; have HB := n2_; clear n0_ n1_ n2_; clear hb ho40; obtain ⟨Ao41, co41, eo41⟩ := Kd.R_slice HO136.out; subst eo41) | ((with_reducible refine gate_callee (f := 10) rfl ?_); refine goesL_ (some 21) rfl rfl Try.func10 (by kernel_rfl) rfl #[.slice Ao41 y134.length co41, .slice (some ⟨go3, 0, none⟩) y131.length co3] rfl (by (try simp only [List.map_toArray, List.map_cons, List.map_nil]); first | done | (rw [show y131.length = y128.length from (Kd.R_reads' HO130.out).1.symm] <;> rfl) | rfl | (simp only [List.length_drop, List.length_take]; rfl)) ?_; (with_reducible refine (huff_Put.calls k _ _ y134 _ _ y131 t137 t138 _ ?side1 ?side2 ?side3 ?side4 A5.out).mono ?_); (case side1 => repeat (first | exact (Kd.R_reads' HO136.out).2.2 | (with_reducible refine Kd.C_alloc ?_ _) | (with_reducible refine Kd.C_drewN ?_ _) | (with_reducible refine Kd.C_drew ?_))); (case side2 => exact (Kd.R_reads' HO136.out).2.1); (case side3 => repeat (first | exact (Kd.R_reads' HO130.out).2.2 | (with_reducible refine Kd.C_alloc ?_ _) | (with_reducible refine Kd.C_drewN ?_ _) | (with_reducible refine Kd.C_drew ?_))); (case side4 => rw [show y131.length = y128.length from (Kd.R_reads' HO130.out).1.symm]; exact (Kd.R_reads' HO130.out).2.1); rintro e w42 ⟨rfl, hb⟩; refine ⟨_, rfl, ?_⟩; have n0_ := Aside0.mk (Kd.R_below (by (with_reducible repeat (first | apply Kd.R_alloc | apply Kd.R_drewN | apply Kd.R_drew)); exact HO130.out) hb); have n1_ := Aside0.mk (Kd.R_below (by (with_reducible repeat (first | apply Kd.R_alloc | apply Kd.R_drewN | apply Kd.R_drew)); exact HO136.out) hb); have n2_ := Aside0.mk (below_step (by repeat (first | (with_reducible first | exact HB.out | apply below_alloc | apply pw_below_drewN | apply below_drew1) | exact HB.out)) hb); clear HO130; clear HO136; clear HB; have HO130 := n0_; have HO136 := n1_; have HB := n2_; clear n0_ n1_ n2_; (try clear hb); (try clear hb2); (try clear hk); (try clear hi)) | ((with_reducible refine gate_callee (f := 12) rfl ?_); refine goesL_ (some 27) rfl rfl Try.func12 (by kernel_rfl) rfl #[.string t137, .int .i64 2, .slice (some ⟨go3, 0, none⟩) y131.length co3] rfl (by (try simp only [List.map_toArray, List.map_cons, List.map_nil]); first | done | (rw [show y131.length = y128.length from (Kd.R_reads' HO130.out).1.symm] <;> rfl) | rfl | (simp only [List.length_drop, List.length_take]; rfl)) ?_; (with_reducible refine (huff_Get.calls t137 2 _ _ y131 t139 t140 _ ?side1 ?side2 A6.out).mono ?_); (case side1 => repeat (first | exact (Kd.R_reads' HO130.out).2.2 | (with_reducible refine Kd.C_alloc ?_ _) | (with_reducible refine Kd.C_drewN ?_ _) | (with_reducible refine Kd.C_drew ?_))); (case side2 => rw [show y131.length = y128.length from (Kd.R_reads' HO130.out).1.symm]; exact (Kd.R_reads' HO130.out).2.1); rintro e w43 ⟨v141, rfl, ho0, hb⟩; refine ⟨_, rfl, ?_⟩; have n0_ := Aside0.mk (Kd.R_below (by (with_reducible repeat (first | apply Kd.R_alloc | apply Kd.R_drewN | apply Kd.R_drew)); exact HO130.out) hb); have n1_ := Aside0.mk (Kd.R_elder' (by (with_reducible repeat (first | apply Kd.R_alloc | apply Kd.R_drewN | apply Kd.R_drew)); exact HO136.out) (Kd.R_base ho0) hb); have n2_ := Aside0.mk (Kd.R_lower (Kd.R_new' ho0 (Kd.R_lt (by (with_reducible repeat (first | apply Kd.R_alloc | apply Kd.R_drewN | apply Kd.R_drew)); exact HO136.out))) (below_size (by repeat (first | (with_reducible first | exact HB.out | apply below_alloc | apply pw_below_drewN | apply below_drew1) | exact HB.out)))); have n3_ := Aside0.mk (below_step (by repeat (first | (with_reducible first | exact HB.out | apply below_alloc | apply pw_below_drewN | apply below_drew1) | exact HB.out)) hb); clear HO130; clear HO136; clear HB; have HO130 := n0_; have HO136 := n1_; have HO142 := n2_; have HB := n3_; clear n0_ n1_ n2_ n3_; (try clear hb); (try clear hb2); (try clear hk); (try clear hi); (try clear ho0)) | (go_at_call 14; (with_reducible refine (wringerlaw1_Err.calls t133 t143 _ A8.out).mono ?_); rintro e w' ⟨rfl, ⟨nd, rfl⟩⟩) | (go_at_call 14; (with_reducible refine (wringerlaw1_Err.calls t138 t144 _ A9.out).mono ?_); rintro e w' ⟨rfl, ⟨nd, rfl⟩⟩) | (go_at_call 14; (with_reducible refine (wringerlaw1_Err.calls t140 t145 _ A10.out).mono ?_); rintro e w' ⟨rfl, ⟨nd, rfl⟩⟩))
          go_ret
          exact ⟨by first | rfl | (simp [errW_none, errW_some] <;> rfl) | (simp [*, errW_none, errW_some] <;> rfl), by repeat (first | (with_reducible first | exact HB.out | apply below_alloc | apply pw_below_drewN | apply below_drew1) | exact HB.out)⟩
      · rw [if_neg c7] at H
        have c7b0 : (t132.toList == ([] : List UInt8)) = false := beq_eq_false_iff_ne.mpr c7
        have c7b1 : (t132.toList != ([] : List UInt8)) = true := bne_iff_ne.mpr c7
        obtain rfl := Option.some.inj H
        go_enter Try.func9, Try.ntmps9
        go_wp2_with (first | ((with_reducible refine gate_dst (N := 8) rfl ?_); (try (refine gate_guard (by rfl) ?_; dsimp only)); refine Kd.R_make (Kd.int .i64) _ 3 rfl (N := 8) rfl 23 _ _ rfl 65 rfl rfl Try.underlying23 (.int .i64 0) 8 info3 rfl (by decide) (by omega) 0 (ok := fun _ => True) (okp := fun _ => True) rfl (fun _ hk => hk) trivial (by omega) (by omega) (Below.refl _ _) (Nat.le_refl _) ?_; intro v129 w44 ho45 hb hg_ hnew_; clear hg_ hnew_; (first | rw [← Ny128.out] at ho45 | (simp only [Int.reduceToNat] at ho45; rw [← Ny128.out] at ho45)); have n0_ := Aside0.mk (Kd.R_lower ho45 (below_size (by repeat (first | (with_reducible first | exact HB.out | apply below_alloc | apply pw_below_drewN | apply below_drew1) | exact HB.out)))); have n1_ := Aside0.mk (below_step (by repeat (first | (with_reducible first | exact HB.out | apply below_alloc | apply pw_below_drewN | apply below_drew1) | exact HB.out)) hb); clear HB; have HO130 := n0_; have HB := n1_; clear n0_ n1_; clear hb ho45; have p3 : 0 ≤ (0 : Int) := (by omega); have q3 : (0 : Int) < ((y128.length : Int) : Int) := of_decide_eq_true (by first | (with_reducible assumption) | assumption); have qi3 : (0 < y128.length) = True := eq_true (by omega); obtain ⟨go3, co3, eo3, gb3, gl3, cl3, HG3⟩ := Kd.R_form HO130.out (by omega); (first | cases eo3 | (injection eo3 with ea_ en_ ec_; (first | subst ea_ | (injection ea_ with ea_; subst ea_)); subst ec_; clear en_)); have GB3 := Aside0.mk gb3; have GG3 := Aside0.mk HG3; clear gb3 gl3 HG3; obtain ⟨hx3_0, hf3_0⟩ := Kd.R_celln 0 HO130.out (0 : Int) p3 q3; (try rw [show ((0 : Int)).toNat = 0 from rfl] at hx3_0); (try simp only [Nat.reduceMul, Nat.zero_mul, Nat.zero_add, Nat.reduceAdd] at hx3_0); (try rw [show ((0 : Int)).toNat = 0 from rfl] at hf3_0); (try simp only [Nat.reduceMul, Nat.zero_mul, Nat.zero_add, Nat.reduceAdd] at hf3_0); replace p3 := eq_true p3; replace q3 := eq_true q3; obtain ⟨hy46_, hz46_⟩ := Kd.R_celln 0 HO130.out (0 : Int) (by omega) (of_decide_eq_true (by first | (with_reducible assumption) | assumption)); (try simp only [Int.reduceToNat, Int.toNat_zero, Int.toNat_ofNat, Nat.reduceMul, Nat.zero_mul, Nat.zero_add] at hy46_ hz46_); (try rw [show ((0 : Int)).toNat = 0 from rfl] at hy46_); (try rw [show ((0 : Int)).toNat = 0 from rfl] at hz46_); have HP46 := Kd.R_putg HO130.out (0 : Int) 1) | ((with_reducible refine gate_store (t := 3) (p := 10) rfl ?_); refine store_event (t := 3) (p := 10) (v := ?vo_w47) (w1 := (w44.setCell ⟨go3, (0 : Int).toNat, none⟩ (.int .i64 1))) ?hg ?ho ?hn ?hr ?_; (case ho => rfl); (case hg => rfl); (case hn => rfl); (case hr => first | (go_simp; done) | (go_simp; rfl)); intro w47 hw; have hg : w44.grownBy w47 (some go3) := (by rw [hw]; exact HP46.2); have hp_ : Kd.R (Kd.int .i64) 3 w47 w.heap.size (fun _ => True) (.slice (some ⟨go3, 0, none⟩) y128.length co3) y131 := (by rw [hw, Ny131.out]; exact HP46.1); clear HP46; have n0_ := Aside0.mk (hp_); have n1_ := Aside0.mk ((by rw [hw]; exact below_set (HB.out) GB3.out : Below w.heap.size w w47)); clear HO130; clear HB; have HO130 := n0_; have HB := n1_; clear n0_ n1_; clear hg hw hp_) | ((with_reducible refine gate_callee (f := 10) rfl ?_); refine goesL_ (some 13) rfl rfl Try.func10 (by kernel_rfl) rfl #[.slice none 0 0, .slice (some ⟨go3, 0, none⟩) y131.length co3] rfl (by (try simp only [List.map_toArray, List.map_cons, List.map_nil]); first | done | (rw [show y131.length = y128.length from (Kd.R_reads' HO130.out).1.symm] <;> rfl) | rfl | (simp only [List.length_drop, List.length_take]; rfl)) ?_; (refine (huff_Put.calls k _ _ ([] : List (S54)) _ _ y131 t132 t133 _ ?side1 ?side2 ?side3 ?side4 A4.out).mono ?_); (case side1 => exact Kd.C_nil _ _); (case side2 => exact Nat.le_refl _); (case side3 => repeat (first | exact (Kd.R_reads' HO130.out).2.2 | (with_reducible refine Kd.C_alloc ?_ _) | (with_reducible refine Kd.C_drewN ?_ _) | (with_reducible refine Kd.C_drew ?_))); (case side4 => rw [show y131.length = y128.length from (Kd.R_reads' HO130.out).1.symm]; exact (Kd.R_reads' HO130.out).2.1); rintro e w48 ⟨rfl, hb⟩; refine ⟨_, rfl, ?_⟩; have n0_ := Aside0.mk (Kd.R_below (by (with_reducible repeat (first | apply Kd.R_alloc | apply Kd.R_drewN | apply Kd.R_drew)); exact HO130.out) hb); have n1_ := Aside0.mk (below_step (by repeat (first | (with_reducible first | exact HB.out | apply below_alloc | apply pw_below_drewN | apply below_drew1) | exact HB.out)) hb); clear HO130; clear HB; have HO130 := n0_; have HB := n1_; clear n0_ n1_; (try clear hb); (try clear hb2); (try clear hk); (try clear hi)) | ((with_reducible refine gate_dst (N := 19) rfl ?_); (try (refine gate_guard (by rfl) ?_; dsimp only)); refine Kd.R_lit k54 _ 54 ?hg (N := 19) ?hd (xs := ([(⟨0, 0⟩ : S54), (⟨0, 0⟩ : S54)] : List (S54))) (inner := [.int .i64 0, .int .u64 0, .int .i64 0, .int .u64 0]) (ok := fun _ => True) (okp := fun _ => True) ?hr ?hp (fun _ hk => hk) trivial (Below.refl _ _) (Nat.le_refl _) (by simp) ?_; (case hd => rfl); (case hg => rfl); (case hr => first | (go_simp; done) | (go_simp; rfl)); (case hp => exact (Reps.c2 (show Kd.M k54 _ _ _ (⟨0, 0⟩ : S54) [.int .i64 0, .int .u64 0] from (k54_mkM _ _ _ (⟨0, 0⟩ : S54) )) (Reps.c2 (show Kd.M k54 _ _ _ (⟨0, 0⟩ : S54) [.int .i64 0, .int .u64 0] from (k54_mkM _ _ _ (⟨0, 0⟩ : S54) )) (Reps.none _ _)))); intro v135 w49 ho50 hb hg_ hnew_; clear hg_ hnew_; (first | rw [← Ny134.out] at ho50 | (simp only [Int.reduceToNat] at ho50; rw [← Ny134.out] at ho50)); have n0_ := Aside0.mk (Kd.R_below (by (with_reducible repeat (first | apply Kd.R_alloc | apply Kd.R_drewN | apply Kd.R_drew)); exact HO130.out) hb); have n1_ := Aside0.mk (Kd.R_lower ho50 (below_size (by repeat (first | (with_reducible first | exact HB.out | apply below_alloc | apply pw_below_drewN | apply below_drew1) | exact HB.out)))); have n2_ := Aside0.mk (below_step (by repeat (first | (with_reducible first | exact HB.out | apply below_alloc | apply pw_below_drewN | apply below_drew1) | exact HB.out)) hb); clear HO130; clear HB; have HO130 := n0_; have HO136 := n1_; have HB := n2_; clear n0_ n1_ n2_; clear hb ho50; obtain ⟨Ao51, co51, eo51⟩ := Kd.R_slice HO136.out; subst eo51) | ((with_reducible refine gate_callee (f := 10) rfl ?_); refine goesL_ (some 21) rfl rfl Try.func10 (by kernel_rfl) rfl #[.slice Ao51 y134.length co51, .slice (some ⟨go3, 0, none⟩) y131.length co3] rfl (by (try simp only [List.map_toArray, List.map_cons, List.map_nil]); first | done | (rw [show y131.length = y128.length from (Kd.R_reads' HO130.out).1.symm] <;> rfl) | rfl | (simp only [List.length_drop, List.length_take]; rfl)) ?_; (with_reducible refine (huff_Put.calls k _ _ y134 _ _ y131 t137 t138 _ ?side1 ?side2 ?side3 ?side4 A5.out).mono ?_); (case side1 => repeat (first | exact (Kd.R_reads' HO136.out).2.2 | (with_reducible refine Kd.C_alloc ?_ _) | (with_reducible refine Kd.C_drewN ?_ _) | (with_reducible refine Kd.C_drew ?_))); (case side2 => exact (Kd.R_reads' HO136.out).2.1); (case side3 => repeat (first | exact (Kd.R_reads' HO130.out).2.2 | (with_reducible refine Kd.C_alloc ?_ _) | (with_reducible refine Kd.C_drewN ?_ _) | (with_reducible refine Kd.C_drew ?_))); (case side4 => rw [show y131.length = y128.length from (Kd.R_reads' HO130.out).1.symm]; exact (Kd.R_reads' HO130.out).2.1); rintro e w52 ⟨rfl, hb⟩; refine ⟨_, rfl, ?_⟩; have n0_ := Aside0.mk (Kd.R_below (by (with_reducible repeat (first | apply Kd.R_alloc | apply Kd.R_drewN | apply Kd.R_drew)); exact HO130.out) hb); have n1_ := Aside0.mk (Kd.R_below (by (with_reducible repeat (first | apply Kd.R_alloc | apply Kd.R_drewN | apply Kd.R_drew)); exact HO136.out) hb); have n2_ := Aside0.mk (below_step (by repeat (first | (with_reducible first | exact HB.out | apply below_alloc | apply pw_below_drewN | apply below_drew1) | exact HB.out)) hb); clear HO130; clear HO136; clear HB; have HO130 := n0_; have HO136 := n1_; have HB := n2_; clear n0_ n1_ n2_; (try clear hb); (try clear hb2); (try clear hk); (try clear hi)) | ((with_reducible refine gate_callee (f := 12) rfl ?_); refine goesL_ (some 27) rfl rfl Try.func12 (by kernel_rfl) rfl #[.string t137, .int .i64 2, .slice (some ⟨go3, 0, none⟩) y131.length co3] rfl (by (try simp only [List.map_toArray, List.map_cons, List.map_nil]); first | done | (rw [show y131.length = y128.length from (Kd.R_reads' HO130.out).1.symm] <;> rfl) | rfl | (simp only [List.length_drop, List.length_take]; rfl)) ?_; (with_reducible refine (huff_Get.calls t137 2 _ _ y131 t139 t140 _ ?side1 ?side2 A6.out).mono ?_); (case side1 => repeat (first | exact (Kd.R_reads' HO130.out).2.2 | (with_reducible refine Kd.C_alloc ?_ _) | (with_reducible refine Kd.C_drewN ?_ _) | (with_reducible refine Kd.C_drew ?_))); (case side2 => rw [show y131.length = y128.length from (Kd.R_reads' HO130.out).1.symm]; exact (Kd.R_reads' HO130.out).2.1); rintro e w53 ⟨v141, rfl, ho0, hb⟩; refine ⟨_, rfl, ?_⟩; have n0_ := Aside0.mk (Kd.R_below (by (with_reducible repeat (first | apply Kd.R_alloc | apply Kd.R_drewN | apply Kd.R_drew)); exact HO130.out) hb); have n1_ := Aside0.mk (Kd.R_elder' (by (with_reducible repeat (first | apply Kd.R_alloc | apply Kd.R_drewN | apply Kd.R_drew)); exact HO136.out) (Kd.R_base ho0) hb); have n2_ := Aside0.mk (Kd.R_lower (Kd.R_new' ho0 (Kd.R_lt (by (with_reducible repeat (first | apply Kd.R_alloc | apply Kd.R_drewN | apply Kd.R_drew)); exact HO136.out))) (below_size (by repeat (first | (with_reducible first | exact HB.out | apply below_alloc | apply pw_below_drewN | apply below_drew1) | exact HB.out)))); have n3_ := Aside0.mk (below_step (by repeat (first | (with_reducible first | exact HB.out | apply below_alloc | apply pw_below_drewN | apply below_drew1) | exact HB.out)) hb); clear HO130; clear HO136; clear HB; have HO130 := n0_; have HO136 := n1_; have HO142 := n2_; have HB := n3_; clear n0_ n1_ n2_ n3_; (try clear hb); (try clear hb2); (try clear hk); (try clear hi); (try clear ho0)))
        go_ret
        exact ⟨by first | rfl | (simp [errW_none, errW_some] <;> rfl) | (simp [*, errW_none, errW_some] <;> rfl), by repeat (first | (with_reducible first | exact HB.out | apply below_alloc | apply pw_below_drewN | apply below_drew1) | exact HB.out)⟩
    · rw [if_neg c2] at H
      exact absurd H (by simp)
  · rw [if_neg c1] at H
    exact absurd H (by simp)

end Go.Proofs.Ytnakjencodicmaa.PA

-- ---- Uhf
/- Layer 11's example. No program in sight. -/
namespace Go.Proofs.Ytnakjencodicmaa.PA
set_option maxRecDepth 100000
set_option linter.unusedVariables false
set_option linter.unusedSimpArgs false
open Go.RowKit Go.Proofs.YtnakjencodicmaaW.PrintWords Go.Proofs.YtnakjencodicmaaW.PrintLast Go.Proofs.YtnakjencodicmaaW.PrintMore
theorem awake11 : Ev (fun k => wringerlaw11_awake.f k) true := Ev.of wringerlaw11_awake.mono (k := 3) (by kernel_rfl)
end Go.Proofs.Ytnakjencodicmaa.PA

-- ---- PAx1

namespace Go.Proofs.Ytnakjencodicmaa.PA
open Go.RowKit Go.Proofs.YtnakjencodicmaaW.PrintWords Go.Proofs.YtnakjencodicmaaW.PrintLast Go.Proofs.YtnakjencodicmaaW.PrintMore
attribute [local go_sem] max2_int min2_int max_two min_two max_three min_three max_four min_four   -- for this text's walks alone
set_option linter.unusedVariables false
set_option linter.unusedSimpArgs false

theorem eqA54 (d : Nat) (w : World) (x0 y0 : Int) (x1 y1 : Int) :
    (Op.equalIn (d + 2) 54 (.agg #[.int .i64 x0, .int .u64 x1]) (.agg #[.int .i64 y0, .int .u64 y1])).run Try.prog w = .ok (x0 == y0 && (x1 == y1)) w := by
  refine eqA_of Try.underlying54 (by kernel_rfl) ?_
  refine eqf_cons (by rfl) (by go_simp; rfl) (by go_simp; rfl) (by go_simp) ?_
  exact eqf_last (by rfl) (by go_simp; rfl) (by go_simp; rfl) (by go_simp)
end Go.Proofs.Ytnakjencodicmaa.PA

-- ---- PAx37

namespace Go.Proofs.Ytnakjencodicmaa.PA
open Go.RowKit Go.Proofs.YtnakjencodicmaaW.PrintWords Go.Proofs.YtnakjencodicmaaW.PrintLast Go.Proofs.YtnakjencodicmaaW.PrintMore
attribute [local go_sem] max2_int min2_int max_two min_two max_three min_three max_four min_four   -- for this text's walks alone
set_option linter.unusedVariables false
set_option linter.unusedSimpArgs false

attribute [local go_sem high] eqA54
/-! ### wringerref7_SameParts: function 15 -/
def wringerref7_SameParts.l0 : Nat → List (S54) → List (S54) → Int → Option (Bool)
  | 0, _, _, _ => none
  | k + 1, x0, x1, x5 => if x5 < (x0.length : Int) then (if 0 ≤ x5 then (if x5 < (x1.length : Int) then (if (!(((rd_T54 x0 x5).f0) == ((rd_T54 x1 x5).f0)) || (!(((rd_T54 x0 x5).f1) == ((rd_T54 x1 x5).f1)))) = true then (some false) else (wringerref7_SameParts.l0 k x0 x1 (wrap64 (x5 + 1)))) else (none)) else (none)) else (some true)
def wringerref7_SameParts.f (k : Nat) (l0 : List (S54)) (l1 : List (S54)) : Option (Bool) := if (l0.length : Int) = (l1.length : Int) then (wringerref7_SameParts.l0 k l0 l1 0) else (some false)
theorem wringerref7_SameParts.mono_l : ∀ k, (∀ y0 y1 y2, LeO (wringerref7_SameParts.l0 k y0 y1 y2) (wringerref7_SameParts.l0 (k + 1) y0 y1 y2))
  | 0 => fun _ _ _ r h => by simp [wringerref7_SameParts.l0] at h
  | k + 1 => by
    have ih0 := wringerref7_SameParts.mono_l k
    · intro y0 y1 y2
      unfold wringerref7_SameParts.l0
      repeat' first
      | (with_reducible exact ih0 _ _ _)
      | (with_reducible exact LeO.refl _)
      | (with_reducible exact LeO.none _)
      | (with_reducible refine LeO.ite ?_ ?_)
      | (with_reducible refine LeO.bind ?_ (fun _ => ?_))
      | exact ih0 _ _ _
      | exact LeO.none _
      | refine LeO.ite ?_ ?_
      | refine LeO.bind ?_ (fun _ => ?_)
theorem wringerref7_SameParts.mono : ∀ a0 a1 k, LeO (wringerref7_SameParts.f k a0 a1) (wringerref7_SameParts.f (k + 1) a0 a1) := by
  intro a0 a1 k
  have ih0 := wringerref7_SameParts.mono_l k
  unfold wringerref7_SameParts.f
  repeat' first
      | (with_reducible exact ih0 _ _ _)
      | (with_reducible exact LeO.refl _)
      | (with_reducible exact LeO.none _)
      | (with_reducible refine LeO.ite ?_ ?_)
      | (with_reducible refine LeO.bind ?_ (fun _ => ?_))
      | exact ih0 _ _ _
      | exact LeO.none _
      | refine LeO.ite ?_ ?_
      | refine LeO.bind ?_ (fun _ => ?_)
set_option maxHeartbeats 8000000 in
set_option maxRecDepth 100000 in
theorem wringerref7_SameParts.calls (k : Nat) (A0 : Option Addr) (c0 : Nat) (l0 : List (S54)) (A1 : Option Addr) (c1 : Nat) (l1 : List (S54)) (r : Bool) (w : World) (hr0 : Kd.C k54 w A0 l0.length l0) (hc0 : l0.length ≤ c0) (hr1 : Kd.C k54 w A1 l1.length l1) (hc1 : l1.length ≤ c1) (h : wringerref7_SameParts.f k l0 l1 = some r) :
    Calls Try.prog 15 #[.slice A0 l0.length c0, .slice A1 l1.length c1] w fun e w' => e = .returned (.bool r) ∧ Drawn0 w w' := by
  have hu54 := Try.underlying54
  have HR0 := Aside0.mk hr0
  have HC0 := Aside0.mk hc0
  clear hr0 hc0
  have HR1 := Aside0.mk hr1
  have HC1 := Aside0.mk hc1
  clear hr1 hc1
  have H : (if (l0.length : Int) = (l1.length : Int) then (wringerref7_SameParts.l0 k l0 l1 0) else (some false)) = some r := h
  clear h
  by_cases c3 : (l0.length : Int) = (l1.length : Int)
  · rw [if_pos c3] at H
    have c3b0 : ((l0.length : Int) == (l1.length : Int)) = true := beq_iff_eq.mpr c3
    have c3b1 : ((l0.length : Int) != (l1.length : Int)) = false := bne_eq_false_iff_eq.mpr c3
    have c3b2 : (l0.length == l1.length) = true := by first | simpa using c3 | (simp at c3 ⊢; omega)
    clear c3
    have H' := Aside0.mk H
    clear H
    go_enter Try.func15, Try.ntmps15
    go_wp2
    repeat (go_quiet (fail); try go_wp2)
    go_loopg [5] k (fun kq v5 w' => ∃ (x5_1 : Int), v5 = .int .i64 x5_1 ∧ Aside0 (wringerref7_SameParts.l0 kq l0 l1 x5_1 = some r) ∧ Aside0 (kq ≤ k) ∧ Drawn0 w w')
    case atStart => exact ⟨(0), (by first | rfl | (simp; done) | (simp [*]; done)), H', ⟨Nat.le_refl _⟩, by repeat (first | exact Drawn0.refl _ | apply Drawn0.step)⟩
    case round =>
      clear H'
      try clear c1
      try clear p2
      try clear c3
      try clear c3b0
      try clear c3b1
      try clear c3b2
      obtain ⟨x5_1, rfl, HA, HK1, ⟨m1, rfl⟩⟩ := hrel
      cases gk with
      | zero => exact absurd HA.out (by simp [wringerref7_SameParts.l0])
      | succ k1 =>
        have H := HA.out
        clear HA
        simp only [wringerref7_SameParts.l0] at H
        by_cases c4 : x5_1 < (l0.length : Int)
        · rw [if_pos c4] at H
          have c4b0 : decide (x5_1 < (l0.length : Int)) = true := decide_eq_true c4
          clear c4
          by_cases c5 : 0 ≤ x5_1
          · rw [if_pos c5] at H
            have c5b0 : decide (0 ≤ x5_1) = true := decide_eq_true c5
            clear c5
            by_cases c6 : x5_1 < (l1.length : Int)
            · rw [if_pos c6] at H
              have c6b0 : decide (x5_1 < (l1.length : Int)) = true := decide_eq_true c6
              clear c6
              by_cases c7 : (!(((rd_T54 l0 x5_1).f0) == ((rd_T54 l1 x5_1).f0)) || (!(((rd_T54 l0 x5_1).f1) == ((rd_T54 l1 x5_1).f1)))) = true
              · rw [if_pos c7] at H
                have c7b0 : (!(((rd_T54 l0 x5_1).f0) == ((rd_T54 l1 x5_1).f0)) || (!(((rd_T54 l0 x5_1).f1) == ((rd_T54 l1 x5_1).f1)))) = true := c7
                clear c7
                obtain rfl := Option.some.inj H
                have p184 : 0 ≤ (x5_1 : Int) := of_decide_eq_true (by first | (with_reducible assumption) | assumption)
                have q184 : x5_1 < (l0.length : Int) := of_decide_eq_true (by first | (with_reducible assumption) | assumption)
                obtain ⟨ad184, e184, hx184_0, hx184_1⟩ := at_T54 HR0.out x5_1 p184 q184
                cases e184
                replace p184 := eq_true p184
                replace q184 := eq_true q184
                have p185 : 0 ≤ (x5_1 : Int) := of_decide_eq_true (by first | (with_reducible assumption) | assumption)
                have q185 : x5_1 < (l1.length : Int) := of_decide_eq_true (by first | (with_reducible assumption) | assumption)
                obtain ⟨ad185, e185, hx185_0, hx185_1⟩ := at_T54 HR1.out x5_1 p185 q185
                cases e185
                replace p185 := eq_true p185
                replace q185 := eq_true q185
                go_wp2
                repeat (go_quiet (fail); try go_wp2)
                go_ret
                exact ⟨by first | rfl | (simp; done) | (simp [*]; done), by repeat (first | exact Drawn0.refl _ | apply Drawn0.step)⟩
              · rw [if_neg c7] at H
                have c7b0 : (!(((rd_T54 l0 x5_1).f0) == ((rd_T54 l1 x5_1).f0)) || (!(((rd_T54 l0 x5_1).f1) == ((rd_T54 l1 x5_1).f1)))) = false := by simpa using c7
                clear c7
                have H' := Aside0.mk H
                clear H
                have p184 : 0 ≤ (x5_1 : Int) := of_decide_eq_true (by first | (with_reducible assumption) | assumption)
                have q184 : x5_1 < (l0.length : Int) := of_decide_eq_true (by first | (with_reducible assumption) | assumption)
                obtain ⟨ad184, e184, hx184_0, hx184_1⟩ := at_T54 HR0.out x5_1 p184 q184
                cases e184
                replace p184 := eq_true p184
                replace q184 := eq_true q184
                have p185 : 0 ≤ (x5_1 : Int) := of_decide_eq_true (by first | (with_reducible assumption) | assumption)
                have q185 : x5_1 < (l1.length : Int) := of_decide_eq_true (by first | (with_reducible assumption) | assumption)
                obtain ⟨ad185, e185, hx185_0, hx185_1⟩ := at_T54 HR1.out x5_1 p185 q185
                cases e185
                replace p185 := eq_true p185
                replace q185 := eq_true q185
                go_wp2
                repeat (go_quiet (fail); try go_wp2)
                go_roundg k1
                case measure => have := HK1.out; omega
                case rel => exact ⟨(wrap64 (x5_1 + 1)), (by first | rfl | (simp; done) | (simp [*]; done)), H', ⟨by have := HK1.out; omega⟩, by repeat (first | exact Drawn0.refl _ | apply Drawn0.step)⟩
            · rw [if_neg c6] at H
              exact absurd H (by simp)
          · rw [if_neg c5] at H
            exact absurd H (by simp)
        · rw [if_neg c4] at H
          have c4b0 : decide (x5_1 < (l0.length : Int)) = false := decide_eq_false c4
          clear c4
          obtain rfl := Option.some.inj H
          go_wp2
          repeat (go_quiet (fail); try go_wp2)
          go_ret
          exact ⟨by first | rfl | (simp; done) | (simp [*]; done), by repeat (first | exact Drawn0.refl _ | apply Drawn0.step)⟩
  · rw [if_neg c3] at H
    have c3b0 : ((l0.length : Int) == (l1.length : Int)) = false := beq_eq_false_iff_ne.mpr c3
    have c3b1 : ((l0.length : Int) != (l1.length : Int)) = true := bne_iff_ne.mpr c3
    have c3b2 : (l0.length == l1.length) = false := by first | simpa using c3 | (simp at c3 ⊢; omega)
    obtain rfl := Option.some.inj H
    go_enter Try.func15, Try.ntmps15
    go_wp2
    repeat (go_quiet (fail); try go_wp2)
    go_ret
    exact ⟨by first | rfl | (simp; done) | (simp [*]; done), by repeat (first | exact Drawn0.refl _ | apply Drawn0.step)⟩

end Go.Proofs.Ytnakjencodicmaa.PA

-- ---- PAx48

namespace Go.Proofs.Ytnakjencodicmaa.PA
open Go.RowKit Go.Proofs.YtnakjencodicmaaW.PrintWords Go.Proofs.YtnakjencodicmaaW.PrintLast Go.Proofs.YtnakjencodicmaaW.PrintMore
attribute [local go_sem] max2_int min2_int max_two min_two max_three min_three max_four min_four   -- for this text's walks alone
set_option linter.unusedVariables false
set_option linter.unusedSimpArgs false

/-! ### wringerlaw8_Freq: function 20 -/
def wringerlaw8_Freq.l0 : Nat → List Int → List Int → Int → Option (List Int)
  | 0, _, _, _ => none
  | k + 1, x0, x3, x4 => if (wrap64 (x4 + 1)) < (x0.length : Int) then (if 0 ≤ x4 then (if x4 < (x0.length : Int) then (if 0 ≤ (wrap64 (x4 + 1)) then (if 0 ≤ (Int.tmod (IntKind.u16.wrap (Int.tdiv (rd x0 x4) 65)) 16) then (if 0 ≤ (Int.tmod (wrap64 (rd x0 x4)) 65) then (if (Int.tmod (wrap64 (rd x0 x4)) 65) < (x3.length : Int) then (wringerlaw8_Freq.l0 k x0 (x3.set ((Int.tmod (wrap64 (rd x0 x4)) 65) : Int).toNat (shr .i64 (wrap64 (rd x0 (wrap64 (x4 + 1)))) (Int.tmod (IntKind.u16.wrap (Int.tdiv (rd x0 x4) 65)) 16))) (wrap64 (x4 + 2))) else (none)) else (none)) else (none)) else (none)) else (none)) else (none)) else (some x3)
def wringerlaw8_Freq.f (k : Nat) (l0 : List Int) : Option (List Int) := if 65 ≤ 35184372088832 then (wringerlaw8_Freq.l0 k l0 (List.replicate 65 0) 0) else (none)
theorem wringerlaw8_Freq.mono_l : ∀ k, (∀ y0 y1 y2, LeO (wringerlaw8_Freq.l0 k y0 y1 y2) (wringerlaw8_Freq.l0 (k + 1) y0 y1 y2))
  | 0 => fun _ _ _ r h => by simp [wringerlaw8_Freq.l0] at h
  | k + 1 => by
    have ih0 := wringerlaw8_Freq.mono_l k
    · intro y0 y1 y2
      unfold wringerlaw8_Freq.l0
      repeat' first
      | (with_reducible exact ih0 _ _ _)
      | (with_reducible exact LeO.refl _)
      | (with_reducible exact LeO.none _)
      | (with_reducible refine LeO.ite ?_ ?_)
      | (with_reducible refine LeO.bind ?_ (fun _ => ?_))
      | exact ih0 _ _ _
      | exact LeO.none _
      | refine LeO.ite ?_ ?_
      | refine LeO.bind ?_ (fun _ => ?_)
theorem wringerlaw8_Freq.mono : ∀ a0 k, LeO (wringerlaw8_Freq.f k a0) (wringerlaw8_Freq.f (k + 1) a0) := by
  intro a0 k
  have ih0 := wringerlaw8_Freq.mono_l k
  unfold wringerlaw8_Freq.f
  repeat' first
      | (with_reducible exact ih0 _ _ _)
      | (with_reducible exact LeO.refl _)
      | (with_reducible exact LeO.none _)
      | (with_reducible refine LeO.ite ?_ ?_)
      | (with_reducible refine LeO.bind ?_ (fun _ => ?_))
      | exact ih0 _ _ _
      | exact LeO.none _
      | refine LeO.ite ?_ ?_
      | refine LeO.bind ?_ (fun _ => ?_)
def wringerlaw8_Freq.T5 : Bool × List (List Nat × List Nat) := (true, [([], []), ([], []), ([], []), ([1, 2], [1, 2]), ([3], [3]), ([4], [4]), ([5], [5]), ([], []), ([], []), ([8], [8]), ([7, 9], [7, 9]), ([10], [10]), ([11], [11]), ([], []), ([], []), ([13, 14], [13, 14]), ([15], [15]), ([16], [16]), ([17], [17]), ([12, 18], [12, 18]), ([0, 6, 0, 1, 2, 3, 4, 5, 6, 7, 8, 9, 10, 11, 12, 13, 14, 15, 16, 17, 18, 19], [0, 6]), ([20, 19, 0, 1, 2, 3, 4, 5, 6, 7, 8, 9, 10, 11, 12, 13, 14, 15, 16, 17, 18, 19], [19, 20])])
def wringerlaw8_Freq.B5 : List Nat := [0, 0, 0, 6, 14, 30, 62, 0, 0, 256, 896, 1920, 3968, 0, 0, 24576, 57344, 122880, 253952, 524160, 1048575, 2097151]
theorem wringerlaw8_Freq.tab5 : rtab .any (opsOf Try.f20 5) = wringerlaw8_Freq.T5 := by kernel_rfl
theorem wringerlaw8_Freq.bits5 : waitsOk wringerlaw8_Freq.T5.2 wringerlaw8_Freq.B5 = true := by kernel_rfl
set_option maxHeartbeats 8000000 in
set_option maxRecDepth 100000 in
theorem wringerlaw8_Freq.calls (k : Nat) (A0 : Option Addr) (c0 : Nat) (l0 : List Int) (r : List Int) (w : World) (hr0 : Kd.C (Kd.int .u16) w A0 l0.length l0) (hc0 : l0.length ≤ c0) (h : wringerlaw8_Freq.f k l0 = some r) :
    Calls Try.prog 20 #[.slice A0 l0.length c0] w fun e w' => ∃ v0_ : Value, e = .returned (v0_) ∧ Kd.R (Kd.int .i64) 3 w' w.heap.size (fun _ => True) v0_ r ∧ Below w.heap.size w w' := by
  have HR0 := Aside0.mk hr0
  have HC0 := Aside0.mk hc0
  clear hr0 hc0
  have HB := Aside0.mk (Below.refl w.heap.size w)
  have H : (if 65 ≤ 35184372088832 then (wringerlaw8_Freq.l0 k l0 (List.replicate 65 0) 0) else (none)) = some r := h
  clear h
  by_cases c2 : 65 ≤ 35184372088832
  · rw [if_pos c2] at H
    have c2b0 := eq_true c2
    have c2b1 : decide (65 ≤ 35184372088832) = true := decide_eq_true c2
    clear c2
    obtain ⟨y245, hy245⟩ : ∃ y_ : List Int, y_ = (List.replicate 65 0) := ⟨_, rfl⟩
    replace H : (wringerlaw8_Freq.l0 k l0 y245 0) = some r := by first | (rw [hy245]; with_reducible exact H) | (have H2_ := (Option.bind_some _ _).symm.trans H; rw [hy245]; with_reducible exact H2_) | (have H2_ := (Option.bind_some _ _).symm.trans H; with_reducible exact H2_) | with_reducible exact H | (rw [hy245]; exact H) | exact H
    have Ny245 := Aside0.mk hy245
    clear hy245
    have H' := Aside0.mk H
    clear H
    go_enter Try.func20, Try.ntmps20
    go_wp2_with (first | ((with_reducible refine gate_dst (N := 5) rfl ?_); refine Kd.R_make (Kd.int .i64) _ 3 rfl (N := 5) rfl 23 _ _ rfl 65 rfl rfl Try.underlying23 (.int .i64 0) 8 info3 rfl (by decide) (by omega) 0 (ok := fun _ => True) (okp := fun _ => True) rfl (fun _ hk => hk) trivial (by omega) (by omega) (Below.refl _ _) (Nat.le_refl _) ?_; intro v246 w3 ho4 hb hg_ hnew_; clear hg_ hnew_; (first | rw [← Ny245.out] at ho4 | (simp only [Int.reduceToNat] at ho4; rw [← Ny245.out] at ho4)); have n0_ := Aside0.mk (Kd.R_lower ho4 (below_size (by repeat (first | (with_reducible first | exact HB.out | apply below_alloc | apply pw_below_drewN | apply below_drew1) | exact HB.out)))); have n1_ := Aside0.mk (below_step (by repeat (first | (with_reducible first | exact HB.out | apply below_alloc | apply pw_below_drewN | apply below_drew1) | exact HB.out)) hb); clear HB; have HO247 := n0_; have HB := n1_; clear n0_ n1_; clear hb ho4))
    go_loopg [4] k (fun kq v4 w' => ∃ (x3_1 : List Int) (x4_1 : Int), v4 = .int .i64 x4_1 ∧ Aside0 (wringerlaw8_Freq.l0 kq l0 x3_1 x4_1 = some r) ∧ Aside0 (kq ≤ k) ∧ Aside0 (Kd.R (Kd.int .i64) 3 w' w.heap.size (fun _ => True) v246 x3_1) ∧ Aside0 (Below w.heap.size w w'))
    case atStart => exact ⟨(y245), (0), (by first | rfl | (simp; done) | (simp [*]; done)), H', ⟨Nat.le_refl _⟩, ⟨by (with_reducible repeat (first | apply Kd.R_alloc | apply Kd.R_drewN | apply Kd.R_drew)); exact HO247.out⟩, ⟨by repeat (first | (with_reducible first | exact HB.out | apply below_alloc | apply pw_below_drewN | apply below_drew1) | exact HB.out)⟩⟩
    case round =>
      clear H'
      try clear c2
      try clear c2b0
      try clear c2b1
      try clear p2
      obtain ⟨x3_1, x4_1, rfl, HA, HK1, HO_3, HB⟩ := hrel
      cases gk with
      | zero => exact absurd HA.out (by simp [wringerlaw8_Freq.l0])
      | succ k1 =>
        have H := HA.out
        clear HA
        simp only [wringerlaw8_Freq.l0] at H
        by_cases c5 : (wrap64 (x4_1 + 1)) < (l0.length : Int)
        · rw [if_pos c5] at H
          have c5b0 : decide ((wrap64 (x4_1 + 1)) < (l0.length : Int)) = true := decide_eq_true c5
          clear c5
          by_cases c6 : 0 ≤ x4_1
          · rw [if_pos c6] at H
            have c6b0 : decide (0 ≤ x4_1) = true := decide_eq_true c6
            clear c6
            by_cases c7 : x4_1 < (l0.length : Int)
            · rw [if_pos c7] at H
              have c7b0 : decide (x4_1 < (l0.length : Int)) = true := decide_eq_true c7
              clear c7
              obtain ⟨ji8, hji8⟩ : ∃ j_ : Int, (wrap64 (x4_1 + 1)) = j_ := ⟨_, rfl⟩
              replace H : (if 0 ≤ (ji8) then (if 0 ≤ (Int.tmod (IntKind.u16.wrap (Int.tdiv (rd l0 x4_1) 65)) 16) then (if 0 ≤ (Int.tmod (wrap64 (rd l0 x4_1)) 65) then (if (Int.tmod (wrap64 (rd l0 x4_1)) 65) < (x3_1.length : Int) then (wringerlaw8_Freq.l0 k1 l0 (x3_1.set ((Int.tmod (wrap64 (rd l0 x4_1)) 65) : Int).toNat (shr .i64 (wrap64 (rd l0 (ji8))) (Int.tmod (IntKind.u16.wrap (Int.tdiv (rd l0 x4_1) 65)) 16))) (wrap64 (x4_1 + 2))) else (none)) else (none)) else (none)) else (none)) = some r := by first | (rw [hji8] at H; exact H) | (simp only [hji8] at H ⊢; exact H)
              (try rw [hji8] at c5b0)
              have hji8w : (IntKind.i64.wrap (x4_1 + 1)) = ji8 := (i64_w _).trans hji8
              by_cases c9 : 0 ≤ (ji8)
              · rw [if_pos c9] at H
                have c9b0 : decide (0 ≤ (ji8)) = true := decide_eq_true c9
                clear c9
                obtain ⟨ji10, hji10⟩ : ∃ j_ : Int, (Int.tmod (IntKind.u16.wrap (Int.tdiv (rd l0 x4_1) 65)) 16) = j_ := ⟨_, rfl⟩
                replace H : (if 0 ≤ (ji10) then (if 0 ≤ (Int.tmod (wrap64 (rd l0 x4_1)) 65) then (if (Int.tmod (wrap64 (rd l0 x4_1)) 65) < (x3_1.length : Int) then (wringerlaw8_Freq.l0 k1 l0 (x3_1.set ((Int.tmod (wrap64 (rd l0 x4_1)) 65) : Int).toNat (shr .i64 (wrap64 (rd l0 (ji8))) (ji10))) (wrap64 (x4_1 + 2))) else (none)) else (none)) else (none)) = some r := by first | (rw [hji10] at H; exact H) | (simp only [hji10] at H ⊢; exact H)
                by_cases c11 : 0 ≤ (ji10)
                · rw [if_pos c11] at H
                  have c11b0 := eq_true c11
                  have c11b1 : decide (0 ≤ (ji10)) = true := decide_eq_true c11
                  clear c11
                  obtain ⟨ji12, hji12⟩ : ∃ j_ : Int, (shr .i64 (wrap64 (rd l0 (ji8))) (ji10)) = j_ := ⟨_, rfl⟩
                  replace H : (if 0 ≤ (Int.tmod (wrap64 (rd l0 x4_1)) 65) then (if (Int.tmod (wrap64 (rd l0 x4_1)) 65) < (x3_1.length : Int) then (wringerlaw8_Freq.l0 k1 l0 (x3_1.set ((Int.tmod (wrap64 (rd l0 x4_1)) 65) : Int).toNat (ji12)) (wrap64 (x4_1 + 2))) else (none)) else (none)) = some r := by first | (rw [hji12] at H; exact H) | (simp only [hji12] at H ⊢; exact H)
                  have hji12_ : ((wrap64 (rd l0 (ji8))) / 2 ^ min (ji10).toNat 64) = ji12 := hji12
                  have hji12z : (ji10) ≤ 64 → ((wrap64 (rd l0 (ji8))) / 2 ^ (ji10).toNat) = ji12 := shr_small hji12
                  obtain ⟨ji13, hji13⟩ : ∃ j_ : Int, (Int.tmod (wrap64 (rd l0 x4_1)) 65) = j_ := ⟨_, rfl⟩
                  replace H : (if 0 ≤ (ji13) then (if (ji13) < (x3_1.length : Int) then (wringerlaw8_Freq.l0 k1 l0 (x3_1.set ((ji13) : Int).toNat (ji12)) (wrap64 (x4_1 + 2))) else (none)) else (none)) = some r := by first | (rw [hji13] at H; exact H) | (simp only [hji13] at H ⊢; exact H)
                  by_cases c14 : 0 ≤ (ji13)
                  · rw [if_pos c14] at H
                    have c14b0 : decide (0 ≤ (ji13)) = true := decide_eq_true c14
                    clear c14
                    by_cases c15 : (ji13) < (x3_1.length : Int)
                    · rw [if_pos c15] at H
                      have c15b0 : decide ((ji13) < (x3_1.length : Int)) = true := decide_eq_true c15
                      clear c15
                      obtain ⟨y251, hy251⟩ : ∃ y_ : List Int, y_ = (x3_1.set ((ji13) : Int).toNat (ji12)) := ⟨_, rfl⟩
                      replace H : (wringerlaw8_Freq.l0 k1 l0 y251 (wrap64 (x4_1 + 2))) = some r := by first | (rw [hy251]; with_reducible exact H) | (have H2_ := (Option.bind_some _ _).symm.trans H; rw [hy251]; with_reducible exact H2_) | (have H2_ := (Option.bind_some _ _).symm.trans H; with_reducible exact H2_) | with_reducible exact H | (rw [hy251]; exact H) | exact H
                      have Ny251 := Aside0.mk hy251
                      clear hy251
                      have H' := Aside0.mk H
                      clear H
                      try go_wp2
                      have n0_ := Aside0.mk (Kd.R_drew HO_3.out)
                      have n1_ := Aside0.mk (below_drew1 HB.out)
                      clear HO_3
                      clear HB
                      have HO_3 := n0_
                      have HB := n1_
                      clear n0_ n1_
                      have p248 : 0 ≤ (x4_1 : Int) := of_decide_eq_true (by first | (with_reducible assumption) | assumption)
                      have q248 : x4_1 < (l0.length : Int) := of_decide_eq_true (by first | (with_reducible assumption) | assumption)
                      obtain ⟨ad248, e248, hx248_0⟩ := Kd.at_int HR0.out x4_1 p248 q248
                      have hw248_0 := hx248_0
                      cases e248
                      replace hx248_0 := (HB.out.cell (World.block_lt_of_cell? w _ hx248_0)).trans hx248_0
                      replace p248 := eq_true p248
                      replace q248 := eq_true q248
                      have p249 : 0 ≤ ((ji8) : Int) := of_decide_eq_true (by first | (with_reducible assumption) | assumption)
                      have q249 : (ji8) < (l0.length : Int) := of_decide_eq_true (by first | (with_reducible assumption) | assumption)
                      obtain ⟨ad249, e249, hx249_0⟩ := Kd.at_int HR0.out (ji8) p249 q249
                      have hw249_0 := hx249_0
                      obtain rfl : ad248 = ad249 := (by injection e249)
                      replace hx249_0 := (HB.out.cell (World.block_lt_of_cell? w _ hx249_0)).trans hx249_0
                      replace p249 := eq_true p249
                      replace q249 := eq_true q249
                      have p250 : 0 ≤ (x4_1 : Int) := of_decide_eq_true (by first | (with_reducible assumption) | assumption)
                      have q250 : x4_1 < (l0.length : Int) := of_decide_eq_true (by first | (with_reducible assumption) | assumption)
                      obtain ⟨ad250, e250, hx250_0⟩ := Kd.at_int HR0.out x4_1 p250 q250
                      have hw250_0 := hx250_0
                      obtain rfl : ad248 = ad250 := (by injection e250)
                      replace hx250_0 := (HB.out.cell (World.block_lt_of_cell? w _ hx250_0)).trans hx250_0
                      replace p250 := eq_true p250
                      replace q250 := eq_true q250
                      have p16 : 0 ≤ ((ji13) : Int) := of_decide_eq_true (by first | (with_reducible assumption) | assumption)
                      have q16 : ((ji13) : Int) < ((x3_1.length : Int) : Int) := of_decide_eq_true (by first | (with_reducible assumption) | assumption)
                      obtain ⟨go16, co16, eo16, gb16, gl16, cl16, HG16⟩ := Kd.R_form HO_3.out (by omega)
                      (first | cases eo16 | (injection eo16 with ea_ en_ ec_; (first | subst ea_ | (injection ea_ with ea_; subst ea_)); subst ec_; clear en_))
                      have GB16 := Aside0.mk gb16
                      have GG16 := Aside0.mk HG16
                      clear gb16 gl16 HG16
                      obtain ⟨hx16_0, hf16_0⟩ := Kd.R_celln 0 HO_3.out ((ji13) : Int) p16 q16
                      replace p16 := eq_true p16
                      replace q16 := eq_true q16
                      have HP18 := Kd.R_putn HO_3.out ((ji13) : Int) ji12
                      rw [← Ny251.out] at HP18
                      have HQ18 := Aside0.mk HP18
                      clear HP18
                      refine start_ (n := 22) (S := fun w' => w'.cell? (ad248.add (x4_1).toNat) = some (.int .u16 (rd l0 x4_1)) ∧ w'.cell? (ad248.add ((ji8)).toNat) = some (.int .u16 (rd l0 (ji8))) ∧ w'.cell? (ad248.add (x4_1).toNat) = some (.int .u16 (rd l0 x4_1))) (ds := [21]) #[false, false, false, false, false, false, false, false, false, false, false, false, false, false, false, false, false, false, false, false, false, false] (by kernel_rfl) rfl rfl ⟨((HB.out.cell (World.block_lt_of_cell? w _ hw248_0)).trans hw248_0), ((HB.out.cell (World.block_lt_of_cell? w _ hw249_0)).trans hw249_0), ((HB.out.cell (World.block_lt_of_cell? w _ hw250_0)).trans hw250_0)⟩ (fun hHeld => ?_); refine with_tabW wringerlaw8_Freq.tab5 wringerlaw8_Freq.bits5 (fun HT_ HW_ => ?_)
                      generalize wr.drew = w17 at HO_3 HB GG16 HQ18 hf16_0 hx16_0 hx248_0 hx249_0 hx250_0 hHeld ⊢
                      refine pure_ (i := 0) (N := some 13) (v := ?_) (a' := ?_) #[true, false, false, false, false, false, false, false, false, false, false, false, false, false, false, false, false, false, false, false, false, false] rfl rfl (any_of HT_.out (by kernel_rfl)) (fun _ _ _ h => h) (Or.inl ⟨by rfl, ?_⟩) ?_ ?_
                      rotate_left
                      · intro w'
                        go_simp
                        with_reducible rfl
                      rotate_left
                      · simp only [Act.put, List.setIfInBounds_toArray, List.set_cons_zero, List.set_cons_succ, i64_w, i32_w]
                        rfl
                      refine pure_ (i := 1) (N := some 14) (v := ?_) (a' := ?_) #[true, true, false, false, false, false, false, false, false, false, false, false, false, false, false, false, false, false, false, false, false, false] rfl rfl (any_of HT_.out (by kernel_rfl)) (fun _ _ _ h => h) (Or.inl ⟨by rfl, ?_⟩) ?_ ?_
                      rotate_left
                      · intro w'
                        go_simp
                        with_reducible rfl
                      rotate_left
                      · simp only [Act.put, List.setIfInBounds_toArray, List.set_cons_zero, List.set_cons_succ, i64_w, i32_w]
                        rfl
                      refine pure_ (i := 2) (N := some 15) (v := ?_) (a' := ?_) #[true, true, true, false, false, false, false, false, false, false, false, false, false, false, false, false, false, false, false, false, false, false] rfl rfl (any_of HT_.out (by kernel_rfl)) (fun _ _ _ h => h) (Or.inl ⟨by rfl, ?_⟩) ?_ ?_
                      rotate_left
                      · intro w'
                        go_simp
                        with_reducible rfl
                      rotate_left
                      · simp only [Act.put, List.setIfInBounds_toArray, List.set_cons_zero, List.set_cons_succ, i64_w, i32_w]
                        rfl
                      refine pure_ (i := 3) (N := some 16) (v := ?_) (a' := ?_) #[true, true, true, true, false, false, false, false, false, false, false, false, false, false, false, false, false, false, false, false, false, false] rfl rfl (any_of HT_.out (by kernel_rfl)) (fun _ _ _ h => h) (Or.inl ⟨by rfl, ?_⟩) ?_ ?_
                      rotate_left
                      · intro w'
                        go_simp
                        with_reducible rfl
                      rotate_left
                      · simp only [Act.put, List.setIfInBounds_toArray, List.set_cons_zero, List.set_cons_succ, i64_w, i32_w]
                        rfl
                      refine pure_ (i := 7) (N := some 20) (v := ?_) (a' := ?_) #[true, true, true, true, false, false, false, true, false, false, false, false, false, false, false, false, false, false, false, false, false, false] rfl rfl (any_of HT_.out (by kernel_rfl)) (fun _ _ _ h => h) (Or.inl ⟨by rfl, ?_⟩) ?_ ?_
                      rotate_left
                      · intro w'
                        go_simp
                        with_reducible rfl
                      rotate_left
                      · simp only [Act.put, List.setIfInBounds_toArray, List.set_cons_zero, List.set_cons_succ, i64_w, i32_w]
                        rfl
                      refine pure_ (i := 8) (N := some 21) (v := ?_) (a' := ?_) #[true, true, true, true, false, false, false, true, true, false, false, false, false, false, false, false, false, false, false, false, false, false] rfl rfl (any_of HT_.out (by kernel_rfl)) (fun _ _ _ h => h) (Or.inl ⟨by rfl, ?_⟩) ?_ ?_
                      rotate_left
                      · intro w'
                        go_simp
                        with_reducible rfl
                      rotate_left
                      · simp only [Act.put, List.setIfInBounds_toArray, List.set_cons_zero, List.set_cons_succ, i64_w, i32_w]
                        rfl
                      refine pure_ (i := 9) (N := some 22) (v := ?_) (a' := ?_) #[true, true, true, true, false, false, false, true, true, true, false, false, false, false, false, false, false, false, false, false, false, false] rfl rfl (any_of HT_.out (by kernel_rfl)) (fun _ _ _ h => h) (Or.inl ⟨by rfl, ?_⟩) ?_ ?_
                      rotate_left
                      · intro w'
                        go_simp
                        with_reducible rfl
                      rotate_left
                      · simp only [Act.put, List.setIfInBounds_toArray, List.set_cons_zero, List.set_cons_succ, i64_w, i32_w]
                        rfl
                      refine pure_ (i := 10) (N := some 23) (v := ?_) (a' := ?_) #[true, true, true, true, false, false, false, true, true, true, true, false, false, false, false, false, false, false, false, false, false, false] rfl rfl (any_of HT_.out (by kernel_rfl)) (fun _ _ _ h => h) (Or.inl ⟨by rfl, ?_⟩) ?_ ?_
                      rotate_left
                      · intro w'
                        go_simp
                        with_reducible rfl
                      rotate_left
                      · simp only [Act.put, List.setIfInBounds_toArray, List.set_cons_zero, List.set_cons_succ, i64_w, i32_w]
                        rfl
                      refine pure_ (i := 13) (N := some 26) (v := ?_) (a' := ?_) #[true, true, true, true, false, false, false, true, true, true, true, false, false, true, false, false, false, false, false, false, false, false] rfl rfl (any_of HT_.out (by kernel_rfl)) (fun _ _ _ h => h) (Or.inl ⟨by rfl, ?_⟩) ?_ ?_
                      rotate_left
                      · intro w'
                        go_simp
                        with_reducible rfl
                      rotate_left
                      · simp only [Act.put, List.setIfInBounds_toArray, List.set_cons_zero, List.set_cons_succ, i64_w, i32_w]
                        rfl
                      refine pure_ (i := 14) (N := some 27) (v := ?_) (a' := ?_) #[true, true, true, true, false, false, false, true, true, true, true, false, false, true, true, false, false, false, false, false, false, false] rfl rfl (any_of HT_.out (by kernel_rfl)) (fun _ _ _ h => h) (Or.inl ⟨by rfl, ?_⟩) ?_ ?_
                      rotate_left
                      · intro w'
                        go_simp
                        with_reducible rfl
                      rotate_left
                      · simp only [Act.put, List.setIfInBounds_toArray, List.set_cons_zero, List.set_cons_succ, i64_w, i32_w]
                        rfl
                      refine pure_ (i := 15) (N := some 28) (v := ?_) (a' := ?_) #[true, true, true, true, false, false, false, true, true, true, true, false, false, true, true, true, false, false, false, false, false, false] rfl rfl (any_of HT_.out (by kernel_rfl)) (fun _ _ _ h => h) (Or.inl ⟨by rfl, ?_⟩) ?_ ?_
                      rotate_left
                      · intro w'
                        go_simp
                        with_reducible rfl
                      rotate_left
                      · simp only [Act.put, List.setIfInBounds_toArray, List.set_cons_zero, List.set_cons_succ, i64_w, i32_w]
                        rfl
                      refine take_ (i := 4) (N := some 17) (v := ?_) (a' := ?_) #[true, true, true, true, true, false, false, true, true, true, true, false, false, true, true, true, false, false, false, false, false, false] rfl rfl (take_ofW HT_.out HW_.out (by kernel_rfl)) (fun _ _ _ h => h) (Or.inl ⟨by rfl, ?_⟩) hHeld ?_ ?_
                      rotate_left
                      · rintro w' ⟨s0, s1, s2⟩
                        go_simp
                        with_reducible rfl
                      rotate_left
                      · simp only [Act.put, List.setIfInBounds_toArray, List.set_cons_zero, List.set_cons_succ, i64_w, i32_w]
                        rfl
                      refine pure_ (i := 5) (N := some 18) (v := ?_) (a' := ?_) #[true, true, true, true, true, true, false, true, true, true, true, false, false, true, true, true, false, false, false, false, false, false] rfl rfl (any_of HT_.out (by kernel_rfl)) (fun _ _ _ h => h) (Or.inl ⟨by rfl, ?_⟩) ?_ ?_
                      rotate_left
                      · intro w'
                        go_simp
                        with_reducible rfl
                      rotate_left
                      · simp only [Act.put, List.setIfInBounds_toArray, List.set_cons_zero, List.set_cons_succ, i64_w, i32_w]
                        rfl
                      refine pure_ (i := 6) (N := some 19) (v := ?_) (a' := ?_) #[true, true, true, true, true, true, true, true, true, true, true, false, false, true, true, true, false, false, false, false, false, false] rfl rfl (any_of HT_.out (by kernel_rfl)) (fun _ _ _ h => h) (Or.inl ⟨by rfl, ?_⟩) ?_ ?_
                      rotate_left
                      · intro w'
                        go_simp
                        with_reducible rfl
                      rotate_left
                      · simp only [Act.put, List.setIfInBounds_toArray, List.set_cons_zero, List.set_cons_succ, i64_w, i32_w]
                        rfl
                      refine take_ (i := 11) (N := some 24) (v := ?_) (a' := ?_) #[true, true, true, true, true, true, true, true, true, true, true, true, false, true, true, true, false, false, false, false, false, false] rfl rfl (take_ofW HT_.out HW_.out (by kernel_rfl)) (fun _ _ _ h => h) (Or.inl ⟨by rfl, ?_⟩) hHeld ?_ ?_
                      rotate_left
                      · rintro w' ⟨s0, s1, s2⟩
                        go_simp
                        with_reducible rfl
                      rotate_left
                      · simp only [Act.put, List.setIfInBounds_toArray, List.set_cons_zero, List.set_cons_succ, i64_w, i32_w]
                        rfl
                      refine pure_ (i := 12) (N := some 25) (v := ?_) (a' := ?_) #[true, true, true, true, true, true, true, true, true, true, true, true, true, true, true, true, false, false, false, false, false, false] rfl rfl (any_of HT_.out (by kernel_rfl)) (fun _ _ _ h => h) (Or.inl ⟨by rfl, ?_⟩) ?_ ?_
                      rotate_left
                      · intro w'
                        go_simp
                        with_reducible rfl
                      rotate_left
                      · simp only [Act.put, List.setIfInBounds_toArray, List.set_cons_zero, List.set_cons_succ, i64_w, i32_w]
                        rfl
                      refine take_ (i := 16) (N := some 29) (v := ?_) (a' := ?_) #[true, true, true, true, true, true, true, true, true, true, true, true, true, true, true, true, true, false, false, false, false, false] rfl rfl (take_ofW HT_.out HW_.out (by kernel_rfl)) (fun _ _ _ h => h) (Or.inl ⟨by rfl, ?_⟩) hHeld ?_ ?_
                      rotate_left
                      · rintro w' ⟨s0, s1, s2⟩
                        go_simp
                        with_reducible rfl
                      rotate_left
                      · simp only [Act.put, List.setIfInBounds_toArray, List.set_cons_zero, List.set_cons_succ, i64_w, i32_w]
                        rfl
                      refine pure_ (i := 17) (N := some 30) (v := ?_) (a' := ?_) #[true, true, true, true, true, true, true, true, true, true, true, true, true, true, true, true, true, true, false, false, false, false] rfl rfl (any_of HT_.out (by kernel_rfl)) (fun _ _ _ h => h) (Or.inl ⟨by rfl, ?_⟩) ?_ ?_
                      rotate_left
                      · intro w'
                        go_simp
                        with_reducible rfl
                      rotate_left
                      · simp only [Act.put, List.setIfInBounds_toArray, List.set_cons_zero, List.set_cons_succ, i64_w, i32_w]
                        rfl
                      refine pure_ (i := 18) (N := some 31) (v := ?_) (a' := ?_) #[true, true, true, true, true, true, true, true, true, true, true, true, true, true, true, true, true, true, true, false, false, false] rfl rfl (any_of HT_.out (by kernel_rfl)) (fun _ _ _ h => h) (Or.inl ⟨by rfl, ?_⟩) ?_ ?_
                      rotate_left
                      · intro w'
                        go_simp
                        with_reducible rfl
                      rotate_left
                      · simp only [Act.put, List.setIfInBounds_toArray, List.set_cons_zero, List.set_cons_succ, i64_w, i32_w]
                        rfl
                      refine pure_ (i := 19) (N := some 32) (v := ?_) (a' := ?_) #[true, true, true, true, true, true, true, true, true, true, true, true, true, true, true, true, true, true, true, true, false, false] rfl rfl (any_of HT_.out (by kernel_rfl)) (fun _ _ _ h => h) (Or.inl ⟨by rfl, ?_⟩) ?_ ?_
                      rotate_left
                      · intro w'
                        go_simp
                        with_reducible rfl
                      rotate_left
                      · simp only [Act.put, List.setIfInBounds_toArray, List.set_cons_zero, List.set_cons_succ, i64_w, i32_w]
                        rfl
                      refine pure_ (i := 20) (N := some 33) (v := ?_) (a' := ?_) #[true, true, true, true, true, true, true, true, true, true, true, true, true, true, true, true, true, true, true, true, true, false] rfl rfl (any_of HT_.out (by kernel_rfl)) (fun _ _ _ h => h) (Or.inl ⟨by rfl, ?_⟩) ?_ ?_
                      rotate_left
                      · intro w'
                        go_simp
                        with_reducible rfl
                      rotate_left
                      · simp only [Act.put, List.setIfInBounds_toArray, List.set_cons_zero, List.set_cons_succ, i64_w, i32_w]
                        rfl
                      refine last_ (i := 21) (N := none) #[true, true, true, true, true, true, true, true, true, true, true, true, true, true, true, true, true, true, true, true, true, true] rfl rfl (one_of HT_.out (by kernel_rfl)) (by decide) (fun K hK => ?_)
                      refine skip_ (w1 := ?_) (by rfl) rfl ?_ ?_
                      rotate_left
                      · go_simp
                        rfl
                      refine hK.out _ _ ?_
                      clear hK K
                      refine done_ (done_of HT_.out (by kernel_rfl)) ?_
                      try go_wp2
                      go_roundg k1
                      case measure => have := HK1.out; omega
                      case rel => exact ⟨(y251), (wrap64 (x4_1 + 2)), (by first | rfl | (simp; done) | (simp [*]; done)), H', ⟨by have := HK1.out; omega⟩, ⟨by (with_reducible repeat (first | apply Kd.R_alloc | apply Kd.R_drewN | apply Kd.R_drew)); exact HQ18.out⟩, ⟨by repeat (first | (with_reducible first | exact HB.out | apply below_alloc | apply pw_below_drewN | apply below_drew1 | refine below_set ?_ GB16.out) | exact HB.out)⟩⟩
                    · rw [if_neg c15] at H
                      exact absurd H (by simp)
                  · rw [if_neg c14] at H
                    exact absurd H (by simp)
                · rw [if_neg c11] at H
                  exact absurd H (by simp)
              · rw [if_neg c9] at H
                exact absurd H (by simp)
            · rw [if_neg c7] at H
              exact absurd H (by simp)
          · rw [if_neg c6] at H
            exact absurd H (by simp)
        · rw [if_neg c5] at H
          have c5b0 : decide ((wrap64 (x4_1 + 1)) < (l0.length : Int)) = false := decide_eq_false c5
          clear c5
          obtain rfl := Option.some.inj H
          go_wp2
          go_ret
          exact ⟨_, by first | rfl | (simp [errW_none, errW_some] <;> rfl) | (simp [*, errW_none, errW_some] <;> rfl), by (with_reducible repeat (first | apply Kd.R_alloc | apply Kd.R_drewN | apply Kd.R_drew)); exact HO_3.out, by repeat (first | (with_reducible first | exact HB.out | apply below_alloc | apply pw_below_drewN | apply below_drew1) | exact HB.out)⟩
  · rw [if_neg c2] at H
    exact absurd H (by simp)

end Go.Proofs.Ytnakjencodicmaa.PA

-- ---- PAx49

namespace Go.Proofs.Ytnakjencodicmaa.PA
open Go.RowKit Go.Proofs.YtnakjencodicmaaW.PrintWords Go.Proofs.YtnakjencodicmaaW.PrintLast Go.Proofs.YtnakjencodicmaaW.PrintMore
attribute [local go_sem] max2_int min2_int max_two min_two max_three min_three max_four min_four   -- for this text's walks alone
set_option linter.unusedVariables false
set_option linter.unusedSimpArgs false
local notation "F0" => false
local notation "T1" => true
local macro "act_put" : tactic => `(tactic| simp only [Act.put, List.setIfInBounds_toArray, List.set_cons_zero, List.set_cons_succ, i64_w, i32_w])
local macro "arg_done" : tactic => `(tactic| ((try simp only [List.map_toArray, List.map_cons, List.map_nil]); first | done | rfl | (simp only [List.length_drop, List.length_take]; rfl)))
set_option hygiene false in
local macro "arm_0" : tactic => `(tactic| ((with_reducible refine gate_callee (f := 14) rfl ?_); refine goesL_ (some 105) rfl rfl Try.func14 (by kernel_rfl) rfl #[.int .i64 t274] rfl (by arg_done) ?_; (with_reducible refine (wringerlaw1_Err.calls t274 t283 _ A38.out).mono ?_); rintro e w' ⟨rfl, ⟨nd, rfl⟩⟩; refine ⟨_, rfl, ?_⟩))
set_option hygiene false in
local macro "arm_1" : tactic => `(tactic| ((with_reducible refine gate_callee (f := 14) rfl ?_); refine goesL_ (some 107) rfl rfl Try.func14 (by kernel_rfl) rfl #[.int .i64 t276] rfl (by arg_done) ?_; (with_reducible refine (wringerlaw1_Err.calls t276 t284 _ A39.out).mono ?_); rintro e w' ⟨rfl, ⟨nd, rfl⟩⟩; refine ⟨_, rfl, ?_⟩; obtain ⟨Ao_0, co_0, eo_0⟩ := Kd.R_slice HO278.out; subst eo_0))
set_option hygiene false in
local macro "arm_2" : tactic => `(tactic| (go_at_call 15; (with_reducible refine (wringerref7_SameParts.calls k2 _ _ t275 _ _ t256 true _ ?side1 ?side2 ?side3 ?side4 A41.out).mono ?_); (case side1 => repeat (first | exact (Kd.R_reads' HO278.out).2.2 | (with_reducible refine Kd.C_alloc ?_ _) | (with_reducible refine Kd.C_drewN ?_ _) | (with_reducible refine Kd.C_drew ?_))); (case side2 => exact (Kd.R_reads' HO278.out).2.1); (case side3 => repeat (first | exact (Kd.R_reads' HO_7.out).2.2 | (with_reducible refine Kd.C_alloc ?_ _) | (with_reducible refine Kd.C_drewN ?_ _) | (with_reducible refine Kd.C_drew ?_))); (case side4 => exact (Kd.R_reads' HO_7.out).2.1); rintro e w' ⟨rfl, ⟨nd, rfl⟩⟩))
set_option hygiene false in
local macro "arm_3" : tactic => `(tactic| (go_at_call 14; (with_reducible refine (wringerlaw1_Err.calls t280 t286 _ A44.out).mono ?_); rintro e w' ⟨rfl, ⟨nd, rfl⟩⟩))

theorem field_lens (v0 v1 : Value) (w_ : World) : (Instr.field 45 (.agg #[v0, v1]) 0).run Try.prog w_ = .ok v0 w_ := by
  unfold Instr.field
  rw [Sem.run_bind, run_underlying Try.underlying45 w_]
  simp [part, asAgg, Sem.run_bind, isAgg, run_underlying Try.underlying23, run_underlying Try.underlying3, Result.andThen]
theorem field_text (v0 v1 : Value) (w_ : World) : (Instr.field 29 (.agg #[v0, v1]) 0).run Try.prog w_ = .ok v0 w_ := by
  unfold Instr.field
  rw [Sem.run_bind, run_underlying Try.underlying29 w_]
  simp [part, asAgg, Sem.run_bind, isAgg, run_underlying Try.underlying9, run_underlying Try.underlying3, Result.andThen]
attribute [local go_sem] field_lens field_text
/-! ### wringerlaw11_HuffBack: function 5 -/
mutual
def wringerlaw11_HuffBack.l0 : Nat → Int → List (S54) → List Int → Int → Int → Option (Bool)
  | 0, _, _, _, _, _ => none
  | k + 1, x2, x7, x8, x9, x10 => if x10 < (x7.length : Int) then (if 0 ≤ x10 then (if 0 ≤ ((rd_T54 x7 x10).f0) then (if ((rd_T54 x7 x10).f0) < (x8.length : Int) then (wringerlaw11_HuffBack.l0 k x2 x7 (x8.set (((rd_T54 x7 x10).f0) : Int).toNat (wrap64 ((rd x8 ((rd_T54 x7 x10).f0)) + 1))) x9 (wrap64 (x10 + 1))) else (none)) else (none)) else (none)) else ((wringerref7_Lengths.f x8 (wrap64 (7 + (Int.tmod (wrap64 (x2)) 9)))).bind fun bt266 => (wringerlaw11_HuffBack.l1 k x7 x9 bt266.1 0))
def wringerlaw11_HuffBack.l1 : Nat → List (S54) → Int → List Int → Int → Option (Bool)
  | 0, _, _, _, _ => none
  | k + 1, x7, x9, x11, x12 => if x12 < (x7.length : Int) then (if 0 ≤ x12 then (if 0 ≤ ((rd_T54 x7 x12).f0) then (if ((rd_T54 x7 x12).f0) < (x11.length : Int) then (wringerlaw11_HuffBack.l1 k x7 (wrap64 ((wrap64 (x9 + (rd x11 ((rd_T54 x7 x12).f0)))) + (mx 0 (wrap64 (((rd_T54 x7 x12).f0) - 1))))) x11 (wrap64 (x12 + 1))) else (none)) else (none)) else (none)) else ((huff_Put.f k x7 x11).bind fun bt273 => ((huff_Get.f bt273.1 (x7.length : Int) x11).bind fun bt275 => (if bt273.1.size + 1 ≤ 9223372036854775807 then ((huff_Get.f (bt273.1 ++ (⟨#[0]⟩ : ByteArray)) (x7.length : Int) x11).bind fun bt279 => ((wringerlaw1_Err.f bt273.2).bind fun t283 => ((wringerlaw1_Err.f bt275.2).bind fun t284 => (if (wrap64 (t283 + t284)) = 0 then ((wringerref7_SameParts.f k bt275.1 x7).bind fun t285 => (if t285 = true then (if (bt273.1.size : Int) = (wrap64 (Int.tdiv (wrap64 (x9 + 7)) 8)) then ((wringerlaw1_Err.f bt279.2).bind fun t286 => (if t286 = 3 then ((wringerlaw11_awake.f k).bind fun t287 => (some t287)) else (some false))) else (some false)) else (some false))) else (some false))))) else (none))))
end
def wringerlaw11_HuffBack.f (k : Nat) (l0 : List Int) (l1 : List Int) (a2 : Int) : Option (Bool) := if (l1.length : Int) > 140 then ((wringerlaw11_awake.f k).bind fun t252 => (some t252)) else ((wringerlaw11_Numbers.f k l0).bind fun t253 => ((wringerref7_Parts.f k t253).bind fun t256 => ((wringerlaw8_Freq.f k l1).bind fun t259 => (wringerlaw11_HuffBack.l0 k a2 t256 t259 0 0))))
theorem wringerlaw11_HuffBack.mono_l : ∀ k, (∀ y0 y1 y2 y3 y4, LeO (wringerlaw11_HuffBack.l0 k y0 y1 y2 y3 y4) (wringerlaw11_HuffBack.l0 (k + 1) y0 y1 y2 y3 y4)) ∧ (∀ y0 y1 y2 y3, LeO (wringerlaw11_HuffBack.l1 k y0 y1 y2 y3) (wringerlaw11_HuffBack.l1 (k + 1) y0 y1 y2 y3))
  | 0 => ⟨fun _ _ _ _ _ r h => by simp [wringerlaw11_HuffBack.l0] at h, fun _ _ _ _ r h => by simp [wringerlaw11_HuffBack.l1] at h⟩
  | k + 1 => by
    obtain ⟨ih0, ih1⟩ := wringerlaw11_HuffBack.mono_l k
    refine ⟨?_, ?_⟩
    · intro y0 y1 y2 y3 y4
      unfold wringerlaw11_HuffBack.l0
      repeat' first
      | (with_reducible exact ih0 _ _ _ _ _)
      | (with_reducible exact ih1 _ _ _ _)
      | (with_reducible exact huff_Put.mono _ _ _)
      | (with_reducible exact wringerlaw11_Numbers.mono _ _)
      | (with_reducible exact wringerlaw11_awake.mono _)
      | (with_reducible exact wringerlaw8_Freq.mono _ _)
      | (with_reducible exact wringerref7_Parts.mono _ _)
      | (with_reducible exact wringerref7_SameParts.mono _ _ _)
      | (with_reducible exact LeO.refl _)
      | (with_reducible exact LeO.none _)
      | (with_reducible refine LeO.ite ?_ ?_)
      | (with_reducible refine LeO.bind ?_ (fun _ => ?_))
      | exact ih0 _ _ _ _ _
      | exact ih1 _ _ _ _
      | exact huff_Put.mono _ _ _
      | exact wringerlaw11_Numbers.mono _ _
      | exact wringerlaw11_awake.mono _
      | exact wringerlaw8_Freq.mono _ _
      | exact wringerref7_Parts.mono _ _
      | exact wringerref7_SameParts.mono _ _ _
      | exact LeO.none _
      | refine LeO.ite ?_ ?_
      | refine LeO.bind ?_ (fun _ => ?_)
    · intro y0 y1 y2 y3
      unfold wringerlaw11_HuffBack.l1
      repeat' first
      | (with_reducible exact ih0 _ _ _ _ _)
      | (with_reducible exact ih1 _ _ _ _)
      | (with_reducible exact huff_Put.mono _ _ _)
      | (with_reducible exact wringerlaw11_Numbers.mono _ _)
      | (with_reducible exact wringerlaw11_awake.mono _)
      | (with_reducible exact wringerlaw8_Freq.mono _ _)
      | (with_reducible exact wringerref7_Parts.mono _ _)
      | (with_reducible exact wringerref7_SameParts.mono _ _ _)
      | (with_reducible exact LeO.refl _)
      | (with_reducible exact LeO.none _)
      | (with_reducible refine LeO.ite ?_ ?_)
      | (with_reducible refine LeO.bind ?_ (fun _ => ?_))
      | exact ih0 _ _ _ _ _
      | exact ih1 _ _ _ _
      | exact huff_Put.mono _ _ _
      | exact wringerlaw11_Numbers.mono _ _
      | exact wringerlaw11_awake.mono _
      | exact wringerlaw8_Freq.mono _ _
      | exact wringerref7_Parts.mono _ _
      | exact wringerref7_SameParts.mono _ _ _
      | exact LeO.none _
      | refine LeO.ite ?_ ?_
      | refine LeO.bind ?_ (fun _ => ?_)
theorem wringerlaw11_HuffBack.mono : ∀ a0 a1 a2 k, LeO (wringerlaw11_HuffBack.f k a0 a1 a2) (wringerlaw11_HuffBack.f (k + 1) a0 a1 a2) := by
  intro a0 a1 a2 k
  obtain ⟨ih0, ih1⟩ := wringerlaw11_HuffBack.mono_l k
  unfold wringerlaw11_HuffBack.f
  repeat' first
      | (with_reducible exact ih0 _ _ _ _ _)
      | (with_reducible exact ih1 _ _ _ _)
      | (with_reducible exact huff_Put.mono _ _ _)
      | (with_reducible exact wringerlaw11_Numbers.mono _ _)
      | (with_reducible exact wringerlaw11_awake.mono _)
      | (with_reducible exact wringerlaw8_Freq.mono _ _)
      | (with_reducible exact wringerref7_Parts.mono _ _)
      | (with_reducible exact wringerref7_SameParts.mono _ _ _)
      | (with_reducible exact LeO.refl _)
      | (with_reducible exact LeO.none _)
      | (with_reducible refine LeO.ite ?_ ?_)
      | (with_reducible refine LeO.bind ?_ (fun _ => ?_))
      | exact ih0 _ _ _ _ _
      | exact ih1 _ _ _ _
      | exact huff_Put.mono _ _ _
      | exact wringerlaw11_Numbers.mono _ _
      | exact wringerlaw11_awake.mono _
      | exact wringerlaw8_Freq.mono _ _
      | exact wringerref7_Parts.mono _ _
      | exact wringerref7_SameParts.mono _ _ _
      | exact LeO.none _
      | refine LeO.ite ?_ ?_
      | refine LeO.bind ?_ (fun _ => ?_)
def wringerlaw11_HuffBack.T9 : Bool × List (List Nat × List Nat) := (true, [([], []), ([], []), ([], []), ([1, 2], [1, 2]), ([3], [3]), ([4], [4]), ([], []), ([], []), ([], []), ([7, 8], [7, 8]), ([9], [9]), ([10], [10]), ([6, 11], [6, 11]), ([12], [12]), ([13], [13]), ([0, 5, 0, 1, 2, 3, 4, 5, 6, 7, 8, 9, 10, 11, 12, 13, 14], [0, 5]), ([15, 14, 0, 1, 2, 3, 4, 5, 6, 7, 8, 9, 10, 11, 12, 13, 14], [14, 15])])
def wringerlaw11_HuffBack.B9 : List Nat := [0, 0, 0, 6, 14, 30, 0, 0, 0, 384, 896, 1920, 4032, 8128, 16320, 32767, 65535]
theorem wringerlaw11_HuffBack.tab9 : rtab .any (opsOf Try.f5 9) = wringerlaw11_HuffBack.T9 := by kernel_rfl
theorem wringerlaw11_HuffBack.bits9 : waitsOk wringerlaw11_HuffBack.T9.2 wringerlaw11_HuffBack.B9 = true := by kernel_rfl
def wringerlaw11_HuffBack.T14 : Bool × List (List Nat × List Nat) := (true, [([], []), ([], []), ([], []), ([], []), ([2, 3], [2, 3]), ([4], [4]), ([5], [5]), ([1, 6], [1, 6]), ([7], [7]), ([0, 8], [0, 8]), ([], []), ([], []), ([10, 11], [10, 11]), ([12], [12]), ([13], [13]), ([14], [14]), ([15], [15]), ([9, 16], [9, 16]), ([17, 0, 1, 2, 3, 4, 5, 6, 7, 8, 9, 10, 11, 12, 13, 14, 15, 16, 17], [0, 17])])
def wringerlaw11_HuffBack.B14 : List Nat := [0, 0, 0, 0, 12, 28, 60, 126, 254, 511, 0, 0, 3072, 7168, 15360, 31744, 64512, 131071, 262143]
theorem wringerlaw11_HuffBack.tab14 : rtab .any (opsOf Try.f5 14) = wringerlaw11_HuffBack.T14 := by kernel_rfl
theorem wringerlaw11_HuffBack.bits14 : waitsOk wringerlaw11_HuffBack.T14.2 wringerlaw11_HuffBack.B14 = true := by kernel_rfl
set_option maxHeartbeats 8000000 in
set_option maxRecDepth 100000 in
theorem wringerlaw11_HuffBack.calls (k : Nat) (A0 : Option Addr) (c0 : Nat) (l0 : List Int) (A1 : Option Addr) (c1 : Nat) (l1 : List Int) (a2 : Int) (r : Bool) (w : World) (hr0 : Kd.C (Kd.int .u16) w A0 l0.length l0) (hc0 : l0.length ≤ c0) (hr1 : Kd.C (Kd.int .u16) w A1 l1.length l1) (hc1 : l1.length ≤ c1) (h : wringerlaw11_HuffBack.f k l0 l1 a2 = some r) :
    Calls Try.prog 5 #[.slice A0 l0.length c0, .slice A1 l1.length c1, .int .u8 a2] w fun e w' => e = .returned (.bool r) ∧ Below w.heap.size w w' := by
  have HR0 := Aside0.mk hr0
  have HC0 := Aside0.mk hc0
  clear hr0 hc0
  have HR1 := Aside0.mk hr1
  have HC1 := Aside0.mk hc1
  clear hr1 hc1
  have HB := Aside0.mk (Below.refl w.heap.size w)
  have H : (if (l1.length : Int) > 140 then ((wringerlaw11_awake.f k).bind fun t252 => (some t252)) else ((wringerlaw11_Numbers.f k l0).bind fun t253 => ((wringerref7_Parts.f k t253).bind fun t256 => ((wringerlaw8_Freq.f k l1).bind fun t259 => (wringerlaw11_HuffBack.l0 k a2 t256 t259 0 0))))) = some r := h
  clear h
  by_cases c4 : (l1.length : Int) > 140
  · rw [if_pos c4] at H
    have c4b0 : decide (140 < (l1.length : Int)) = true := decide_eq_true c4
    have c4b1 : decide (140 < l1.length) = true := decide_eq_true (by omega)
    clear c4
    replace H := Option.bind_eq_some_iff.mp H
    obtain ⟨t252, A50, H⟩ := H
    replace H : (some t252) = some r := H
    have A5 := Aside0.mk A50
    clear A50
    obtain rfl := Option.some.inj H
    go_enter Try.func5, Try.ntmps5
    go_wp2_with (first | ((with_reducible refine gate_callee (f := 9) rfl ?_); refine goesL_ (some 22) rfl rfl Try.func9 (by kernel_rfl) rfl #[] rfl (by arg_done) ?_; (with_reducible refine (wringerlaw11_awake.calls k  t252 _ A5.out).mono ?_); rintro e w_0 ⟨rfl, hb⟩; refine ⟨_, rfl, ?_⟩; have n0_ := Aside0.mk (below_step (by repeat (first | (with_reducible first | exact HB.out | apply below_alloc | apply pw_below_drewN | apply below_drew1) | exact HB.out)) hb); clear HB; have HB := n0_; clear n0_; (try clear hb); (try clear hb2); (try clear hk); (try clear hi)))
    go_ret
    exact ⟨by first | rfl | (simp [errW_none, errW_some] <;> rfl) | (simp [*, errW_none, errW_some] <;> rfl), by repeat (first | (with_reducible first | exact HB.out | apply below_alloc | apply pw_below_drewN | apply below_drew1) | exact HB.out)⟩
  · rw [if_neg c4] at H
    have c4b0 : decide (140 < (l1.length : Int)) = false := decide_eq_false c4
    have c4b1 : decide (140 < l1.length) = false := decide_eq_false (by omega)
    clear c4
    replace H := Option.bind_eq_some_iff.mp H
    obtain ⟨t253, A70, H⟩ := H
    replace H : ((wringerref7_Parts.f k t253).bind fun t256 => ((wringerlaw8_Freq.f k l1).bind fun t259 => (wringerlaw11_HuffBack.l0 k a2 t256 t259 0 0))) = some r := H
    have A7 := Aside0.mk A70
    clear A70
    replace H := Option.bind_eq_some_iff.mp H
    obtain ⟨t256, A80, H⟩ := H
    replace H : ((wringerlaw8_Freq.f k l1).bind fun t259 => (wringerlaw11_HuffBack.l0 k a2 t256 t259 0 0)) = some r := H
    have A8 := Aside0.mk A80
    clear A80
    replace H := Option.bind_eq_some_iff.mp H
    obtain ⟨t259, A90, H⟩ := H
    replace H : (wringerlaw11_HuffBack.l0 k a2 t256 t259 0 0) = some r := H
    have A9 := Aside0.mk A90
    clear A90
    have H' := Aside0.mk H
    clear H
    go_enter Try.func5, Try.ntmps5
    go_wp2_with (first | ((with_reducible refine gate_callee (f := 17) rfl ?_); refine goesL_ (some 24) rfl rfl Try.func17 (by kernel_rfl) rfl #[.slice A0 l0.length c0] rfl (by arg_done) ?_; (with_reducible refine (wringerlaw11_Numbers.calls k _ _ l0 t253 _ ?side1 ?side2 A7.out).mono ?_); (case side1 => repeat (first | exact HR0.out | (with_reducible refine Kd.C_alloc ?_ _) | (with_reducible refine Kd.C_drewN ?_ _) | (with_reducible refine Kd.C_drew ?_))); (case side2 => exact HC0.out); rintro e w_0 ⟨v254, rfl, ho0, hb⟩; refine ⟨_, rfl, ?_⟩; have n0_ := Aside0.mk (Kd.R_lower ho0 (below_size (by repeat (first | (with_reducible first | exact HB.out | apply below_alloc | apply pw_below_drewN | apply below_drew1) | exact HB.out)))); have n1_ := Aside0.mk (below_step (by repeat (first | (with_reducible first | exact HB.out | apply below_alloc | apply pw_below_drewN | apply below_drew1) | exact HB.out)) hb); clear HB; have HO255 := n0_; have HB := n1_; clear n0_ n1_; (try clear hb); (try clear hb2); (try clear hk); (try clear hi); (try clear ho0); obtain ⟨Ao_0, co_0, eo_0⟩ := Kd.R_slice HO255.out; subst eo_0) | ((with_reducible refine gate_callee (f := 16) rfl ?_); refine goesL_ (some 25) rfl rfl Try.func16 (by kernel_rfl) rfl #[.slice Ao_0 t253.length co_0] rfl (by arg_done) ?_; (with_reducible refine (wringerref7_Parts.calls k _ _ t253 t256 _ ?side1 ?side2 A8.out).mono ?_); (case side1 => repeat (first | exact (Kd.R_reads' HO255.out).2.2 | (with_reducible refine Kd.C_alloc ?_ _) | (with_reducible refine Kd.C_drewN ?_ _) | (with_reducible refine Kd.C_drew ?_))); (case side2 => exact (Kd.R_reads' HO255.out).2.1); rintro e w_1 ⟨v257, rfl, ho0, hb⟩; refine ⟨_, rfl, ?_⟩; have n0_ := Aside0.mk (Kd.R_below (by (with_reducible repeat (first | apply Kd.R_alloc | apply Kd.R_drewN | apply Kd.R_drew)); exact HO255.out) hb); have n1_ := Aside0.mk (Kd.R_lower ho0 (below_size (by repeat (first | (with_reducible first | exact HB.out | apply below_alloc | apply pw_below_drewN | apply below_drew1) | exact HB.out)))); have n2_ := Aside0.mk (below_step (by repeat (first | (with_reducible first | exact HB.out | apply below_alloc | apply pw_below_drewN | apply below_drew1) | exact HB.out)) hb); clear HO255; clear HB; have HO255 := n0_; have HO258 := n1_; have HB := n2_; clear n0_ n1_ n2_; (try clear hb); (try clear hb2); (try clear hk); (try clear hi); (try clear ho0)) | ((with_reducible refine gate_callee (f := 20) rfl ?_); refine goesL_ (some 27) rfl rfl Try.func20 (by kernel_rfl) rfl #[.slice A1 l1.length c1] rfl (by arg_done) ?_; (with_reducible refine (wringerlaw8_Freq.calls k _ _ l1 t259 _ ?side1 ?side2 A9.out).mono ?_); (case side1 => repeat (first | exact (Kd.C_below HR1.out HB.out) | (with_reducible refine Kd.C_alloc ?_ _) | (with_reducible refine Kd.C_drewN ?_ _) | (with_reducible refine Kd.C_drew ?_))); (case side2 => exact HC1.out); rintro e w_2 ⟨v260, rfl, ho0, hb⟩; refine ⟨_, rfl, ?_⟩; have n0_ := Aside0.mk (Kd.R_below (by (with_reducible repeat (first | apply Kd.R_alloc | apply Kd.R_drewN | apply Kd.R_drew)); exact HO255.out) hb); have n1_ := Aside0.mk (Kd.R_below (by (with_reducible repeat (first | apply Kd.R_alloc | apply Kd.R_drewN | apply Kd.R_drew)); exact HO258.out) hb); have n2_ := Aside0.mk (Kd.R_lower ho0 (below_size (by repeat (first | (with_reducible first | exact HB.out | apply below_alloc | apply pw_below_drewN | apply below_drew1) | exact HB.out)))); have n3_ := Aside0.mk (below_step (by repeat (first | (with_reducible first | exact HB.out | apply below_alloc | apply pw_below_drewN | apply below_drew1) | exact HB.out)) hb); clear HO255; clear HO258; clear HB; have HO255 := n0_; have HO258 := n1_; have HO261 := n2_; have HB := n3_; clear n0_ n1_ n2_ n3_; (try clear hb); (try clear hb2); (try clear hk); (try clear hi); (try clear ho0)))
    go_loopg [10] k (fun kq v10 w' => ∃ (x8_1 : List Int) (x10_1 : Int), v10 = .int .i64 x10_1 ∧ Aside0 (wringerlaw11_HuffBack.l0 kq a2 t256 x8_1 0 x10_1 = some r) ∧ Aside0 (kq ≤ k) ∧ Aside0 (Kd.R k54 54 w' w.heap.size (fun _ => True) v257 t256) ∧ Aside0 (Kd.R (Kd.int .i64) 3 w' w.heap.size (fun _ => True) v260 x8_1) ∧ Aside0 (Below w.heap.size w w'))
    case atStart => exact ⟨(t259), (0), (by first | rfl | (simp; done) | (simp [*]; done)), H', ⟨Nat.le_refl _⟩, ⟨by (with_reducible repeat (first | apply Kd.R_alloc | apply Kd.R_drewN | apply Kd.R_drew)); exact HO258.out⟩, ⟨by (with_reducible repeat (first | apply Kd.R_alloc | apply Kd.R_drewN | apply Kd.R_drew)); exact HO261.out⟩, ⟨by repeat (first | (with_reducible first | exact HB.out | apply below_alloc | apply pw_below_drewN | apply below_drew1) | exact HB.out)⟩⟩
    case round =>
      clear H'
      try clear c1
      try clear c2
      try clear p2
      try clear c4
      try clear c4b0
      try clear c4b1
      try clear c5
      try clear c9
      obtain ⟨x8_1, x10_1, rfl, HA, HK1, HO_7, HO_8, HB⟩ := hrel
      cases gk with
      | zero => exact absurd HA.out (by simp [wringerlaw11_HuffBack.l0])
      | succ k1 =>
        have H := HA.out
        clear HA
        simp only [wringerlaw11_HuffBack.l0] at H
        by_cases c14 : x10_1 < (t256.length : Int)
        · rw [if_pos c14] at H
          have c14b0 : decide (x10_1 < (t256.length : Int)) = true := decide_eq_true c14
          clear c14
          by_cases c15 : 0 ≤ x10_1
          · rw [if_pos c15] at H
            have c15b0 : decide (0 ≤ x10_1) = true := decide_eq_true c15
            clear c15
            by_cases c16 : 0 ≤ ((rd_T54 t256 x10_1).f0)
            · rw [if_pos c16] at H
              have c16b0 : decide (0 ≤ ((rd_T54 t256 x10_1).f0)) = true := decide_eq_true c16
              clear c16
              by_cases c17 : ((rd_T54 t256 x10_1).f0) < (x8_1.length : Int)
              · rw [if_pos c17] at H
                have c17b0 : decide (((rd_T54 t256 x10_1).f0) < (x8_1.length : Int)) = true := decide_eq_true c17
                clear c17
                obtain ⟨y265, hy265⟩ : ∃ y_ : List Int, y_ = (x8_1.set (((rd_T54 t256 x10_1).f0) : Int).toNat (wrap64 ((rd x8_1 ((rd_T54 t256 x10_1).f0)) + 1))) := ⟨_, rfl⟩
                replace H : (wringerlaw11_HuffBack.l0 k1 a2 t256 y265 0 (wrap64 (x10_1 + 1))) = some r := by first | (rw [hy265]; with_reducible exact H) | (have H2_ := (Option.bind_some _ _).symm.trans H; rw [hy265]; with_reducible exact H2_) | (have H2_ := (Option.bind_some _ _).symm.trans H; with_reducible exact H2_) | with_reducible exact H | (rw [hy265]; exact H) | exact H
                have Ny265 := Aside0.mk hy265
                clear hy265
                have H' := Aside0.mk H
                clear H
                obtain ⟨Ao19, co19, eo19⟩ := Kd.R_slice HO_7.out
                subst eo19
                try go_wp2
                have n0_ := Aside0.mk (Kd.R_drew HO_7.out)
                have n1_ := Aside0.mk (Kd.R_drew HO_8.out)
                have n2_ := Aside0.mk (below_drew1 HB.out)
                clear HO_7
                clear HO_8
                clear HB
                have HO_7 := n0_
                have HO_8 := n1_
                have HB := n2_
                clear n0_ n1_ n2_
                have p262 : 0 ≤ (x10_1 : Int) := of_decide_eq_true (by first | (with_reducible assumption) | assumption)
                have q262 : x10_1 < (t256.length : Int) := of_decide_eq_true (by first | (with_reducible assumption) | assumption)
                obtain ⟨ad262, e262, hx262_0, hx262_1⟩ := at_T54 (Kd.R_reads' HO_7.out).2.2 x10_1 p262 q262
                cases e262
                replace p262 := eq_true p262
                replace q262 := eq_true q262
                have p263 : 0 ≤ (x10_1 : Int) := of_decide_eq_true (by first | (with_reducible assumption) | assumption)
                have q263 : x10_1 < (t256.length : Int) := of_decide_eq_true (by first | (with_reducible assumption) | assumption)
                obtain ⟨ad263, e263, hx263_0, hx263_1⟩ := at_T54 (Kd.R_reads' HO_7.out).2.2 x10_1 p263 q263
                obtain rfl : ad262 = ad263 := (by injection e263)
                replace p263 := eq_true p263
                replace q263 := eq_true q263
                obtain ⟨Ao21, co21, eo21⟩ := Kd.R_slice HO_8.out
                (first | subst eo21 | (injection eo21 with f1_ f2_ f3_; have f4_ := f1_.symm; have f5_ := f3_.symm; clear f1_ f2_ f3_; subst f4_; subst f5_))
                have p264 : 0 ≤ (((rd_T54 t256 x10_1).f0) : Int) := of_decide_eq_true (by first | (with_reducible assumption) | assumption)
                have q264 : ((rd_T54 t256 x10_1).f0) < (x8_1.length : Int) := of_decide_eq_true (by first | (with_reducible assumption) | assumption)
                obtain ⟨ad264, e264, hx264_0⟩ := Kd.at_int (Kd.R_reads' HO_8.out).2.2 ((rd_T54 t256 x10_1).f0) p264 q264
                cases e264
                replace p264 := eq_true p264
                replace q264 := eq_true q264
                have p18 : 0 ≤ (((rd_T54 t256 x10_1).f0) : Int) := of_decide_eq_true (by first | (with_reducible assumption) | assumption)
                have q18 : (((rd_T54 t256 x10_1).f0) : Int) < ((x8_1.length : Int) : Int) := of_decide_eq_true (by first | (with_reducible assumption) | assumption)
                obtain ⟨go18, co18, eo18, gb18, gl18, cl18, HG18⟩ := Kd.R_form HO_8.out (by omega)
                (first | cases eo18 | (injection eo18 with ea_ en_ ec_; (first | subst ea_ | (injection ea_ with ea_; subst ea_)); subst ec_; clear en_))
                have GB18 := Aside0.mk gb18
                have GG18 := Aside0.mk HG18
                clear gb18 gl18 HG18
                (first | simp only [add_plain] at hx264_0 | skip)
                obtain ⟨hx18_0, hf18_0⟩ := Kd.R_celln 0 HO_8.out (((rd_T54 t256 x10_1).f0) : Int) p18 q18
                replace p18 := eq_true p18
                replace q18 := eq_true q18
                have HP22 := Kd.R_putn HO_8.out (((rd_T54 t256 x10_1).f0) : Int) (wrap64 ((rd x8_1 ((rd_T54 t256 x10_1).f0)) + 1))
                rw [← Ny265.out] at HP22
                have HQ22 := Aside0.mk HP22
                clear HP22
                refine start_ (n := 17) (S := fun w' => w'.cell? (ad262.add ((x10_1).toNat * 2)) = some (.int .i64 ((rd_T54 t256 x10_1).f0)) ∧ w'.cell? ⟨(ad262.add ((x10_1).toNat * 2)).block, (ad262.add ((x10_1).toNat * 2)).off + 1, none⟩ = some (.int .u64 ((rd_T54 t256 x10_1).f1)) ∧ w'.cell? (ad262.add ((x10_1).toNat * 2)) = some (.int .i64 ((rd_T54 t256 x10_1).f0)) ∧ w'.cell? ⟨(ad262.add ((x10_1).toNat * 2)).block, (ad262.add ((x10_1).toNat * 2)).off + 1, none⟩ = some (.int .u64 ((rd_T54 t256 x10_1).f1)) ∧ w'.cell? (⟨go18, (((rd_T54 t256 x10_1).f0)).toNat, none⟩ : Addr) = some (.int .i64 (rd x8_1 ((rd_T54 t256 x10_1).f0)))) (ds := [16]) #[F0,F0,F0,F0,F0,F0,F0,F0,F0,F0,F0,F0,F0,F0,F0,F0,F0] (by kernel_rfl) rfl rfl ⟨hx262_0, hx262_1, hx263_0, hx263_1, hx264_0⟩ (fun hHeld => ?_); refine with_tabW wringerlaw11_HuffBack.tab9 wringerlaw11_HuffBack.bits9 (fun HT_ HW_ => ?_)
                generalize wr.drew = w20 at HO_7 HO_8 HB GG18 HQ22 hf18_0 hx18_0 hx262_0 hx262_1 hx263_0 hx263_1 hx264_0 hHeld ⊢
                refine pure_ (i := 0) (N := some 34) (v := ?_) (a' := ?_) #[T1,F0,F0,F0,F0,F0,F0,F0,F0,F0,F0,F0,F0,F0,F0,F0,F0] rfl rfl (any_of HT_.out (by kernel_rfl)) (fun _ _ _ h => h) (Or.inl ⟨by rfl, ?_⟩) ?_ ?_
                rotate_left
                · intro w'
                  go_simp
                  with_reducible rfl
                rotate_left
                · act_put
                  rfl
                refine pure_ (i := 1) (N := some 35) (v := ?_) (a' := ?_) #[T1,T1,F0,F0,F0,F0,F0,F0,F0,F0,F0,F0,F0,F0,F0,F0,F0] rfl rfl (any_of HT_.out (by kernel_rfl)) (fun _ _ _ h => h) (Or.inl ⟨by rfl, ?_⟩) ?_ ?_
                rotate_left
                · intro w'
                  go_simp
                  with_reducible rfl
                rotate_left
                · act_put
                  rfl
                refine pure_ (i := 2) (N := some 36) (v := ?_) (a' := ?_) #[T1,T1,T1,F0,F0,F0,F0,F0,F0,F0,F0,F0,F0,F0,F0,F0,F0] rfl rfl (any_of HT_.out (by kernel_rfl)) (fun _ _ _ h => h) (Or.inl ⟨by rfl, ?_⟩) ?_ ?_
                rotate_left
                · intro w'
                  go_simp
                  with_reducible rfl
                rotate_left
                · act_put
                  rfl
                refine pure_ (i := 3) (N := some 37) (v := ?_) (a' := ?_) #[T1,T1,T1,T1,F0,F0,F0,F0,F0,F0,F0,F0,F0,F0,F0,F0,F0] rfl rfl (any_of HT_.out (by kernel_rfl)) (fun _ _ _ h => h) (Or.inl ⟨by rfl, ?_⟩) ?_ ?_
                rotate_left
                · intro w'
                  go_simp
                  with_reducible rfl
                rotate_left
                · act_put
                  rfl
                refine pure_ (i := 4) (N := some 38) (v := ?_) (a' := ?_) #[T1,T1,T1,T1,T1,F0,F0,F0,F0,F0,F0,F0,F0,F0,F0,F0,F0] rfl rfl (any_of HT_.out (by kernel_rfl)) (fun _ _ _ h => h) (Or.inl ⟨by rfl, ?_⟩) ?_ ?_
                rotate_left
                · intro w'
                  go_simp
                  with_reducible rfl
                rotate_left
                · act_put
                  rfl
                refine pure_ (i := 6) (N := some 40) (v := ?_) (a' := ?_) #[T1,T1,T1,T1,T1,F0,T1,F0,F0,F0,F0,F0,F0,F0,F0,F0,F0] rfl rfl (any_of HT_.out (by kernel_rfl)) (fun _ _ _ h => h) (Or.inl ⟨by rfl, ?_⟩) ?_ ?_
                rotate_left
                · intro w'
                  go_simp
                  with_reducible rfl
                rotate_left
                · act_put
                  rfl
                refine pure_ (i := 7) (N := some 41) (v := ?_) (a' := ?_) #[T1,T1,T1,T1,T1,F0,T1,T1,F0,F0,F0,F0,F0,F0,F0,F0,F0] rfl rfl (any_of HT_.out (by kernel_rfl)) (fun _ _ _ h => h) (Or.inl ⟨by rfl, ?_⟩) ?_ ?_
                rotate_left
                · intro w'
                  go_simp
                  with_reducible rfl
                rotate_left
                · act_put
                  rfl
                refine pure_ (i := 8) (N := some 42) (v := ?_) (a' := ?_) #[T1,T1,T1,T1,T1,F0,T1,T1,T1,F0,F0,F0,F0,F0,F0,F0,F0] rfl rfl (any_of HT_.out (by kernel_rfl)) (fun _ _ _ h => h) (Or.inl ⟨by rfl, ?_⟩) ?_ ?_
                rotate_left
                · intro w'
                  go_simp
                  with_reducible rfl
                rotate_left
                · act_put
                  rfl
                refine pure_ (i := 9) (N := some 43) (v := ?_) (a' := ?_) #[T1,T1,T1,T1,T1,F0,T1,T1,T1,T1,F0,F0,F0,F0,F0,F0,F0] rfl rfl (any_of HT_.out (by kernel_rfl)) (fun _ _ _ h => h) (Or.inl ⟨by rfl, ?_⟩) ?_ ?_
                rotate_left
                · intro w'
                  go_simp
                  with_reducible rfl
                rotate_left
                · act_put
                  rfl
                refine pure_ (i := 10) (N := some 44) (v := ?_) (a' := ?_) #[T1,T1,T1,T1,T1,F0,T1,T1,T1,T1,T1,F0,F0,F0,F0,F0,F0] rfl rfl (any_of HT_.out (by kernel_rfl)) (fun _ _ _ h => h) (Or.inl ⟨by rfl, ?_⟩) ?_ ?_
                rotate_left
                · intro w'
                  go_simp
                  with_reducible rfl
                rotate_left
                · act_put
                  rfl
                refine take_ (i := 5) (N := some 39) (v := ?_) (a' := ?_) #[T1,T1,T1,T1,T1,T1,T1,T1,T1,T1,T1,F0,F0,F0,F0,F0,F0] rfl rfl (take_ofW HT_.out HW_.out (by kernel_rfl)) (fun _ _ _ h => h) (Or.inl ⟨by rfl, ?_⟩) hHeld ?_ ?_
                rotate_left
                · rintro w' ⟨s0, s1, s2, s3, s4⟩
                  go_simp
                  with_reducible rfl
                rotate_left
                · act_put
                  rfl
                refine take_ (i := 11) (N := some 45) (v := ?_) (a' := ?_) #[T1,T1,T1,T1,T1,T1,T1,T1,T1,T1,T1,T1,F0,F0,F0,F0,F0] rfl rfl (take_ofW HT_.out HW_.out (by kernel_rfl)) (fun _ _ _ h => h) (Or.inl ⟨by rfl, ?_⟩) hHeld ?_ ?_
                rotate_left
                · rintro w' ⟨s0, s1, s2, s3, s4⟩
                  go_simp
                  with_reducible rfl
                rotate_left
                · act_put
                  rfl
                refine pure_ (i := 12) (N := some 46) (v := ?_) (a' := ?_) #[T1,T1,T1,T1,T1,T1,T1,T1,T1,T1,T1,T1,T1,F0,F0,F0,F0] rfl rfl (any_of HT_.out (by kernel_rfl)) (fun _ _ _ h => h) (Or.inl ⟨by rfl, ?_⟩) ?_ ?_
                rotate_left
                · intro w'
                  go_simp
                  with_reducible rfl
                rotate_left
                · act_put
                  rfl
                refine take_ (i := 13) (N := some 47) (v := ?_) (a' := ?_) #[T1,T1,T1,T1,T1,T1,T1,T1,T1,T1,T1,T1,T1,T1,F0,F0,F0] rfl rfl (take_ofW HT_.out HW_.out (by kernel_rfl)) (fun _ _ _ h => h) (Or.inl ⟨by rfl, ?_⟩) hHeld ?_ ?_
                rotate_left
                · rintro w' ⟨s0, s1, s2, s3, s4⟩
                  go_simp
                  with_reducible rfl
                rotate_left
                · act_put
                  rfl
                refine pure_ (i := 14) (N := some 48) (v := ?_) (a' := ?_) #[T1,T1,T1,T1,T1,T1,T1,T1,T1,T1,T1,T1,T1,T1,T1,F0,F0] rfl rfl (any_of HT_.out (by kernel_rfl)) (fun _ _ _ h => h) (Or.inl ⟨by rfl, ?_⟩) ?_ ?_
                rotate_left
                · intro w'
                  go_simp
                  with_reducible rfl
                rotate_left
                · act_put
                  rfl
                refine pure_ (i := 15) (N := some 49) (v := ?_) (a' := ?_) #[T1,T1,T1,T1,T1,T1,T1,T1,T1,T1,T1,T1,T1,T1,T1,T1,F0] rfl rfl (any_of HT_.out (by kernel_rfl)) (fun _ _ _ h => h) (Or.inl ⟨by rfl, ?_⟩) ?_ ?_
                rotate_left
                · intro w'
                  go_simp
                  with_reducible rfl
                rotate_left
                · act_put
                  rfl
                refine last_ (i := 16) (N := none) #[T1,T1,T1,T1,T1,T1,T1,T1,T1,T1,T1,T1,T1,T1,T1,T1,T1] rfl rfl (one_of HT_.out (by kernel_rfl)) (by decide) (fun K hK => ?_)
                refine skip_ (w1 := ?_) (by rfl) rfl ?_ ?_
                rotate_left
                · go_simp
                  rfl
                refine hK.out _ _ ?_
                clear hK K
                refine done_ (done_of HT_.out (by kernel_rfl)) ?_
                try go_wp2
                go_roundg k1
                case measure => have := HK1.out; omega
                case rel => exact ⟨(y265), (wrap64 (x10_1 + 1)), (by first | rfl | (simp; done) | (simp [*]; done)), H', ⟨by have := HK1.out; omega⟩, ⟨by (with_reducible repeat (first | apply Kd.R_alloc | apply Kd.R_drewN | apply Kd.R_drew)); exact Kd.R_mono (Kd.R_far (p := ⟨go18, (((rd_T54 t256 x10_1).f0) : Int).toNat, none⟩) (Kd.R_types HO_7.out GG18.out (by decide)) (fun _ hk => hk.2) (.int .i64 (wrap64 ((rd x8_1 ((rd_T54 t256 x10_1).f0)) + 1)))) (fun _ hk => trivial)⟩, ⟨by (with_reducible repeat (first | apply Kd.R_alloc | apply Kd.R_drewN | apply Kd.R_drew)); exact HQ22.out⟩, ⟨by repeat (first | (with_reducible first | exact HB.out | apply below_alloc | apply pw_below_drewN | apply below_drew1 | refine below_set ?_ GB18.out) | exact HB.out)⟩⟩
              · rw [if_neg c17] at H
                exact absurd H (by simp)
            · rw [if_neg c16] at H
              exact absurd H (by simp)
          · rw [if_neg c15] at H
            exact absurd H (by simp)
        · rw [if_neg c14] at H
          have c14b0 : decide (x10_1 < (t256.length : Int)) = false := decide_eq_false c14
          clear c14
          replace H := Option.bind_eq_some_iff.mp H
          obtain ⟨⟨t266, t269⟩, A230, H⟩ := H
          replace H : (wringerlaw11_HuffBack.l1 k1 t256 0 t266 0) = some r := H
          have A23 := Aside0.mk A230
          clear A230
          have H' := Aside0.mk H
          clear H
          obtain ⟨Ao24, co24, eo24⟩ := Kd.R_slice HO_7.out
          subst eo24
          obtain ⟨Ao25, co25, eo25⟩ := Kd.R_slice HO_8.out
          subst eo25
          go_wp2_with (first | ((with_reducible refine gate_callee (f := 18) rfl ?_); refine goesL_ (some 55) rfl rfl Try.func18 (by kernel_rfl) rfl #[.slice Ao25 x8_1.length co25, .int .i64 (wrap64 (7 + (Int.tmod (wrap64 (a2)) 9)))] rfl (by arg_done) ?_; (with_reducible refine (wringerref7_Lengths.calls _ _ x8_1 (wrap64 (7 + (Int.tmod (wrap64 (a2)) 9))) t266 t269 _ ?side1 ?side2 A23.out).mono ?_); (case side1 => repeat (first | exact (Kd.R_reads' HO_8.out).2.2 | (with_reducible refine Kd.C_alloc ?_ _) | (with_reducible refine Kd.C_drewN ?_ _) | (with_reducible refine Kd.C_drew ?_))); (case side2 => exact (Kd.R_reads' HO_8.out).2.1); rintro e w_0 ⟨v267, rfl, ho0, hb⟩; refine ⟨_, rfl, ?_⟩; have n0_ := Aside0.mk (Kd.R_below (by (with_reducible repeat (first | apply Kd.R_alloc | apply Kd.R_drewN | apply Kd.R_drew)); exact HO_7.out) hb); have n1_ := Aside0.mk (Kd.R_elder' (by (with_reducible repeat (first | apply Kd.R_alloc | apply Kd.R_drewN | apply Kd.R_drew)); exact HO_8.out) (Kd.R_base ho0) hb); have n2_ := Aside0.mk (Kd.R_lower (Kd.R_new' ho0 (Kd.R_lt (by (with_reducible repeat (first | apply Kd.R_alloc | apply Kd.R_drewN | apply Kd.R_drew)); exact HO_8.out))) (below_size (by repeat (first | (with_reducible first | exact HB.out | apply below_alloc | apply pw_below_drewN | apply below_drew1) | exact HB.out)))); have n3_ := Aside0.mk (below_step (by repeat (first | (with_reducible first | exact HB.out | apply below_alloc | apply pw_below_drewN | apply below_drew1) | exact HB.out)) hb); clear HO_7; clear HO_8; clear HB; have HO_7 := n0_; have HO_8 := n1_; have HO268 := n2_; have HB := n3_; clear n0_ n1_ n2_ n3_; (try clear hb); (try clear hb2); (try clear hk); (try clear hi); (try clear ho0)))
          go_loopg [9, 12] k1 (fun kq v9 v12 w' => ∃ (x9_2 : Int) (x12_2 : Int), v9 = .int .i64 x9_2 ∧ v12 = .int .i64 x12_2 ∧ Aside0 (wringerlaw11_HuffBack.l1 kq t256 x9_2 t266 x12_2 = some r) ∧ Aside0 (kq ≤ k1) ∧ Aside0 (Kd.R k54 54 w' w.heap.size (fun _ => True) (.slice Ao24 t256.length co24) t256) ∧ Aside0 (Kd.R (Kd.int .i64) 3 w' w.heap.size (fun _ => True) v267 t266) ∧ Aside0 (Below w.heap.size w w'))
          case atStart => exact ⟨(0), (0), (by first | rfl | (simp; done) | (simp [*]; done)), (by first | rfl | (simp; done) | (simp [*]; done)), H', ⟨Nat.le_refl _⟩, ⟨by (with_reducible repeat (first | apply Kd.R_alloc | apply Kd.R_drewN | apply Kd.R_drew)); exact HO_7.out⟩, ⟨by (with_reducible repeat (first | apply Kd.R_alloc | apply Kd.R_drewN | apply Kd.R_drew)); exact Kd.R_mono HO268.out (fun _ hk => trivial)⟩, ⟨by repeat (first | (with_reducible first | exact HB.out | apply below_alloc | apply pw_below_drewN | apply below_drew1) | exact HB.out)⟩⟩
          case round =>
            clear H'
            try clear c1
            try clear p1
            try clear q1
            try clear hx1
            try clear c2
            try clear p2
            try clear q2
            try clear hx2
            try clear c4
            try clear c4b0
            try clear c4b1
            try clear c5
            try clear p6
            try clear c9
            try clear c14
            try clear c14b0
            try clear c15
            try clear c15b0
            try clear c16
            try clear c16b0
            try clear c17
            try clear c17b0
            try clear c18
            try clear p18
            try clear q18
            try clear hx18
            try clear hf18
            try clear c20
            try clear p26
            try clear q26
            try clear hx26
            try clear hx18_0
            try clear hx262_0
            try clear hx262_1
            try clear hx263_0
            try clear hx263_1
            try clear hx264_0
            try clear p18
            try clear p2
            try clear p262
            try clear p263
            try clear p264
            try clear q18
            try clear q262
            try clear q263
            try clear q264
            obtain ⟨x9_2, x12_2, rfl, rfl, HA, HK2, HO_7, HO_11, HB⟩ := hrel
            cases gk with
            | zero => exact absurd HA.out (by simp [wringerlaw11_HuffBack.l1])
            | succ k2 =>
              have H := HA.out
              clear HA
              simp only [wringerlaw11_HuffBack.l1] at H
              by_cases c27 : x12_2 < (t256.length : Int)
              · rw [if_pos c27] at H
                have c27b0 : decide (x12_2 < (t256.length : Int)) = true := decide_eq_true c27
                clear c27
                by_cases c28 : 0 ≤ x12_2
                · rw [if_pos c28] at H
                  have c28b0 : decide (0 ≤ x12_2) = true := decide_eq_true c28
                  clear c28
                  by_cases c29 : 0 ≤ ((rd_T54 t256 x12_2).f0)
                  · rw [if_pos c29] at H
                    have c29b0 : decide (0 ≤ ((rd_T54 t256 x12_2).f0)) = true := decide_eq_true c29
                    clear c29
                    by_cases c30 : ((rd_T54 t256 x12_2).f0) < (t266.length : Int)
                    · rw [if_pos c30] at H
                      have c30b0 : decide (((rd_T54 t256 x12_2).f0) < (t266.length : Int)) = true := decide_eq_true c30
                      clear c30
                      obtain ⟨ji31, hji31⟩ : ∃ j_ : Int, (mx 0 (wrap64 (((rd_T54 t256 x12_2).f0) - 1))) = j_ := ⟨_, rfl⟩
                      replace H : (wringerlaw11_HuffBack.l1 k2 t256 (wrap64 ((wrap64 (x9_2 + (rd t266 ((rd_T54 t256 x12_2).f0)))) + (ji31))) t266 (wrap64 (x12_2 + 1))) = some r := by first | (rw [hji31] at H; exact H) | (simp only [hji31] at H ⊢; exact H)
                      have hji31_ : (if 0 < (wrap64 (((rd_T54 t256 x12_2).f0) - 1)) then (wrap64 (((rd_T54 t256 x12_2).f0) - 1)) else 0) = ji31 := hji31
                      have H' := Aside0.mk H
                      clear H
                      try go_wp2
                      have n0_ := Aside0.mk (Kd.R_drew HO_7.out)
                      have n1_ := Aside0.mk (Kd.R_drew HO_11.out)
                      have n2_ := Aside0.mk (below_drew1 HB.out)
                      clear HO_7
                      clear HO_11
                      clear HB
                      have HO_7 := n0_
                      have HO_11 := n1_
                      have HB := n2_
                      clear n0_ n1_ n2_
                      have p270 : 0 ≤ (x12_2 : Int) := of_decide_eq_true (by first | (with_reducible assumption) | assumption)
                      have q270 : x12_2 < (t256.length : Int) := of_decide_eq_true (by first | (with_reducible assumption) | assumption)
                      obtain ⟨ad270, e270, hx270_0, hx270_1⟩ := at_T54 (Kd.R_reads' HO_7.out).2.2 x12_2 p270 q270
                      cases e270
                      replace p270 := eq_true p270
                      replace q270 := eq_true q270
                      obtain ⟨Ao33, co33, eo33⟩ := Kd.R_slice HO_11.out
                      (first | subst eo33 | (injection eo33 with f1_ f2_ f3_; have f4_ := f1_.symm; have f5_ := f3_.symm; clear f1_ f2_ f3_; subst f4_; subst f5_))
                      have p271 : 0 ≤ (((rd_T54 t256 x12_2).f0) : Int) := of_decide_eq_true (by first | (with_reducible assumption) | assumption)
                      have q271 : ((rd_T54 t256 x12_2).f0) < (t266.length : Int) := of_decide_eq_true (by first | (with_reducible assumption) | assumption)
                      obtain ⟨ad271, e271, hx271_0⟩ := Kd.at_int (Kd.R_reads' HO_11.out).2.2 ((rd_T54 t256 x12_2).f0) p271 q271
                      cases e271
                      replace p271 := eq_true p271
                      replace q271 := eq_true q271
                      have p272 : 0 ≤ (x12_2 : Int) := of_decide_eq_true (by first | (with_reducible assumption) | assumption)
                      have q272 : x12_2 < (t256.length : Int) := of_decide_eq_true (by first | (with_reducible assumption) | assumption)
                      obtain ⟨ad272, e272, hx272_0, hx272_1⟩ := at_T54 (Kd.R_reads' HO_7.out).2.2 x12_2 p272 q272
                      obtain rfl : ad270 = ad272 := (by injection e272)
                      replace p272 := eq_true p272
                      replace q272 := eq_true q272
                      refine start_ (n := 19) (S := fun w' => w'.cell? (ad270.add ((x12_2).toNat * 2)) = some (.int .i64 ((rd_T54 t256 x12_2).f0)) ∧ w'.cell? ⟨(ad270.add ((x12_2).toNat * 2)).block, (ad270.add ((x12_2).toNat * 2)).off + 1, none⟩ = some (.int .u64 ((rd_T54 t256 x12_2).f1)) ∧ w'.cell? (ad271.add (((rd_T54 t256 x12_2).f0)).toNat) = some (.int .i64 (rd t266 ((rd_T54 t256 x12_2).f0))) ∧ w'.cell? (ad270.add ((x12_2).toNat * 2)) = some (.int .i64 ((rd_T54 t256 x12_2).f0)) ∧ w'.cell? ⟨(ad270.add ((x12_2).toNat * 2)).block, (ad270.add ((x12_2).toNat * 2)).off + 1, none⟩ = some (.int .u64 ((rd_T54 t256 x12_2).f1))) (ds := []) #[F0,F0,F0,F0,F0,F0,F0,F0,F0,F0,F0,F0,F0,F0,F0,F0,F0,F0,F0] (by kernel_rfl) rfl rfl ⟨hx270_0, hx270_1, hx271_0, hx272_0, hx272_1⟩ (fun hHeld => ?_); refine with_tabW wringerlaw11_HuffBack.tab14 wringerlaw11_HuffBack.bits14 (fun HT_ HW_ => ?_)
                      generalize wr.drew = w32 at HO_7 HO_11 HB hx270_0 hx270_1 hx271_0 hx272_0 hx272_1 hHeld ⊢
                      refine pure_ (i := 0) (N := some 63) (v := ?_) (a' := ?_) #[T1,F0,F0,F0,F0,F0,F0,F0,F0,F0,F0,F0,F0,F0,F0,F0,F0,F0,F0] rfl rfl (any_of HT_.out (by kernel_rfl)) (fun _ _ _ h => h) (Or.inl ⟨by rfl, ?_⟩) ?_ ?_
                      rotate_left
                      · intro w'
                        go_simp
                        with_reducible rfl
                      rotate_left
                      · act_put
                        rfl
                      refine pure_ (i := 1) (N := some 64) (v := ?_) (a' := ?_) #[T1,T1,F0,F0,F0,F0,F0,F0,F0,F0,F0,F0,F0,F0,F0,F0,F0,F0,F0] rfl rfl (any_of HT_.out (by kernel_rfl)) (fun _ _ _ h => h) (Or.inl ⟨by rfl, ?_⟩) ?_ ?_
                      rotate_left
                      · intro w'
                        go_simp
                        with_reducible rfl
                      rotate_left
                      · act_put
                        rfl
                      refine pure_ (i := 2) (N := some 65) (v := ?_) (a' := ?_) #[T1,T1,T1,F0,F0,F0,F0,F0,F0,F0,F0,F0,F0,F0,F0,F0,F0,F0,F0] rfl rfl (any_of HT_.out (by kernel_rfl)) (fun _ _ _ h => h) (Or.inl ⟨by rfl, ?_⟩) ?_ ?_
                      rotate_left
                      · intro w'
                        go_simp
                        with_reducible rfl
                      rotate_left
                      · act_put
                        rfl
                      refine pure_ (i := 3) (N := some 66) (v := ?_) (a' := ?_) #[T1,T1,T1,T1,F0,F0,F0,F0,F0,F0,F0,F0,F0,F0,F0,F0,F0,F0,F0] rfl rfl (any_of HT_.out (by kernel_rfl)) (fun _ _ _ h => h) (Or.inl ⟨by rfl, ?_⟩) ?_ ?_
                      rotate_left
                      · intro w'
                        go_simp
                        with_reducible rfl
                      rotate_left
                      · act_put
                        rfl
                      refine pure_ (i := 4) (N := some 67) (v := ?_) (a' := ?_) #[T1,T1,T1,T1,T1,F0,F0,F0,F0,F0,F0,F0,F0,F0,F0,F0,F0,F0,F0] rfl rfl (any_of HT_.out (by kernel_rfl)) (fun _ _ _ h => h) (Or.inl ⟨by rfl, ?_⟩) ?_ ?_
                      rotate_left
                      · intro w'
                        go_simp
                        with_reducible rfl
                      rotate_left
                      · act_put
                        rfl
                      refine pure_ (i := 5) (N := some 68) (v := ?_) (a' := ?_) #[T1,T1,T1,T1,T1,T1,F0,F0,F0,F0,F0,F0,F0,F0,F0,F0,F0,F0,F0] rfl rfl (any_of HT_.out (by kernel_rfl)) (fun _ _ _ h => h) (Or.inl ⟨by rfl, ?_⟩) ?_ ?_
                      rotate_left
                      · intro w'
                        go_simp
                        with_reducible rfl
                      rotate_left
                      · act_put
                        rfl
                      refine pure_ (i := 10) (N := some 73) (v := ?_) (a' := ?_) #[T1,T1,T1,T1,T1,T1,F0,F0,F0,F0,T1,F0,F0,F0,F0,F0,F0,F0,F0] rfl rfl (any_of HT_.out (by kernel_rfl)) (fun _ _ _ h => h) (Or.inl ⟨by rfl, ?_⟩) ?_ ?_
                      rotate_left
                      · intro w'
                        go_simp
                        with_reducible rfl
                      rotate_left
                      · act_put
                        rfl
                      refine pure_ (i := 11) (N := some 74) (v := ?_) (a' := ?_) #[T1,T1,T1,T1,T1,T1,F0,F0,F0,F0,T1,T1,F0,F0,F0,F0,F0,F0,F0] rfl rfl (any_of HT_.out (by kernel_rfl)) (fun _ _ _ h => h) (Or.inl ⟨by rfl, ?_⟩) ?_ ?_
                      rotate_left
                      · intro w'
                        go_simp
                        with_reducible rfl
                      rotate_left
                      · act_put
                        rfl
                      refine pure_ (i := 12) (N := some 75) (v := ?_) (a' := ?_) #[T1,T1,T1,T1,T1,T1,F0,F0,F0,F0,T1,T1,T1,F0,F0,F0,F0,F0,F0] rfl rfl (any_of HT_.out (by kernel_rfl)) (fun _ _ _ h => h) (Or.inl ⟨by rfl, ?_⟩) ?_ ?_
                      rotate_left
                      · intro w'
                        go_simp
                        with_reducible rfl
                      rotate_left
                      · act_put
                        rfl
                      refine pure_ (i := 13) (N := some 76) (v := ?_) (a' := ?_) #[T1,T1,T1,T1,T1,T1,F0,F0,F0,F0,T1,T1,T1,T1,F0,F0,F0,F0,F0] rfl rfl (any_of HT_.out (by kernel_rfl)) (fun _ _ _ h => h) (Or.inl ⟨by rfl, ?_⟩) ?_ ?_
                      rotate_left
                      · intro w'
                        go_simp
                        with_reducible rfl
                      rotate_left
                      · act_put
                        rfl
                      refine take_ (i := 6) (N := some 69) (v := ?_) (a' := ?_) #[T1,T1,T1,T1,T1,T1,T1,F0,F0,F0,T1,T1,T1,T1,F0,F0,F0,F0,F0] rfl rfl (take_ofW HT_.out HW_.out (by kernel_rfl)) (fun _ _ _ h => h) (Or.inl ⟨by rfl, ?_⟩) hHeld ?_ ?_
                      rotate_left
                      · rintro w' ⟨s0, s1, s2, s3, s4⟩
                        go_simp
                        with_reducible rfl
                      rotate_left
                      · act_put
                        rfl
                      refine pure_ (i := 7) (N := some 70) (v := ?_) (a' := ?_) #[T1,T1,T1,T1,T1,T1,T1,T1,F0,F0,T1,T1,T1,T1,F0,F0,F0,F0,F0] rfl rfl (any_of HT_.out (by kernel_rfl)) (fun _ _ _ h => h) (Or.inl ⟨by rfl, ?_⟩) ?_ ?_
                      rotate_left
                      · intro w'
                        go_simp
                        with_reducible rfl
                      rotate_left
                      · act_put
                        rfl
                      refine take_ (i := 8) (N := some 71) (v := ?_) (a' := ?_) #[T1,T1,T1,T1,T1,T1,T1,T1,T1,F0,T1,T1,T1,T1,F0,F0,F0,F0,F0] rfl rfl (take_ofW HT_.out HW_.out (by kernel_rfl)) (fun _ _ _ h => h) (Or.inl ⟨by rfl, ?_⟩) hHeld ?_ ?_
                      rotate_left
                      · rintro w' ⟨s0, s1, s2, s3, s4⟩
                        go_simp
                        with_reducible rfl
                      rotate_left
                      · act_put
                        rfl
                      refine pure_ (i := 9) (N := some 72) (v := ?_) (a' := ?_) #[T1,T1,T1,T1,T1,T1,T1,T1,T1,T1,T1,T1,T1,T1,F0,F0,F0,F0,F0] rfl rfl (any_of HT_.out (by kernel_rfl)) (fun _ _ _ h => h) (Or.inl ⟨by rfl, ?_⟩) ?_ ?_
                      rotate_left
                      · intro w'
                        go_simp
                        with_reducible rfl
                      rotate_left
                      · act_put
                        rfl
                      refine take_ (i := 14) (N := some 77) (v := ?_) (a' := ?_) #[T1,T1,T1,T1,T1,T1,T1,T1,T1,T1,T1,T1,T1,T1,T1,F0,F0,F0,F0] rfl rfl (take_ofW HT_.out HW_.out (by kernel_rfl)) (fun _ _ _ h => h) (Or.inl ⟨by rfl, ?_⟩) hHeld ?_ ?_
                      rotate_left
                      · rintro w' ⟨s0, s1, s2, s3, s4⟩
                        go_simp
                        with_reducible rfl
                      rotate_left
                      · act_put
                        rfl
                      refine pure_ (i := 15) (N := some 78) (v := ?_) (a' := ?_) #[T1,T1,T1,T1,T1,T1,T1,T1,T1,T1,T1,T1,T1,T1,T1,T1,F0,F0,F0] rfl rfl (any_of HT_.out (by kernel_rfl)) (fun _ _ _ h => h) (Or.inl ⟨by rfl, ?_⟩) ?_ ?_
                      rotate_left
                      · intro w'
                        go_simp
                        with_reducible rfl
                      rotate_left
                      · act_put
                        rfl
                      refine pure_ (i := 16) (N := some 79) (v := ?_) (a' := ?_) #[T1,T1,T1,T1,T1,T1,T1,T1,T1,T1,T1,T1,T1,T1,T1,T1,T1,F0,F0] rfl rfl (any_of HT_.out (by kernel_rfl)) (fun _ _ _ h => h) (Or.inl ⟨by rfl, ?_⟩) ?_ ?_
                      rotate_left
                      · intro w'
                        go_simp
                        with_reducible rfl
                      rotate_left
                      · act_put
                        rfl
                      refine pure_ (i := 17) (N := some 80) (v := ?_) (a' := ?_) #[T1,T1,T1,T1,T1,T1,T1,T1,T1,T1,T1,T1,T1,T1,T1,T1,T1,T1,F0] rfl rfl (any_of HT_.out (by kernel_rfl)) (fun _ _ _ h => h) (Or.inl ⟨by rfl, ?_⟩) ?_ ?_
                      rotate_left
                      · intro w'
                        go_simp
                        with_reducible rfl
                      rotate_left
                      · act_put
                        rfl
                      refine pure_ (i := 18) (N := some 9) (v := ?_) (a' := ?_) #[T1,T1,T1,T1,T1,T1,T1,T1,T1,T1,T1,T1,T1,T1,T1,T1,T1,T1,T1] rfl rfl (any_of HT_.out (by kernel_rfl)) (fun _ _ _ h => h) (Or.inl ⟨by rfl, ?_⟩) ?_ ?_
                      rotate_left
                      · intro w'
                        go_simp
                        with_reducible rfl
                      rotate_left
                      · act_put
                        rfl
                      refine done_ (done_of HT_.out (by kernel_rfl)) ?_
                      try go_wp2
                      go_roundg k2
                      case measure => have := HK1.out; have := HK2.out; omega
                      case rel => exact ⟨(wrap64 ((wrap64 (x9_2 + (rd t266 ((rd_T54 t256 x12_2).f0)))) + (ji31))), (wrap64 (x12_2 + 1)), (by first | rfl | (simp; done) | (simp only [← hji31] <;> (first | rfl | simp)) | (simp [*]; done)), (by first | rfl | (simp; done) | (simp [*]; done)), H', ⟨by have := HK1.out; have := HK2.out; omega⟩, ⟨by (with_reducible repeat (first | apply Kd.R_alloc | apply Kd.R_drewN | apply Kd.R_drew)); exact HO_7.out⟩, ⟨by (with_reducible repeat (first | apply Kd.R_alloc | apply Kd.R_drewN | apply Kd.R_drew)); exact HO_11.out⟩, ⟨by repeat (first | (with_reducible first | exact HB.out | apply below_alloc | apply pw_below_drewN | apply below_drew1) | exact HB.out)⟩⟩
                    · rw [if_neg c30] at H
                      exact absurd H (by simp)
                  · rw [if_neg c29] at H
                    exact absurd H (by simp)
                · rw [if_neg c28] at H
                  exact absurd H (by simp)
              · rw [if_neg c27] at H
                have c27b0 : decide (x12_2 < (t256.length : Int)) = false := decide_eq_false c27
                clear c27
                replace H := Option.bind_eq_some_iff.mp H
                obtain ⟨⟨t273, t274⟩, A340, H⟩ := H
                replace H : ((huff_Get.f t273 (t256.length : Int) t266).bind fun bt275 => (if t273.size + 1 ≤ 9223372036854775807 then ((huff_Get.f (t273 ++ (⟨#[0]⟩ : ByteArray)) (t256.length : Int) t266).bind fun bt279 => ((wringerlaw1_Err.f t274).bind fun t283 => ((wringerlaw1_Err.f bt275.2).bind fun t284 => (if (wrap64 (t283 + t284)) = 0 then ((wringerref7_SameParts.f k2 bt275.1 t256).bind fun t285 => (if t285 = true then (if (t273.size : Int) = (wrap64 (Int.tdiv (wrap64 (x9_2 + 7)) 8)) then ((wringerlaw1_Err.f bt279.2).bind fun t286 => (if t286 = 3 then ((wringerlaw11_awake.f k2).bind fun t287 => (some t287)) else (some false))) else (some false)) else (some false))) else (some false))))) else (none))) = some r := H
                have A34 := Aside0.mk A340
                clear A340
                replace H := Option.bind_eq_some_iff.mp H
                obtain ⟨⟨t275, t276⟩, A350, H⟩ := H
                replace H : (if t273.size + 1 ≤ 9223372036854775807 then ((huff_Get.f (t273 ++ (⟨#[0]⟩ : ByteArray)) (t256.length : Int) t266).bind fun bt279 => ((wringerlaw1_Err.f t274).bind fun t283 => ((wringerlaw1_Err.f t276).bind fun t284 => (if (wrap64 (t283 + t284)) = 0 then ((wringerref7_SameParts.f k2 t275 t256).bind fun t285 => (if t285 = true then (if (t273.size : Int) = (wrap64 (Int.tdiv (wrap64 (x9_2 + 7)) 8)) then ((wringerlaw1_Err.f bt279.2).bind fun t286 => (if t286 = 3 then ((wringerlaw11_awake.f k2).bind fun t287 => (some t287)) else (some false))) else (some false)) else (some false))) else (some false))))) else (none)) = some r := H
                have A35 := Aside0.mk A350
                clear A350
                by_cases c36 : t273.size + 1 ≤ 9223372036854775807
                · rw [if_pos c36] at H
                  have c36b0 := eq_true c36
                  have c36b1 : decide (t273.size + 1 ≤ 9223372036854775807) = true := decide_eq_true c36
                  try have c36b2 : (9223372036854775807 < t273.size + 1) = False := eq_false (Nat.not_lt.2 c36)
                  replace H := Option.bind_eq_some_iff.mp H
                  obtain ⟨⟨t279, t280⟩, A370, H⟩ := H
                  replace H : ((wringerlaw1_Err.f t274).bind fun t283 => ((wringerlaw1_Err.f t276).bind fun t284 => (if (wrap64 (t283 + t284)) = 0 then ((wringerref7_SameParts.f k2 t275 t256).bind fun t285 => (if t285 = true then (if (t273.size : Int) = (wrap64 (Int.tdiv (wrap64 (x9_2 + 7)) 8)) then ((wringerlaw1_Err.f t280).bind fun t286 => (if t286 = 3 then ((wringerlaw11_awake.f k2).bind fun t287 => (some t287)) else (some false))) else (some false)) else (some false))) else (some false)))) = some r := H
                  have A37 := Aside0.mk A370
                  clear A370
                  replace H := Option.bind_eq_some_iff.mp H
                  obtain ⟨t283, A380, H⟩ := H
                  replace H : ((wringerlaw1_Err.f t276).bind fun t284 => (if (wrap64 (t283 + t284)) = 0 then ((wringerref7_SameParts.f k2 t275 t256).bind fun t285 => (if t285 = true then (if (t273.size : Int) = (wrap64 (Int.tdiv (wrap64 (x9_2 + 7)) 8)) then ((wringerlaw1_Err.f t280).bind fun t286 => (if t286 = 3 then ((wringerlaw11_awake.f k2).bind fun t287 => (some t287)) else (some false))) else (some false)) else (some false))) else (some false))) = some r := H
                  have A38 := Aside0.mk A380
                  clear A380
                  replace H := Option.bind_eq_some_iff.mp H
                  obtain ⟨t284, A390, H⟩ := H
                  replace H : (if (wrap64 (t283 + t284)) = 0 then ((wringerref7_SameParts.f k2 t275 t256).bind fun t285 => (if t285 = true then (if (t273.size : Int) = (wrap64 (Int.tdiv (wrap64 (x9_2 + 7)) 8)) then ((wringerlaw1_Err.f t280).bind fun t286 => (if t286 = 3 then ((wringerlaw11_awake.f k2).bind fun t287 => (some t287)) else (some false))) else (some false)) else (some false))) else (some false)) = some r := H
                  have A39 := Aside0.mk A390
                  clear A390
                  by_cases c40 : (wrap64 (t283 + t284)) = 0
                  · rw [if_pos c40] at H
                    have c40b0 : ((wrap64 (t283 + t284)) == 0) = true := beq_iff_eq.mpr c40
                    have c40b1 : ((wrap64 (t283 + t284)) != 0) = false := bne_eq_false_iff_eq.mpr c40
                    clear c40
                    replace H := Option.bind_eq_some_iff.mp H
                    obtain ⟨t285, A410, H⟩ := H
                    replace H : (if t285 = true then (if (t273.size : Int) = (wrap64 (Int.tdiv (wrap64 (x9_2 + 7)) 8)) then ((wringerlaw1_Err.f t280).bind fun t286 => (if t286 = 3 then ((wringerlaw11_awake.f k2).bind fun t287 => (some t287)) else (some false))) else (some false)) else (some false)) = some r := H
                    have A41 := Aside0.mk A410
                    clear A410
                    by_cases c42 : t285 = true
                    · subst c42
                      have H1 : (if (t273.size : Int) = (wrap64 (Int.tdiv (wrap64 (x9_2 + 7)) 8)) then ((wringerlaw1_Err.f t280).bind fun t286 => (if t286 = 3 then ((wringerlaw11_awake.f k2).bind fun t287 => (some t287)) else (some false))) else (some false)) = some r := by rw [if_pos rfl] at H; exact H
                      clear H
                      have H := H1
                      clear H1
                      by_cases c43 : (t273.size : Int) = (wrap64 (Int.tdiv (wrap64 (x9_2 + 7)) 8))
                      · rw [if_pos c43] at H
                        have c43b0 : ((t273.size : Int) == (wrap64 (Int.tdiv (wrap64 (x9_2 + 7)) 8))) = true := beq_iff_eq.mpr c43
                        have c43b1 : ((t273.size : Int) != (wrap64 (Int.tdiv (wrap64 (x9_2 + 7)) 8))) = false := bne_eq_false_iff_eq.mpr c43
                        clear c43
                        replace H := Option.bind_eq_some_iff.mp H
                        obtain ⟨t286, A440, H⟩ := H
                        replace H : (if t286 = 3 then ((wringerlaw11_awake.f k2).bind fun t287 => (some t287)) else (some false)) = some r := H
                        have A44 := Aside0.mk A440
                        clear A440
                        by_cases c45 : t286 = 3
                        · rw [if_pos c45] at H
                          have c45b0 : (t286 == 3) = true := beq_iff_eq.mpr c45
                          have c45b1 : (t286 != 3) = false := bne_eq_false_iff_eq.mpr c45
                          clear c45
                          replace H := Option.bind_eq_some_iff.mp H
                          obtain ⟨t287, A460, H⟩ := H
                          replace H : (some t287) = some r := H
                          have A46 := Aside0.mk A460
                          clear A460
                          obtain rfl := Option.some.inj H
                          obtain ⟨Ao47, co47, eo47⟩ := Kd.R_slice HO_11.out
                          subst eo47
                          go_wp2_with (first | ((with_reducible refine gate_callee (f := 10) rfl ?_); refine goesL_ (some 84) rfl rfl Try.func10 (by kernel_rfl) rfl #[.slice Ao24 t256.length co24, .slice Ao47 t266.length co47] rfl (by arg_done) ?_; (with_reducible refine (huff_Put.calls k2 _ _ t256 _ _ t266 t273 t274 _ ?side1 ?side2 ?side3 ?side4 A34.out).mono ?_); (case side1 => repeat (first | exact (Kd.R_reads' HO_7.out).2.2 | (with_reducible refine Kd.C_alloc ?_ _) | (with_reducible refine Kd.C_drewN ?_ _) | (with_reducible refine Kd.C_drew ?_))); (case side2 => exact (Kd.R_reads' HO_7.out).2.1); (case side3 => repeat (first | exact (Kd.R_reads' HO_11.out).2.2 | (with_reducible refine Kd.C_alloc ?_ _) | (with_reducible refine Kd.C_drewN ?_ _) | (with_reducible refine Kd.C_drew ?_))); (case side4 => exact (Kd.R_reads' HO_11.out).2.1); rintro e w_0 ⟨rfl, hb⟩; refine ⟨_, rfl, ?_⟩; have n0_ := Aside0.mk (Kd.R_below (by (with_reducible repeat (first | apply Kd.R_alloc | apply Kd.R_drewN | apply Kd.R_drew)); exact HO_7.out) hb); have n1_ := Aside0.mk (Kd.R_below (by (with_reducible repeat (first | apply Kd.R_alloc | apply Kd.R_drewN | apply Kd.R_drew)); exact HO_11.out) hb); have n2_ := Aside0.mk (below_step (by repeat (first | (with_reducible first | exact HB.out | apply below_alloc | apply pw_below_drewN | apply below_drew1) | exact HB.out)) hb); clear HO_7; clear HO_11; clear HB; have HO_7 := n0_; have HO_11 := n1_; have HB := n2_; clear n0_ n1_ n2_; (try clear hb); (try clear hb2); (try clear hk); (try clear hi)) | ((with_reducible refine gate_callee (f := 12) rfl ?_); refine goesL_ (some 92) rfl rfl Try.func12 (by kernel_rfl) rfl #[.string t273, .int .i64 (t256.length : Int), .slice Ao47 t266.length co47] rfl (by arg_done) ?_; (with_reducible refine (huff_Get.calls t273 (t256.length : Int) _ _ t266 t275 t276 _ ?side1 ?side2 A35.out).mono ?_); (case side1 => repeat (first | exact (Kd.R_reads' HO_11.out).2.2 | (with_reducible refine Kd.C_alloc ?_ _) | (with_reducible refine Kd.C_drewN ?_ _) | (with_reducible refine Kd.C_drew ?_))); (case side2 => exact (Kd.R_reads' HO_11.out).2.1); rintro e w_1 ⟨v277, rfl, ho0, hb⟩; refine ⟨_, rfl, ?_⟩; have n0_ := Aside0.mk (Kd.R_elder' (by (with_reducible repeat (first | apply Kd.R_alloc | apply Kd.R_drewN | apply Kd.R_drew)); exact HO_7.out) (Kd.R_base ho0) hb); have n1_ := Aside0.mk (Kd.R_below (by (with_reducible repeat (first | apply Kd.R_alloc | apply Kd.R_drewN | apply Kd.R_drew)); exact HO_11.out) hb); have n2_ := Aside0.mk (Kd.R_lower (Kd.R_new' ho0 (Kd.R_lt (by (with_reducible repeat (first | apply Kd.R_alloc | apply Kd.R_drewN | apply Kd.R_drew)); exact HO_7.out))) (below_size (by repeat (first | (with_reducible first | exact HB.out | apply below_alloc | apply pw_below_drewN | apply below_drew1) | exact HB.out)))); have n3_ := Aside0.mk (below_step (by repeat (first | (with_reducible first | exact HB.out | apply below_alloc | apply pw_below_drewN | apply below_drew1) | exact HB.out)) hb); clear HO_7; clear HO_11; clear HB; have HO_7 := n0_; have HO_11 := n1_; have HO278 := n2_; have HB := n3_; clear n0_ n1_ n2_ n3_; (try clear hb); (try clear hb2); (try clear hk); (try clear hi); (try clear ho0)) | ((with_reducible refine gate_callee (f := 12) rfl ?_); refine goesL_ (some 101) rfl rfl Try.func12 (by kernel_rfl) rfl #[.string (t273 ++ (⟨#[0]⟩ : ByteArray)), .int .i64 (t256.length : Int), .slice Ao47 t266.length co47] rfl (by arg_done) ?_; (with_reducible refine (huff_Get.calls (t273 ++ (⟨#[0]⟩ : ByteArray)) (t256.length : Int) _ _ t266 t279 t280 _ ?side1 ?side2 A37.out).mono ?_); (case side1 => repeat (first | exact (Kd.R_reads' HO_11.out).2.2 | (with_reducible refine Kd.C_alloc ?_ _) | (with_reducible refine Kd.C_drewN ?_ _) | (with_reducible refine Kd.C_drew ?_))); (case side2 => exact (Kd.R_reads' HO_11.out).2.1); rintro e w_2 ⟨v281, rfl, ho0, hb⟩; refine ⟨_, rfl, ?_⟩; have n0_ := Aside0.mk (Kd.R_elder' (by (with_reducible repeat (first | apply Kd.R_alloc | apply Kd.R_drewN | apply Kd.R_drew)); exact HO_7.out) (Kd.R_base ho0) hb); have n1_ := Aside0.mk (Kd.R_below (by (with_reducible repeat (first | apply Kd.R_alloc | apply Kd.R_drewN | apply Kd.R_drew)); exact HO_11.out) hb); have n2_ := Aside0.mk (Kd.R_elder' (by (with_reducible repeat (first | apply Kd.R_alloc | apply Kd.R_drewN | apply Kd.R_drew)); exact HO278.out) (Kd.R_base ho0) hb); have n3_ := Aside0.mk (Kd.R_lower (Kd.R_new' (Kd.R_new' ho0 (Kd.R_lt (by (with_reducible repeat (first | apply Kd.R_alloc | apply Kd.R_drewN | apply Kd.R_drew)); exact HO_7.out))) (Kd.R_lt (by (with_reducible repeat (first | apply Kd.R_alloc | apply Kd.R_drewN | apply Kd.R_drew)); exact HO278.out))) (below_size (by repeat (first | (with_reducible first | exact HB.out | apply below_alloc | apply pw_below_drewN | apply below_drew1) | exact HB.out)))); have n4_ := Aside0.mk (below_step (by repeat (first | (with_reducible first | exact HB.out | apply below_alloc | apply pw_below_drewN | apply below_drew1) | exact HB.out)) hb); clear HO_7; clear HO_11; clear HO278; clear HB; have HO_7 := n0_; have HO_11 := n1_; have HO278 := n2_; have HO282 := n3_; have HB := n4_; clear n0_ n1_ n2_ n3_ n4_; (try clear hb); (try clear hb2); (try clear hk); (try clear hi); (try clear ho0)) | arm_0 | arm_1 | arm_2 | arm_3 | (go_at_call 9; (with_reducible refine (wringerlaw11_awake.calls k2  t287 _ A46.out).mono ?_); rintro e w_3 ⟨rfl, hb⟩; have n0_ := Aside0.mk (Kd.R_below (by (with_reducible repeat (first | apply Kd.R_alloc | apply Kd.R_drewN | apply Kd.R_drew)); exact HO_7.out) hb); have n1_ := Aside0.mk (Kd.R_below (by (with_reducible repeat (first | apply Kd.R_alloc | apply Kd.R_drewN | apply Kd.R_drew)); exact HO_11.out) hb); have n2_ := Aside0.mk (Kd.R_below (by (with_reducible repeat (first | apply Kd.R_alloc | apply Kd.R_drewN | apply Kd.R_drew)); exact HO278.out) hb); have n3_ := Aside0.mk (Kd.R_below (by (with_reducible repeat (first | apply Kd.R_alloc | apply Kd.R_drewN | apply Kd.R_drew)); exact HO282.out) hb); have n4_ := Aside0.mk (below_step (by repeat (first | (with_reducible first | exact HB.out | apply below_alloc | apply pw_below_drewN | apply below_drew1) | exact HB.out)) hb); clear HO_7; clear HO_11; clear HO278; clear HO282; clear HB; have HO_7 := n0_; have HO_11 := n1_; have HO278 := n2_; have HO282 := n3_; have HB := n4_; clear n0_ n1_ n2_ n3_ n4_; (try clear hb); (try clear hb2); (try clear hk); (try clear hi)))
                          go_ret
                          exact ⟨by first | rfl | (simp [errW_none, errW_some] <;> rfl) | (simp [*, errW_none, errW_some] <;> rfl), by repeat (first | (with_reducible first | exact HB.out | apply below_alloc | apply pw_below_drewN | apply below_drew1) | exact HB.out)⟩
                        · rw [if_neg c45] at H
                          have c45b0 : (t286 == 3) = false := beq_eq_false_iff_ne.mpr c45
                          have c45b1 : (t286 != 3) = true := bne_iff_ne.mpr c45
                          obtain rfl := Option.some.inj H
                          obtain ⟨Ao53, co53, eo53⟩ := Kd.R_slice HO_11.out
                          subst eo53
                          go_wp2_with (first | ((with_reducible refine gate_callee (f := 10) rfl ?_); refine goesL_ (some 84) rfl rfl Try.func10 (by kernel_rfl) rfl #[.slice Ao24 t256.length co24, .slice Ao53 t266.length co53] rfl (by arg_done) ?_; (with_reducible refine (huff_Put.calls k2 _ _ t256 _ _ t266 t273 t274 _ ?side1 ?side2 ?side3 ?side4 A34.out).mono ?_); (case side1 => repeat (first | exact (Kd.R_reads' HO_7.out).2.2 | (with_reducible refine Kd.C_alloc ?_ _) | (with_reducible refine Kd.C_drewN ?_ _) | (with_reducible refine Kd.C_drew ?_))); (case side2 => exact (Kd.R_reads' HO_7.out).2.1); (case side3 => repeat (first | exact (Kd.R_reads' HO_11.out).2.2 | (with_reducible refine Kd.C_alloc ?_ _) | (with_reducible refine Kd.C_drewN ?_ _) | (with_reducible refine Kd.C_drew ?_))); (case side4 => exact (Kd.R_reads' HO_11.out).2.1); rintro e w_0 ⟨rfl, hb⟩; refine ⟨_, rfl, ?_⟩; have n0_ := Aside0.mk (Kd.R_below (by (with_reducible repeat (first | apply Kd.R_alloc | apply Kd.R_drewN | apply Kd.R_drew)); exact HO_7.out) hb); have n1_ := Aside0.mk (Kd.R_below (by (with_reducible repeat (first | apply Kd.R_alloc | apply Kd.R_drewN | apply Kd.R_drew)); exact HO_11.out) hb); have n2_ := Aside0.mk (below_step (by repeat (first | (with_reducible first | exact HB.out | apply below_alloc | apply pw_below_drewN | apply below_drew1) | exact HB.out)) hb); clear HO_7; clear HO_11; clear HB; have HO_7 := n0_; have HO_11 := n1_; have HB := n2_; clear n0_ n1_ n2_; (try clear hb); (try clear hb2); (try clear hk); (try clear hi)) | ((with_reducible refine gate_callee (f := 12) rfl ?_); refine goesL_ (some 92) rfl rfl Try.func12 (by kernel_rfl) rfl #[.string t273, .int .i64 (t256.length : Int), .slice Ao53 t266.length co53] rfl (by arg_done) ?_; (with_reducible refine (huff_Get.calls t273 (t256.length : Int) _ _ t266 t275 t276 _ ?side1 ?side2 A35.out).mono ?_); (case side1 => repeat (first | exact (Kd.R_reads' HO_11.out).2.2 | (with_reducible refine Kd.C_alloc ?_ _) | (with_reducible refine Kd.C_drewN ?_ _) | (with_reducible refine Kd.C_drew ?_))); (case side2 => exact (Kd.R_reads' HO_11.out).2.1); rintro e w_1 ⟨v277, rfl, ho0, hb⟩; refine ⟨_, rfl, ?_⟩; have n0_ := Aside0.mk (Kd.R_elder' (by (with_reducible repeat (first | apply Kd.R_alloc | apply Kd.R_drewN | apply Kd.R_drew)); exact HO_7.out) (Kd.R_base ho0) hb); have n1_ := Aside0.mk (Kd.R_below (by (with_reducible repeat (first | apply Kd.R_alloc | apply Kd.R_drewN | apply Kd.R_drew)); exact HO_11.out) hb); have n2_ := Aside0.mk (Kd.R_lower (Kd.R_new' ho0 (Kd.R_lt (by (with_reducible repeat (first | apply Kd.R_alloc | apply Kd.R_drewN | apply Kd.R_drew)); exact HO_7.out))) (below_size (by repeat (first | (with_reducible first | exact HB.out | apply below_alloc | apply pw_below_drewN | apply below_drew1) | exact HB.out)))); have n3_ := Aside0.mk (below_step (by repeat (first | (with_reducible first | exact HB.out | apply below_alloc | apply pw_below_drewN | apply below_drew1) | exact HB.out)) hb); clear HO_7; clear HO_11; clear HB; have HO_7 := n0_; have HO_11 := n1_; have HO278 := n2_; have HB := n3_; clear n0_ n1_ n2_ n3_; (try clear hb); (try clear hb2); (try clear hk); (try clear hi); (try clear ho0)) | ((with_reducible refine gate_callee (f := 12) rfl ?_); refine goesL_ (some 101) rfl rfl Try.func12 (by kernel_rfl) rfl #[.string (t273 ++ (⟨#[0]⟩ : ByteArray)), .int .i64 (t256.length : Int), .slice Ao53 t266.length co53] rfl (by arg_done) ?_; (with_reducible refine (huff_Get.calls (t273 ++ (⟨#[0]⟩ : ByteArray)) (t256.length : Int) _ _ t266 t279 t280 _ ?side1 ?side2 A37.out).mono ?_); (case side1 => repeat (first | exact (Kd.R_reads' HO_11.out).2.2 | (with_reducible refine Kd.C_alloc ?_ _) | (with_reducible refine Kd.C_drewN ?_ _) | (with_reducible refine Kd.C_drew ?_))); (case side2 => exact (Kd.R_reads' HO_11.out).2.1); rintro e w_2 ⟨v281, rfl, ho0, hb⟩; refine ⟨_, rfl, ?_⟩; have n0_ := Aside0.mk (Kd.R_elder' (by (with_reducible repeat (first | apply Kd.R_alloc | apply Kd.R_drewN | apply Kd.R_drew)); exact HO_7.out) (Kd.R_base ho0) hb); have n1_ := Aside0.mk (Kd.R_below (by (with_reducible repeat (first | apply Kd.R_alloc | apply Kd.R_drewN | apply Kd.R_drew)); exact HO_11.out) hb); have n2_ := Aside0.mk (Kd.R_elder' (by (with_reducible repeat (first | apply Kd.R_alloc | apply Kd.R_drewN | apply Kd.R_drew)); exact HO278.out) (Kd.R_base ho0) hb); have n3_ := Aside0.mk (Kd.R_lower (Kd.R_new' (Kd.R_new' ho0 (Kd.R_lt (by (with_reducible repeat (first | apply Kd.R_alloc | apply Kd.R_drewN | apply Kd.R_drew)); exact HO_7.out))) (Kd.R_lt (by (with_reducible repeat (first | apply Kd.R_alloc | apply Kd.R_drewN | apply Kd.R_drew)); exact HO278.out))) (below_size (by repeat (first | (with_reducible first | exact HB.out | apply below_alloc | apply pw_below_drewN | apply below_drew1) | exact HB.out)))); have n4_ := Aside0.mk (below_step (by repeat (first | (with_reducible first | exact HB.out | apply below_alloc | apply pw_below_drewN | apply below_drew1) | exact HB.out)) hb); clear HO_7; clear HO_11; clear HO278; clear HB; have HO_7 := n0_; have HO_11 := n1_; have HO278 := n2_; have HO282 := n3_; have HB := n4_; clear n0_ n1_ n2_ n3_ n4_; (try clear hb); (try clear hb2); (try clear hk); (try clear hi); (try clear ho0)) | arm_0 | arm_1 | arm_2 | arm_3)
                          go_ret
                          exact ⟨by first | rfl | (simp [errW_none, errW_some] <;> rfl) | (simp [*, errW_none, errW_some] <;> rfl), by repeat (first | (with_reducible first | exact HB.out | apply below_alloc | apply pw_below_drewN | apply below_drew1) | exact HB.out)⟩
                      · rw [if_neg c43] at H
                        have c43b0 : ((t273.size : Int) == (wrap64 (Int.tdiv (wrap64 (x9_2 + 7)) 8))) = false := beq_eq_false_iff_ne.mpr c43
                        have c43b1 : ((t273.size : Int) != (wrap64 (Int.tdiv (wrap64 (x9_2 + 7)) 8))) = true := bne_iff_ne.mpr c43
                        obtain rfl := Option.some.inj H
                        obtain ⟨Ao58, co58, eo58⟩ := Kd.R_slice HO_11.out
                        subst eo58
                        go_wp2_with (first | ((with_reducible refine gate_callee (f := 10) rfl ?_); refine goesL_ (some 84) rfl rfl Try.func10 (by kernel_rfl) rfl #[.slice Ao24 t256.length co24, .slice Ao58 t266.length co58] rfl (by arg_done) ?_; (with_reducible refine (huff_Put.calls k2 _ _ t256 _ _ t266 t273 t274 _ ?side1 ?side2 ?side3 ?side4 A34.out).mono ?_); (case side1 => repeat (first | exact (Kd.R_reads' HO_7.out).2.2 | (with_reducible refine Kd.C_alloc ?_ _) | (with_reducible refine Kd.C_drewN ?_ _) | (with_reducible refine Kd.C_drew ?_))); (case side2 => exact (Kd.R_reads' HO_7.out).2.1); (case side3 => repeat (first | exact (Kd.R_reads' HO_11.out).2.2 | (with_reducible refine Kd.C_alloc ?_ _) | (with_reducible refine Kd.C_drewN ?_ _) | (with_reducible refine Kd.C_drew ?_))); (case side4 => exact (Kd.R_reads' HO_11.out).2.1); rintro e w_0 ⟨rfl, hb⟩; refine ⟨_, rfl, ?_⟩; have n0_ := Aside0.mk (Kd.R_below (by (with_reducible repeat (first | apply Kd.R_alloc | apply Kd.R_drewN | apply Kd.R_drew)); exact HO_7.out) hb); have n1_ := Aside0.mk (Kd.R_below (by (with_reducible repeat (first | apply Kd.R_alloc | apply Kd.R_drewN | apply Kd.R_drew)); exact HO_11.out) hb); have n2_ := Aside0.mk (below_step (by repeat (first | (with_reducible first | exact HB.out | apply below_alloc | apply pw_below_drewN | apply below_drew1) | exact HB.out)) hb); clear HO_7; clear HO_11; clear HB; have HO_7 := n0_; have HO_11 := n1_; have HB := n2_; clear n0_ n1_ n2_; (try clear hb); (try clear hb2); (try clear hk); (try clear hi)) | ((with_reducible refine gate_callee (f := 12) rfl ?_); refine goesL_ (some 92) rfl rfl Try.func12 (by kernel_rfl) rfl #[.string t273, .int .i64 (t256.length : Int), .slice Ao58 t266.length co58] rfl (by arg_done) ?_; (with_reducible refine (huff_Get.calls t273 (t256.length : Int) _ _ t266 t275 t276 _ ?side1 ?side2 A35.out).mono ?_); (case side1 => repeat (first | exact (Kd.R_reads' HO_11.out).2.2 | (with_reducible refine Kd.C_alloc ?_ _) | (with_reducible refine Kd.C_drewN ?_ _) | (with_reducible refine Kd.C_drew ?_))); (case side2 => exact (Kd.R_reads' HO_11.out).2.1); rintro e w_1 ⟨v277, rfl, ho0, hb⟩; refine ⟨_, rfl, ?_⟩; have n0_ := Aside0.mk (Kd.R_elder' (by (with_reducible repeat (first | apply Kd.R_alloc | apply Kd.R_drewN | apply Kd.R_drew)); exact HO_7.out) (Kd.R_base ho0) hb); have n1_ := Aside0.mk (Kd.R_below (by (with_reducible repeat (first | apply Kd.R_alloc | apply Kd.R_drewN | apply Kd.R_drew)); exact HO_11.out) hb); have n2_ := Aside0.mk (Kd.R_lower (Kd.R_new' ho0 (Kd.R_lt (by (with_reducible repeat (first | apply Kd.R_alloc | apply Kd.R_drewN | apply Kd.R_drew)); exact HO_7.out))) (below_size (by repeat (first | (with_reducible first | exact HB.out | apply below_alloc | apply pw_below_drewN | apply below_drew1) | exact HB.out)))); have n3_ := Aside0.mk (below_step (by repeat (first | (with_reducible first | exact HB.out | apply below_alloc | apply pw_below_drewN | apply below_drew1) | exact HB.out)) hb); clear HO_7; clear HO_11; clear HB; have HO_7 := n0_; have HO_11 := n1_; have HO278 := n2_; have HB := n3_; clear n0_ n1_ n2_ n3_; (try clear hb); (try clear hb2); (try clear hk); (try clear hi); (try clear ho0)) | ((with_reducible refine gate_callee (f := 12) rfl ?_); refine goesL_ (some 101) rfl rfl Try.func12 (by kernel_rfl) rfl #[.string (t273 ++ (⟨#[0]⟩ : ByteArray)), .int .i64 (t256.length : Int), .slice Ao58 t266.length co58] rfl (by arg_done) ?_; (with_reducible refine (huff_Get.calls (t273 ++ (⟨#[0]⟩ : ByteArray)) (t256.length : Int) _ _ t266 t279 t280 _ ?side1 ?side2 A37.out).mono ?_); (case side1 => repeat (first | exact (Kd.R_reads' HO_11.out).2.2 | (with_reducible refine Kd.C_alloc ?_ _) | (with_reducible refine Kd.C_drewN ?_ _) | (with_reducible refine Kd.C_drew ?_))); (case side2 => exact (Kd.R_reads' HO_11.out).2.1); rintro e w_2 ⟨v281, rfl, ho0, hb⟩; refine ⟨_, rfl, ?_⟩; have n0_ := Aside0.mk (Kd.R_elder' (by (with_reducible repeat (first | apply Kd.R_alloc | apply Kd.R_drewN | apply Kd.R_drew)); exact HO_7.out) (Kd.R_base ho0) hb); have n1_ := Aside0.mk (Kd.R_below (by (with_reducible repeat (first | apply Kd.R_alloc | apply Kd.R_drewN | apply Kd.R_drew)); exact HO_11.out) hb); have n2_ := Aside0.mk (Kd.R_elder' (by (with_reducible repeat (first | apply Kd.R_alloc | apply Kd.R_drewN | apply Kd.R_drew)); exact HO278.out) (Kd.R_base ho0) hb); have n3_ := Aside0.mk (Kd.R_lower (Kd.R_new' (Kd.R_new' ho0 (Kd.R_lt (by (with_reducible repeat (first | apply Kd.R_alloc | apply Kd.R_drewN | apply Kd.R_drew)); exact HO_7.out))) (Kd.R_lt (by (with_reducible repeat (first | apply Kd.R_alloc | apply Kd.R_drewN | apply Kd.R_drew)); exact HO278.out))) (below_size (by repeat (first | (with_reducible first | exact HB.out | apply below_alloc | apply pw_below_drewN | apply below_drew1) | exact HB.out)))); have n4_ := Aside0.mk (below_step (by repeat (first | (with_reducible first | exact HB.out | apply below_alloc | apply pw_below_drewN | apply below_drew1) | exact HB.out)) hb); clear HO_7; clear HO_11; clear HO278; clear HB; have HO_7 := n0_; have HO_11 := n1_; have HO278 := n2_; have HO282 := n3_; have HB := n4_; clear n0_ n1_ n2_ n3_ n4_; (try clear hb); (try clear hb2); (try clear hk); (try clear hi); (try clear ho0)) | arm_0 | arm_1 | arm_2)
                        go_ret
                        exact ⟨by first | rfl | (simp [errW_none, errW_some] <;> rfl) | (simp [*, errW_none, errW_some] <;> rfl), by repeat (first | (with_reducible first | exact HB.out | apply below_alloc | apply pw_below_drewN | apply below_drew1) | exact HB.out)⟩
                    · replace c42 := Bool.eq_false_iff.mpr c42
                      subst c42
                      have H1 : (some false) = some r := by rw [if_neg (show ¬ (false = true) by decide)] at H; exact H
                      clear H
                      have H := H1
                      clear H1
                      obtain rfl := Option.some.inj H
                      obtain ⟨Ao63, co63, eo63⟩ := Kd.R_slice HO_11.out
                      subst eo63
                      go_wp2_with (first | ((with_reducible refine gate_callee (f := 10) rfl ?_); refine goesL_ (some 84) rfl rfl Try.func10 (by kernel_rfl) rfl #[.slice Ao24 t256.length co24, .slice Ao63 t266.length co63] rfl (by arg_done) ?_; (with_reducible refine (huff_Put.calls k2 _ _ t256 _ _ t266 t273 t274 _ ?side1 ?side2 ?side3 ?side4 A34.out).mono ?_); (case side1 => repeat (first | exact (Kd.R_reads' HO_7.out).2.2 | (with_reducible refine Kd.C_alloc ?_ _) | (with_reducible refine Kd.C_drewN ?_ _) | (with_reducible refine Kd.C_drew ?_))); (case side2 => exact (Kd.R_reads' HO_7.out).2.1); (case side3 => repeat (first | exact (Kd.R_reads' HO_11.out).2.2 | (with_reducible refine Kd.C_alloc ?_ _) | (with_reducible refine Kd.C_drewN ?_ _) | (with_reducible refine Kd.C_drew ?_))); (case side4 => exact (Kd.R_reads' HO_11.out).2.1); rintro e w_0 ⟨rfl, hb⟩; refine ⟨_, rfl, ?_⟩; have n0_ := Aside0.mk (Kd.R_below (by (with_reducible repeat (first | apply Kd.R_alloc | apply Kd.R_drewN | apply Kd.R_drew)); exact HO_7.out) hb); have n1_ := Aside0.mk (Kd.R_below (by (with_reducible repeat (first | apply Kd.R_alloc | apply Kd.R_drewN | apply Kd.R_drew)); exact HO_11.out) hb); have n2_ := Aside0.mk (below_step (by repeat (first | (with_reducible first | exact HB.out | apply below_alloc | apply pw_below_drewN | apply below_drew1) | exact HB.out)) hb); clear HO_7; clear HO_11; clear HB; have HO_7 := n0_; have HO_11 := n1_; have HB := n2_; clear n0_ n1_ n2_; (try clear hb); (try clear hb2); (try clear hk); (try clear hi)) | ((with_reducible refine gate_callee (f := 12) rfl ?_); refine goesL_ (some 92) rfl rfl Try.func12 (by kernel_rfl) rfl #[.string t273, .int .i64 (t256.length : Int), .slice Ao63 t266.length co63] rfl (by arg_done) ?_; (with_reducible refine (huff_Get.calls t273 (t256.length : Int) _ _ t266 t275 t276 _ ?side1 ?side2 A35.out).mono ?_); (case side1 => repeat (first | exact (Kd.R_reads' HO_11.out).2.2 | (with_reducible refine Kd.C_alloc ?_ _) | (with_reducible refine Kd.C_drewN ?_ _) | (with_reducible refine Kd.C_drew ?_))); (case side2 => exact (Kd.R_reads' HO_11.out).2.1); rintro e w_1 ⟨v277, rfl, ho0, hb⟩; refine ⟨_, rfl, ?_⟩; have n0_ := Aside0.mk (Kd.R_elder' (by (with_reducible repeat (first | apply Kd.R_alloc | apply Kd.R_drewN | apply Kd.R_drew)); exact HO_7.out) (Kd.R_base ho0) hb); have n1_ := Aside0.mk (Kd.R_below (by (with_reducible repeat (first | apply Kd.R_alloc | apply Kd.R_drewN | apply Kd.R_drew)); exact HO_11.out) hb); have n2_ := Aside0.mk (Kd.R_lower (Kd.R_new' ho0 (Kd.R_lt (by (with_reducible repeat (first | apply Kd.R_alloc | apply Kd.R_drewN | apply Kd.R_drew)); exact HO_7.out))) (below_size (by repeat (first | (with_reducible first | exact HB.out | apply below_alloc | apply pw_below_drewN | apply below_drew1) | exact HB.out)))); have n3_ := Aside0.mk (below_step (by repeat (first | (with_reducible first | exact HB.out | apply below_alloc | apply pw_below_drewN | apply below_drew1) | exact HB.out)) hb); clear HO_7; clear HO_11; clear HB; have HO_7 := n0_; have HO_11 := n1_; have HO278 := n2_; have HB := n3_; clear n0_ n1_ n2_ n3_; (try clear hb); (try clear hb2); (try clear hk); (try clear hi); (try clear ho0)) | ((with_reducible refine gate_callee (f := 12) rfl ?_); refine goesL_ (some 101) rfl rfl Try.func12 (by kernel_rfl) rfl #[.string (t273 ++ (⟨#[0]⟩ : ByteArray)), .int .i64 (t256.length : Int), .slice Ao63 t266.length co63] rfl (by arg_done) ?_; (with_reducible refine (huff_Get.calls (t273 ++ (⟨#[0]⟩ : ByteArray)) (t256.length : Int) _ _ t266 t279 t280 _ ?side1 ?side2 A37.out).mono ?_); (case side1 => repeat (first | exact (Kd.R_reads' HO_11.out).2.2 | (with_reducible refine Kd.C_alloc ?_ _) | (with_reducible refine Kd.C_drewN ?_ _) | (with_reducible refine Kd.C_drew ?_))); (case side2 => exact (Kd.R_reads' HO_11.out).2.1); rintro e w_2 ⟨v281, rfl, ho0, hb⟩; refine ⟨_, rfl, ?_⟩; have n0_ := Aside0.mk (Kd.R_elder' (by (with_reducible repeat (first | apply Kd.R_alloc | apply Kd.R_drewN | apply Kd.R_drew)); exact HO_7.out) (Kd.R_base ho0) hb); have n1_ := Aside0.mk (Kd.R_below (by (with_reducible repeat (first | apply Kd.R_alloc | apply Kd.R_drewN | apply Kd.R_drew)); exact HO_11.out) hb); have n2_ := Aside0.mk (Kd.R_elder' (by (with_reducible repeat (first | apply Kd.R_alloc | apply Kd.R_drewN | apply Kd.R_drew)); exact HO278.out) (Kd.R_base ho0) hb); have n3_ := Aside0.mk (Kd.R_lower (Kd.R_new' (Kd.R_new' ho0 (Kd.R_lt (by (with_reducible repeat (first | apply Kd.R_alloc | apply Kd.R_drewN | apply Kd.R_drew)); exact HO_7.out))) (Kd.R_lt (by (with_reducible repeat (first | apply Kd.R_alloc | apply Kd.R_drewN | apply Kd.R_drew)); exact HO278.out))) (below_size (by repeat (first | (with_reducible first | exact HB.out | apply below_alloc | apply pw_below_drewN | apply below_drew1) | exact HB.out)))); have n4_ := Aside0.mk (below_step (by repeat (first | (with_reducible first | exact HB.out | apply below_alloc | apply pw_below_drewN | apply below_drew1) | exact HB.out)) hb); clear HO_7; clear HO_11; clear HO278; clear HB; have HO_7 := n0_; have HO_11 := n1_; have HO278 := n2_; have HO282 := n3_; have HB := n4_; clear n0_ n1_ n2_ n3_ n4_; (try clear hb); (try clear hb2); (try clear hk); (try clear hi); (try clear ho0)) | arm_0 | arm_1 | (go_at_call 15; (with_reducible refine (wringerref7_SameParts.calls k2 _ _ t275 _ _ t256 false _ ?side1 ?side2 ?side3 ?side4 A41.out).mono ?_); (case side1 => repeat (first | exact (Kd.R_reads' HO278.out).2.2 | (with_reducible refine Kd.C_alloc ?_ _) | (with_reducible refine Kd.C_drewN ?_ _) | (with_reducible refine Kd.C_drew ?_))); (case side2 => exact (Kd.R_reads' HO278.out).2.1); (case side3 => repeat (first | exact (Kd.R_reads' HO_7.out).2.2 | (with_reducible refine Kd.C_alloc ?_ _) | (with_reducible refine Kd.C_drewN ?_ _) | (with_reducible refine Kd.C_drew ?_))); (case side4 => exact (Kd.R_reads' HO_7.out).2.1); rintro e w' ⟨rfl, ⟨nd, rfl⟩⟩))
                      go_ret
                      exact ⟨by first | rfl | (simp [errW_none, errW_some] <;> rfl) | (simp [*, errW_none, errW_some] <;> rfl), by repeat (first | (with_reducible first | exact HB.out | apply below_alloc | apply pw_below_drewN | apply below_drew1) | exact HB.out)⟩
                  · rw [if_neg c40] at H
                    have c40b0 : ((wrap64 (t283 + t284)) == 0) = false := beq_eq_false_iff_ne.mpr c40
                    have c40b1 : ((wrap64 (t283 + t284)) != 0) = true := bne_iff_ne.mpr c40
                    obtain rfl := Option.some.inj H
                    obtain ⟨Ao68, co68, eo68⟩ := Kd.R_slice HO_11.out
                    subst eo68
                    go_wp2_with (first | ((with_reducible refine gate_callee (f := 10) rfl ?_); refine goesL_ (some 84) rfl rfl Try.func10 (by kernel_rfl) rfl #[.slice Ao24 t256.length co24, .slice Ao68 t266.length co68] rfl (by arg_done) ?_; (with_reducible refine (huff_Put.calls k2 _ _ t256 _ _ t266 t273 t274 _ ?side1 ?side2 ?side3 ?side4 A34.out).mono ?_); (case side1 => repeat (first | exact (Kd.R_reads' HO_7.out).2.2 | (with_reducible refine Kd.C_alloc ?_ _) | (with_reducible refine Kd.C_drewN ?_ _) | (with_reducible refine Kd.C_drew ?_))); (case side2 => exact (Kd.R_reads' HO_7.out).2.1); (case side3 => repeat (first | exact (Kd.R_reads' HO_11.out).2.2 | (with_reducible refine Kd.C_alloc ?_ _) | (with_reducible refine Kd.C_drewN ?_ _) | (with_reducible refine Kd.C_drew ?_))); (case side4 => exact (Kd.R_reads' HO_11.out).2.1); rintro e w_0 ⟨rfl, hb⟩; refine ⟨_, rfl, ?_⟩; have n0_ := Aside0.mk (Kd.R_below (by (with_reducible repeat (first | apply Kd.R_alloc | apply Kd.R_drewN | apply Kd.R_drew)); exact HO_7.out) hb); have n1_ := Aside0.mk (Kd.R_below (by (with_reducible repeat (first | apply Kd.R_alloc | apply Kd.R_drewN | apply Kd.R_drew)); exact HO_11.out) hb); have n2_ := Aside0.mk (below_step (by repeat (first | (with_reducible first | exact HB.out | apply below_alloc | apply pw_below_drewN | apply below_drew1) | exact HB.out)) hb); clear HO_7; clear HO_11; clear HB; have HO_7 := n0_; have HO_11 := n1_; have HB := n2_; clear n0_ n1_ n2_; (try clear hb); (try clear hb2); (try clear hk); (try clear hi)) | ((with_reducible refine gate_callee (f := 12) rfl ?_); refine goesL_ (some 92) rfl rfl Try.func12 (by kernel_rfl) rfl #[.string t273, .int .i64 (t256.length : Int), .slice Ao68 t266.length co68] rfl (by arg_done) ?_; (with_reducible refine (huff_Get.calls t273 (t256.length : Int) _ _ t266 t275 t276 _ ?side1 ?side2 A35.out).mono ?_); (case side1 => repeat (first | exact (Kd.R_reads' HO_11.out).2.2 | (with_reducible refine Kd.C_alloc ?_ _) | (with_reducible refine Kd.C_drewN ?_ _) | (with_reducible refine Kd.C_drew ?_))); (case side2 => exact (Kd.R_reads' HO_11.out).2.1); rintro e w_1 ⟨v277, rfl, ho0, hb⟩; refine ⟨_, rfl, ?_⟩; have n0_ := Aside0.mk (Kd.R_elder' (by (with_reducible repeat (first | apply Kd.R_alloc | apply Kd.R_drewN | apply Kd.R_drew)); exact HO_7.out) (Kd.R_base ho0) hb); have n1_ := Aside0.mk (Kd.R_below (by (with_reducible repeat (first | apply Kd.R_alloc | apply Kd.R_drewN | apply Kd.R_drew)); exact HO_11.out) hb); have n2_ := Aside0.mk (Kd.R_lower (Kd.R_new' ho0 (Kd.R_lt (by (with_reducible repeat (first | apply Kd.R_alloc | apply Kd.R_drewN | apply Kd.R_drew)); exact HO_7.out))) (below_size (by repeat (first | (with_reducible first | exact HB.out | apply below_alloc | apply pw_below_drewN | apply below_drew1) | exact HB.out)))); have n3_ := Aside0.mk (below_step (by repeat (first | (with_reducible first | exact HB.out | apply below_alloc | apply pw_below_drewN | apply below_drew1) | exact HB.out)) hb); clear HO_7; clear HO_11; clear HB; have HO_7 := n0_; have HO_11 := n1_; have HO278 := n2_; have HB := n3_; clear n0_ n1_ n2_ n3_; (try clear hb); (try clear hb2); (try clear hk); (try clear hi); (try clear ho0)) | ((with_reducible refine gate_callee (f := 12) rfl ?_); refine goesL_ (some 101) rfl rfl Try.func12 (by kernel_rfl) rfl #[.string (t273 ++ (⟨#[0]⟩ : ByteArray)), .int .i64 (t256.length : Int), .slice Ao68 t266.length co68] rfl (by arg_done) ?_; (with_reducible refine (huff_Get.calls (t273 ++ (⟨#[0]⟩ : ByteArray)) (t256.length : Int) _ _ t266 t279 t280 _ ?side1 ?side2 A37.out).mono ?_); (case side1 => repeat (first | exact (Kd.R_reads' HO_11.out).2.2 | (with_reducible refine Kd.C_alloc ?_ _) | (with_reducible refine Kd.C_drewN ?_ _) | (with_reducible refine Kd.C_drew ?_))); (case side2 => exact (Kd.R_reads' HO_11.out).2.1); rintro e w_2 ⟨v281, rfl, ho0, hb⟩; refine ⟨_, rfl, ?_⟩; have n0_ := Aside0.mk (Kd.R_elder' (by (with_reducible repeat (first | apply Kd.R_alloc | apply Kd.R_drewN | apply Kd.R_drew)); exact HO_7.out) (Kd.R_base ho0) hb); have n1_ := Aside0.mk (Kd.R_below (by (with_reducible repeat (first | apply Kd.R_alloc | apply Kd.R_drewN | apply Kd.R_drew)); exact HO_11.out) hb); have n2_ := Aside0.mk (Kd.R_elder' (by (with_reducible repeat (first | apply Kd.R_alloc | apply Kd.R_drewN | apply Kd.R_drew)); exact HO278.out) (Kd.R_base ho0) hb); have n3_ := Aside0.mk (Kd.R_lower (Kd.R_new' (Kd.R_new' ho0 (Kd.R_lt (by (with_reducible repeat (first | apply Kd.R_alloc | apply Kd.R_drewN | apply Kd.R_drew)); exact HO_7.out))) (Kd.R_lt (by (with_reducible repeat (first | apply Kd.R_alloc | apply Kd.R_drewN | apply Kd.R_drew)); exact HO278.out))) (below_size (by repeat (first | (with_reducible first | exact HB.out | apply below_alloc | apply pw_below_drewN | apply below_drew1) | exact HB.out)))); have n4_ := Aside0.mk (below_step (by repeat (first | (with_reducible first | exact HB.out | apply below_alloc | apply pw_below_drewN | apply below_drew1) | exact HB.out)) hb); clear HO_7; clear HO_11; clear HO278; clear HB; have HO_7 := n0_; have HO_11 := n1_; have HO278 := n2_; have HO282 := n3_; have HB := n4_; clear n0_ n1_ n2_ n3_ n4_; (try clear hb); (try clear hb2); (try clear hk); (try clear hi); (try clear ho0)) | arm_0 | ((with_reducible refine gate_callee (f := 14) rfl ?_); refine goesL_ (some 107) rfl rfl Try.func14 (by kernel_rfl) rfl #[.int .i64 t276] rfl (by arg_done) ?_; (with_reducible refine (wringerlaw1_Err.calls t276 t284 _ A39.out).mono ?_); rintro e w' ⟨rfl, ⟨nd, rfl⟩⟩; refine ⟨_, rfl, ?_⟩))
                    go_ret
                    exact ⟨by first | rfl | (simp [errW_none, errW_some] <;> rfl) | (simp [*, errW_none, errW_some] <;> rfl), by repeat (first | (with_reducible first | exact HB.out | apply below_alloc | apply pw_below_drewN | apply below_drew1) | exact HB.out)⟩
                · rw [if_neg c36] at H
                  exact absurd H (by simp)

/-- THE ONE PURE STATEMENT of wringerlaw11_HuffBack: yours. -/
def wringerlaw11_HuffBack.Pure : Prop := ∀ (l0 : List Int) (l1 : List Int) (a2 : Int), l0.length ≤ maxLen → l0.length * 2 ≤ 140737488351232 → (∀ x ∈ l0, (Lit.int .u16 x).wf = true) → l1.length ≤ maxLen → l1.length * 2 ≤ 140737488351232 → (∀ x ∈ l1, (Lit.int .u16 x).wf = true) → (Lit.int .u8 a2).wf = true → ∃ k, wringerlaw11_HuffBack.f k l0 l1 a2 = some true
theorem wringerlaw11_HuffBack.walk (P : wringerlaw11_HuffBack.Pure) (a0 : Option Addr) (len0 cap0 : Nat) (z0 : List Int) (a1 : Option Addr) (len1 cap1 : Nat) (z1 : List Int) (a2 : Int) (w : World) (w0 : (a0 = none ∧ len0 = 0 ∧ cap0 = 0 ∧ z0 = []) ∨ ∃ x, a0 = some x ∧ len0 ≤ cap0 ∧ cap0 ≤ maxLen ∧ z0.length = cap0 ∧ (∀ i, i < z0.length → w.cell? (x.add i) = some (.int .u16 (z0.getD i 0))) ∧ ∀ n ∈ z0, (Lit.int .u16 n).wf = true) (y0 : len0 * 2 ≤ 140737488351232) (w1 : (a1 = none ∧ len1 = 0 ∧ cap1 = 0 ∧ z1 = []) ∨ ∃ x, a1 = some x ∧ len1 ≤ cap1 ∧ cap1 ≤ maxLen ∧ z1.length = cap1 ∧ (∀ i, i < z1.length → w.cell? (x.add i) = some (.int .u16 (z1.getD i 0))) ∧ ∀ n ∈ z1, (Lit.int .u16 n).wf = true) (y1 : len1 * 2 ≤ 140737488351232) (w2 : (Lit.int .u8 a2).wf = true) :
    Calls Try.prog 5 #[.slice a0 len0 cap0, .slice a1 len1 cap1, .int .u8 a2] w fun e w' => e = .returned (.bool true) ∧ Below w.heap.size w w' := by
  obtain ⟨l0, rfl, hr0, hm0, hw0, hc0⟩ := ReadsInt.ofRowC w0
  obtain ⟨l1, rfl, hr1, hm1, hw1, hc1⟩ := ReadsInt.ofRowC w1
  obtain ⟨k, h⟩ := P l0 l1 a2 hm0 y0 hw0 hm1 y1 hw1 w2
  refine (wringerlaw11_HuffBack.calls k _ _ l0 _ _ l1 a2 true w (Kd.C_of_reads (d := (0 : Int)) (h1 := fun _ => rfl) hr0) hc0 (Kd.C_of_reads (d := (0 : Int)) (h1 := fun _ => rfl) hr1) hc1 h).mono ?_
  rintro e w' ⟨rfl, hd⟩
  exact ⟨rfl, hd⟩

end Go.Proofs.Ytnakjencodicmaa.PA

-- ---- Unf
/- Frequencies by numbers (layer 11's print). Conditions: numbers of 16 bits, fewer than a million. -/
namespace Go.Proofs.Ytnakjencodicmaa.PA
set_option maxRecDepth 100000
set_option linter.unusedVariables false
set_option linter.unusedSimpArgs false
open Go.RowKit Go.Proofs.YtnakjencodicmaaW.PrintWords Go.Proofs.YtnakjencodicmaaW.PrintLast Go.Proofs.YtnakjencodicmaaW.PrintMore

theorem getD_mem {l : List Int} {i : Nat} (h : i < l.length) : l.getD i 0 ∈ l := mem_getD l 0 i h
/-- 65 numbers, none below nought, none above 65535. -/
structure FreqOk (f : List Int) : Prop where
  len : f.length = 65
  each : ∀ x ∈ f, 0 ≤ x ∧ x ≤ 65535
theorem mem_set_or {l : List Int} {i : Nat} {v x : Int} (h : x ∈ l.set i v) : x ∈ l ∨ x = v := List.mem_or_eq_of_mem_set h
theorem freqOk_set {f : List Int} (h : FreqOk f) (i : Nat) (v : Int) (h0 : 0 ≤ v) (h1 : v ≤ 65535) : FreqOk (f.set i v) :=
  ⟨by rw [List.length_set]; exact h.len, fun x hx => by
    rcases mem_set_or hx with hx | rfl
    · exact h.each x hx
    · exact ⟨h0, h1⟩⟩
theorem u16_at {ns : List Int} (h : ∀ x ∈ ns, (Lit.int .u16 x).wf = true) (i : Nat) (hi : i < ns.length) : ∃ v : Nat, ns.getD i 0 = (v : Int) ∧ v ≤ 65535 := by
  have hw := h _ (getD_mem hi)
  simp only [Lit.wf, Bool.and_eq_true, decide_eq_true_eq] at hw
  have h1 : IntKind.u16.min = 0 := rfl
  have h2 : IntKind.u16.max = 65535 := rfl
  exact ⟨(ns.getD i 0).toNat, by omega, by omega⟩
theorem u16_wrap (n : Nat) (h : n ≤ 65535) : IntKind.u16.wrap (n : Int) = (n : Int) := by
  simp [IntKind.wrap, IntKind.bits, IntKind.signed]; omega
theorem freq_l0 (ns : List Int) (hw : ∀ x ∈ ns, (Lit.int .u16 x).wf = true) (hl : ns.length < 1000000) : ∀ (d i : Nat) (f : List Int), i + d = ns.length + 1 → FreqOk f →
    ∃ g, Ev (fun k => wringerlaw8_Freq.l0 k ns f (i : Int)) g ∧ FreqOk g := by
  intro d
  induction d using Nat.strongRecOn with
  | _ d ih =>
    intro i f hi hf
    by_cases hlt : i + 1 < ns.length
    · obtain ⟨v, hv, hvb⟩ := u16_at hw i (by omega)
      obtain ⟨u, hu, hub⟩ := u16_at hw (i + 1) hlt
      have hfl := hf.len
      have e5 : u / 2 ^ (v / 65 % 16) ≤ u := Nat.div_le_self _ _
      obtain ⟨p, hp⟩ : ∃ p, p = u / 2 ^ (v / 65 % 16) := ⟨_, rfl⟩
      rw [← hp] at e5
      obtain ⟨g, hg, hgf⟩ := ih (d - 2) (by omega) (i + 2) (f.set (v % 65) (p : Int)) (by omega) (freqOk_set hf _ _ (by omega) (by omega))
      refine ⟨g, Ev.step (f := fun k => wringerlaw8_Freq.l0 k ns (f.set (v % 65) (p : Int)) ((i + 2 : Nat) : Int)) (fun k => ?_) hg, hgf⟩
      have c1 : ((i + 1 : Nat) : Int) < (ns.length : Int) := by omega
      have c2 : (0 : Int) ≤ (i : Int) := by omega
      have c3 : (i : Int) < (ns.length : Int) := by omega
      have c4 : (0 : Int) ≤ ((i + 1 : Nat) : Int) := by omega
      have c5 : (0 : Int) ≤ ((v / 65 % 16 : Nat) : Int) := Int.natCast_nonneg _
      have c6 : (0 : Int) ≤ ((v % 65 : Nat) : Int) := Int.natCast_nonneg _
      have c7 : ((v % 65 : Nat) : Int) < (f.length : Int) := by omega
      have w1 : wrap64 ((i : Int) + 1) = ((i + 1 : Nat) : Int) := by rw [w64 (by omega) (by omega)]; rfl
      have w2 : wrap64 ((i : Int) + 2) = ((i + 2 : Nat) : Int) := by clear w1; rw [w64 (by omega) (by omega)]; rfl
      have w3 : wrap64 (v : Int) = (v : Int) := by clear w1 w2; exact w64 (by omega) (by omega)
      have w4 : wrap64 (u : Int) = (u : Int) := by clear w1 w2 w3; exact w64 (by omega) (by omega)
      have w5 : IntKind.u16.wrap ((v / 65 : Nat) : Int) = ((v / 65 : Nat) : Int) := by clear w1 w2 w3 w4; exact u16_wrap _ (by omega)
      have e4 := shr_nat u (v / 65 % 16) (by clear w1 w2 w3 w4 w5; omega)
      rw [← hp] at e4
      have e1 : Int.tdiv (v : Int) 65 = ((v / 65 : Nat) : Int) := tdiv_nat v 65
      have e2 : Int.tmod (v : Int) 65 = ((v % 65 : Nat) : Int) := tmod_nat v 65
      have e3 : Int.tmod ((v / 65 : Nat) : Int) 16 = ((v / 65 % 16 : Nat) : Int) := tmod_nat _ 16
      simp only [wringerlaw8_Freq.l0]
      rw [w1, w2, rd_nat, rd_nat, hv, hu, w3, w4, e1, w5, e3, e2, e4]
      rw [if_pos c1, if_pos c2, if_pos c3, if_pos c4, if_pos c5, if_pos c6, if_pos c7, Int.toNat_natCast]
    · refine ⟨f, Ev.step (f := fun _ => some f) (fun k => ?_) (Ev.now _), hf⟩
      simp only [wringerlaw8_Freq.l0]
      rw [w64 (x := (i : Int) + 1) (by omega) (by omega), if_neg (by omega)]
theorem freq_is (ns : List Int) (hw : ∀ x ∈ ns, (Lit.int .u16 x).wf = true) (hl : ns.length < 1000000) : ∃ f, Ev (fun k => wringerlaw8_Freq.f k ns) f ∧ FreqOk f := by
  obtain ⟨g, hg, hgf⟩ := freq_l0 ns hw hl (ns.length + 1) 0 (List.replicate 65 0) (by omega) ⟨by simp, fun x hx => by rw [(List.mem_replicate.1 hx).2]; omega⟩
  refine ⟨g, ?_, hgf⟩
  unfold wringerlaw8_Freq.f
  exact Ev.ite_pos (by decide) hg

end Go.Proofs.Ytnakjencodicmaa.PA

-- ---- Usp
/- Lists of parts that are one. No program in sight. -/
namespace Go.Proofs.Ytnakjencodicmaa.PA
set_option maxRecDepth 100000
set_option linter.unusedVariables false
set_option linter.unusedSimpArgs false
open Go.RowKit Go.Proofs.YtnakjencodicmaaW.PrintWords Go.Proofs.YtnakjencodicmaaW.PrintLast Go.Proofs.YtnakjencodicmaaW.PrintMore

theorem samep_l0 (ps : List S54) (hl : ps.length ≤ 1000000) : ∀ (d i : Nat), i + d = ps.length → Ev (fun k => wringerref7_SameParts.l0 k ps ps (i : Int)) true := by
  intro d
  induction d with
  | zero =>
    intro i hi
    exact Ev.step (f := fun _ => some true) (fun k => by simp only [wringerref7_SameParts.l0]; rw [if_neg (by omega)]) (Ev.now _)
  | succ d ih =>
    intro i hi
    refine Ev.step (f := fun k => wringerref7_SameParts.l0 k ps ps ((i + 1 : Nat) : Int)) (fun k => ?_) (ih (i + 1) (by omega))
    simp only [wringerref7_SameParts.l0]
    rw [if_pos (by omega), if_pos (by omega), if_pos (by omega), if_neg (by simp), w64 (by omega) (by omega)]; rfl
theorem samep_self (ps : List S54) (hl : ps.length ≤ 1000000) : Ev (fun k => wringerref7_SameParts.f k ps ps) true := by
  unfold wringerref7_SameParts.f
  exact Ev.ite_pos rfl (samep_l0 ps hl ps.length 0 (by omega))
end Go.Proofs.Ytnakjencodicmaa.PA

-- ---- PureHuffBack
/- Parts are told again by their bytes; these are as many as lengths and rests say: the plain statement of HuffBack holds for every input. Conditions: none. -/
namespace Go.Proofs.Ytnakjencodicmaa.Pure
set_option maxRecDepth 100000
open Go.RowKit Go.Proofs.Ytnakjencodicmaa.PA Go.Proofs.YtnakjencodicmaaW.PrintWords Go.Proofs.YtnakjencodicmaaW.PrintLast Go.Proofs.YtnakjencodicmaaW.PrintMore
open Zig Bits Dp Hu
set_option linter.unusedVariables false
set_option linter.unusedSimpArgs false

/-- Frequencies and one more for each part. -/
def addL (f : List Int) (ps : List PartS) : List Int := (List.range 65).map fun c => f.getD c 0 + (cnt ps c : Int)
theorem length_addL (f : List Int) (ps : List PartS) : (addL f ps).length = 65 := by simp [addL]
theorem addL_at (f : List Int) (ps : List PartS) (c : Nat) (h : c < 65) : (addL f ps).getD c 0 = f.getD c 0 + (cnt ps c : Int) := by
  simp [addL, List.getD_eq_getElem?_getD, h]
theorem addL_snoc (f : List Int) (ps : List PartS) (p : PartS) (c : Nat) (h : c < 65) (hc : p.f0 = (c : Int)) : addL f (ps ++ [p]) = (addL f ps).set c ((addL f ps).getD c 0 + 1) := by
  apply List.ext_getElem
  · rw [List.length_set, length_addL, length_addL]
  · intro j h1 h2
    rw [length_addL] at h1
    rw [List.getElem_set]
    have a : (addL f (ps ++ [p]))[j]'(by rw [length_addL]; exact h1) = f.getD j 0 + (cnt (ps ++ [p]) j : Int) := by simp [addL]
    have b : (addL f ps)[j]'(by rw [length_addL]; exact h1) = f.getD j 0 + (cnt ps j : Int) := by simp [addL]
    rw [a, b, cnt_snoc, addL_at f ps c h, hc]
    by_cases e : c = j
    · subst e; rw [if_pos rfl, if_pos rfl]; omega
    · rw [if_neg e, if_neg (by omega)]; omega
theorem addL_nil {f : List Int} (h : f.length = 65) : addL f [] = f := by
  apply List.ext_getElem
  · rw [length_addL, h]
  · intro j h1 h2
    simp [addL, cnt, List.getD_eq_getElem?_getD, h2]
theorem made_add (ns f : List Int) (hf : FreqOk f) (hl : ns.length ≤ 60) (hw : ∀ x ∈ ns, Wf x) (m : Nat) (h7 : 7 ≤ m) (h15 : m ≤ 15) : Made ns (addL f (ns.map partP)) m := by
  refine ⟨by omega, hw, ⟨length_addL _ _, fun x hx => ?_, h7, h15⟩, fun v hv => ?_⟩
  · unfold addL at hx
    obtain ⟨c, hc, rfl⟩ := List.mem_map.1 hx
    have hc := List.mem_range.1 hc
    have h1 := cnt_le (ns.map partP) c
    rw [List.length_map] at h1
    have h2 := hf.each _ (getD_mem (show c < f.length by rw [hf.len]; exact hc))
    omega
  · have hx := hw v hv
    have h64 := bl_le (zmap v) (by have := zmap_lt v hx.1 hx.2; omega)
    have h3 := ofL_has ns hw v hv
    rw [ofL_at _ _ (by omega)] at h3
    have h2 := hf.each _ (getD_mem (show bl (zmap v) < f.length by rw [hf.len]; omega))
    rw [addL_at _ _ _ (by omega)]
    omega
theorem enc_app (L : List Int) (a b : List (Nat × Nat)) : enc L (a ++ b) = enc L a ++ enc L b := by simp [Hu.enc]

section
variable {ns f : List Int} {m : Nat}
theorem get_all (h : Made ns f m) : getE (lenL f m) (textOf (pack (enc (lenL f m) (nP ns)))) (ns.length : Int) = (nP ns, 0) := by
  have hlen := h.len
  have h2 := getPs_enc h.may (nP ns) h.able (List.replicate (8 * (((enc (lenL f m) (nP ns)).length + 7) / 8) - (enc (lenL f m) (nP ns)).length) false)
  rw [length_nP] at h2
  unfold getE
  rw [if_pos h.may, if_neg (by omega), Int.toNat_natCast, bitsS_textOf, h2, if_neg (by simp), if_pos]
  unfold _root_.Go.Proofs.Ytnakjencodicmaa.restL
  rw [List.length_replicate, decide_eq_true (by omega), Bool.true_and, List.all_eq_true]
  intro b hb
  rw [(List.mem_replicate.1 hb).2]; rfl
theorem get_over (h : Made ns f m) (s : ByteArray) (t : List Bool) (hb : bitsS s = enc (lenL f m) (nP ns) ++ t) (ht : 8 ≤ t.length) : getE (lenL f m) s (ns.length : Int) = ([], 3) := by
  have hlen := h.len
  have h2 := getPs_enc h.may (nP ns) h.able t
  rw [length_nP] at h2
  unfold getE
  rw [if_pos h.may, if_neg (by omega), Int.toNat_natCast, hb, h2, if_neg (by simp), restL_long _ ht]
  rfl
theorem parts_back (l : List Int) : (nP l).map partS = l.map partP := by
  unfold nP
  rw [List.map_map]
  exact List.map_congr_left fun v _ => rfl
/-- What is told at the end. -/
theorem back_end (h : Made ns f m) : Ev (fun k => wringerlaw11_HuffBack.l1 k (ns.map partP) ((enc (lenL f m) (nP ns)).length : Int) (lenL f m) (ns.length : Int)) true := by
  have hlen := h.len
  have hsz := size_text (enc (lenL f m) (nP ns))
  have hlb := enc_len (lenL f m) h.may (nP ns) h.able
  rw [length_nP] at hlb
  have hbits := bitsS_textOf (enc (lenL f m) (nP ns))
  have hall := get_all h
  have hput : ∀ k, huff_Put.f k (ns.map partP) (lenL f m) = some (textOf (pack (enc (lenL f m) (nP ns))), 0) := fun k => h.put
  generalize hs : textOf (pack (enc (lenL f m) (nP ns))) = s at hsz hbits hall hput
  have hlm : ((ns.map partP).length : Int) = (ns.length : Int) := by rw [List.length_map]
  have g1 : huff_Get.f s (ns.length : Int) (lenL f m) = some (ns.map partP, 0) := by
    unfold huff_Get.f getPE
    rw [if_pos (by omega), hall]; simp only [parts_back]
  have g2 : huff_Get.f (s ++ (⟨#[0]⟩ : ByteArray)) (ns.length : Int) (lenL f m) = some ([], 3) := by
    unfold huff_Get.f getPE
    have e1 : (⟨#[0]⟩ : ByteArray).size = 1 := rfl
    rw [if_pos (by rw [ByteArray.size_append, e1]; omega), get_over h _ (List.replicate (8 * (((enc (lenL f m) (nP ns)).length + 7) / 8) - (enc (lenL f m) (nP ns)).length) false ++ bitsS ⟨#[0]⟩) (by rw [bitsS_append, ← List.append_assoc, ← hbits]) (by rw [List.length_append, length_bitsS, e1]; omega)]; rfl
  have edv : wrap64 (Int.tdiv (wrap64 (((enc (lenL f m) (nP ns)).length : Int) + 7)) 8) = (s.size : Int) := by
    rw [show ((enc (lenL f m) (nP ns)).length : Int) + 7 = (((enc (lenL f m) (nP ns)).length + 7 : Nat) : Int) by omega, w64 (x := (((enc (lenL f m) (nP ns)).length + 7 : Nat) : Int)) (by omega) (by omega), show (8 : Int) = ((8 : Nat) : Int) from rfl, tdiv_nat, ← hsz, w64 (by omega) (by omega)]
  refine Ev.step (f := fun k => (huff_Put.f k (ns.map partP) (lenL f m)).bind fun bt273 => ((huff_Get.f bt273.1 ((ns.map partP).length : Int) (lenL f m)).bind fun bt275 => (if bt273.1.size + 1 ≤ 9223372036854775807 then ((huff_Get.f (bt273.1 ++ (⟨#[0]⟩ : ByteArray)) ((ns.map partP).length : Int) (lenL f m)).bind fun bt279 => ((wringerlaw1_Err.f bt273.2).bind fun t283 => ((wringerlaw1_Err.f bt275.2).bind fun t284 => (if (wrap64 (t283 + t284)) = 0 then ((wringerref7_SameParts.f k bt275.1 (ns.map partP)).bind fun t285 => (if t285 = true then (if (bt273.1.size : Int) = (wrap64 (Int.tdiv (wrap64 (((enc (lenL f m) (nP ns)).length : Int) + 7)) 8)) then ((wringerlaw1_Err.f bt279.2).bind fun t286 => (if t286 = 3 then ((wringerlaw11_awake.f k).bind fun t287 => (some t287)) else (some false))) else (some false)) else (some false))) else (some false))))) else (none)))) (fun k => by simp only [wringerlaw11_HuffBack.l1]; rw [if_neg (by omega)]) ?_
  have hp : Ev (fun k => huff_Put.f k (ns.map partP) (lenL f m)) (s, 0) := by
    rw [show (fun k => huff_Put.f k (ns.map partP) (lenL f m)) = fun _ => some (s, 0) from funext hput]; exact Ev.now _
  refine Ev.bind hp ?_
  rw [hlm, edv]
  refine Ev.bind0 g1 (Ev.ite_pos (by simp only []; omega) (Ev.bind0 g2 (Ev.bind0 (a := 0) rfl (Ev.bind0 (a := 0) rfl (Ev.ite_pos (by rw [w64 (by decide) (by decide)]; rfl) ?_)))))
  refine Ev.bind (samep_self (ns.map partP) (by rw [List.length_map]; omega)) (Ev.ite_pos rfl (Ev.ite_pos rfl (Ev.bind0 (a := 3) rfl (Ev.ite_pos rfl (Ev.bind awake11 (Ev.now _))))))
theorem back_l1 (h : Made ns f m) : ∀ (d i : Nat), i + d = ns.length → Ev (fun k => wringerlaw11_HuffBack.l1 k (ns.map partP) ((enc (lenL f m) (nP (ns.take i))).length : Int) (lenL f m) (i : Int)) true := by
  have hlen := h.len
  intro d
  induction d with
  | zero =>
    intro i hi
    rw [List.take_of_length_le (by omega), show i = ns.length by omega]
    exact back_end h
  | succ d ih =>
    intro i hi
    have hil : i < ns.length := by omega
    have hx := h.wf _ (mem_getD ns 0 i hil)
    have e := PA.take_snoc ns 0 i hil
    have hb := bl_le (zmap (ns.getD i 0)) (by have := zmap_lt _ hx.1 hx.2; omega)
    have hp := h.fq.pos (bl (zmap (ns.getD i 0)))
    have hlb := enc_len (lenL f m) h.may (nP (ns.take i)) (fun p hp => h.able p (by
      unfold nP at hp ⊢
      obtain ⟨v, hv, rfl⟩ := List.mem_map.1 hp
      exact List.mem_map.2 ⟨v, List.mem_of_mem_take hv, rfl⟩))
    rw [length_nP, List.length_take] at hlb
    have hhi := h.fq.hi
    refine Ev.step (f := fun k => wringerlaw11_HuffBack.l1 k (ns.map partP) ((enc (lenL f m) (nP (ns.take (i + 1)))).length : Int) (lenL f m) ((i + 1 : Nat) : Int)) (fun k => ?_) (ih (i + 1) (by omega))
    simp only [wringerlaw11_HuffBack.l1]
    have ep : rd_T54 (ns.map partP) (i : Int) = partP (ns.getD i 0) := by rw [rdP_nat, getD_map' partP ns 0 _ i hil]
    have e0 : (partP (ns.getD i 0)).f0 = ((bl (zmap (ns.getD i 0)) : Nat) : Int) := rfl
    have en : (enc (lenL f m) (nP (ns.take (i + 1)))).length = (enc (lenL f m) (nP (ns.take i))).length + (((lenL f m).getD (bl (zmap (ns.getD i 0))) 0).toNat + (bl (zmap (ns.getD i 0)) - 1)) := by
      rw [e]
      unfold nP
      rw [List.map_append, enc_app, List.length_append]
      congr 1
      rw [List.map_cons, List.map_nil, enc_cons, List.length_append, length_encOne]
      simp [Hu.enc, cdN]
    rw [if_pos (by rw [List.length_map]; omega), if_pos (by omega), ep, e0, if_pos (by omega), if_pos (by rw [length_lenL]; omega), rd_nat, w64 (x := (i : Int) + 1) (by omega) (by omega), en]
    generalize (lenL f m).getD (bl (zmap (ns.getD i 0))) 0 = y at hp
    generalize bl (zmap (ns.getD i 0)) = c at hb
    generalize (enc (lenL f m) (nP (ns.take i))).length = b at hlb
    have e1 : mx 0 (wrap64 ((c : Int) - 1)) = ((c - 1 : Nat) : Int) := by rw [mx_max, w64 (by omega) (by omega)]; omega
    rw [e1, w64 (x := (b : Int) + y) (by omega) (by omega), w64 (by omega) (by omega)]
    congr 1
    omega
end
theorem back_l0 (x2 : Int) (ns g : List Int) (hg : FreqOk g) (hl : ns.length ≤ 60) (hw : ∀ x ∈ ns, Wf x) (m : Nat) (hm : wrap64 (7 + Int.tmod (wrap64 x2) 9) = (m : Int)) (h : Made ns (addL g (ns.map partP)) m) : ∀ (d i : Nat), i + d = ns.length →
    Ev (fun k => wringerlaw11_HuffBack.l0 k x2 (ns.map partP) (addL g ((ns.take i).map partP)) 0 (i : Int)) true := by
  intro d
  induction d with
  | zero =>
    intro i hi
    rw [List.take_of_length_le (by omega)]
    refine Ev.step (f := fun k => (wringerref7_Lengths.f (addL g (ns.map partP)) (wrap64 (7 + (Int.tmod (wrap64 (x2)) 9)))).bind fun bt266 => (wringerlaw11_HuffBack.l1 k (ns.map partP) 0 bt266.1 0)) (fun k => by simp only [wringerlaw11_HuffBack.l0]; rw [if_neg (by rw [List.length_map]; omega)]) ?_
    rw [hm]
    refine Ev.bind0 h.lens ?_
    exact back_l1 h ns.length 0 (by omega)
  | succ d ih =>
    intro i hi
    have hil : i < ns.length := by omega
    have hx := hw _ (mem_getD ns 0 i hil)
    have e := PA.take_snoc ns 0 i hil
    have hb := bl_le (zmap (ns.getD i 0)) (by have := zmap_lt _ hx.1 hx.2; omega)
    have ep : rd_T54 (ns.map partP) (i : Int) = partP (ns.getD i 0) := by rw [rdP_nat, getD_map' partP ns 0 _ i hil]
    have e0 : (partP (ns.getD i 0)).f0 = ((bl (zmap (ns.getD i 0)) : Nat) : Int) := rfl
    refine Ev.step (f := fun k => wringerlaw11_HuffBack.l0 k x2 (ns.map partP) (addL g ((ns.take (i + 1)).map partP)) 0 ((i + 1 : Nat) : Int)) (fun k => ?_) (ih (i + 1) (by omega))
    simp only [wringerlaw11_HuffBack.l0]
    have hc := cnt_le ((ns.take i).map partP) (bl (zmap (ns.getD i 0)))
    rw [List.length_map, List.length_take] at hc
    have h2 := hg.each _ (getD_mem (show bl (zmap (ns.getD i 0)) < g.length by rw [hg.len]; omega))
    have hat := addL_at g ((ns.take i).map partP) (bl (zmap (ns.getD i 0))) (by omega)
    rw [if_pos (by rw [List.length_map]; omega), if_pos (by omega), ep, e0, if_pos (by omega), if_pos (by rw [length_addL]; omega), rd_nat, w64 (x := (i : Int) + 1) (by omega) (by omega), e, List.map_append, List.map_cons, List.map_nil, addL_snoc g _ (partP (ns.getD i 0)) _ (by omega) e0, Int.toNat_natCast, w64 (by rw [hat]; omega) (by rw [hat]; omega)]
    rfl
theorem HuffBack : wringerlaw11_HuffBack.Pure := by
  intro l0 l1 a2 hl hl2 hw hk hk2 hwk h2
  have u16 : IntKind.u16.min = 0 ∧ IntKind.u16.max = 65535 := ⟨rfl, rfl⟩
  have u8 : IntKind.u8.min = 0 ∧ IntKind.u8.max = 255 := ⟨rfl, rfl⟩
  refine Ev.rounds ?_
  unfold wringerlaw11_HuffBack.f
  by_cases h140 : (l1.length : Int) > 140
  · exact Ev.ite_pos h140 (Ev.bind awake11 (Ev.now _))
  · refine Ev.ite_neg h140 ?_
    obtain ⟨g, hF, hg⟩ := freq_is l1 hwk (by omega)
    simp only [Lit.wf, Bool.and_eq_true, decide_eq_true_eq] at h2 hw
    rw [u8.1, u8.2] at h2
    obtain ⟨ns, hN, hn60, hnw⟩ := numbers_is l0 (by omega) (fun x hx => by have := hw x hx; rw [u16.1, u16.2] at this; exact this)
    obtain ⟨b, rfl⟩ := Int.eq_ofNat_of_zero_le h2.1
    have em : wrap64 (7 + Int.tmod (wrap64 (b : Int)) 9) = ((7 + b % 9 : Nat) : Int) := by
      rw [w64 (x := (b : Int)) (by omega) (by omega), show (9 : Int) = ((9 : Nat) : Int) from rfl, tmod_nat, w64 (by omega) (by omega)]; omega
    refine Ev.bind hN (Ev.bind (rparts_is ns (by omega) hnw) (Ev.bind hF ?_))
    have := back_l0 (b : Int) ns g hg hn60 hnw (7 + b % 9) em (made_add ns g hg hn60 hnw (7 + b % 9) (by omega) (by omega)) ns.length 0 (by omega)
    rw [List.take_zero, List.map_nil, addL_nil hg.len] at this
    exact this
end Go.Proofs.Ytnakjencodicmaa.Pure

-- ---- LawHuffBack

namespace Go.Proofs.Ytnakjencodicmaa.huffBack
open Go.ChangeShapes Go.WideShapes Go.ChangeAt Go.RowKit
open Go.ChangeMaps (open_string shut_string)
set_option linter.unusedVariables false
theorem own : ownKnob Try.prog.godebug = none := by kernel_rfl
theorem laidOut : laidOutB Try.prog = true := by kernel_rfl
def IsRow (k : IntKind) (w : World) (a : Option Addr) (len cap : Nat) (zs : List Int) : Prop :=
  (a = none ∧ len = 0 ∧ cap = 0 ∧ zs = []) ∨
  ∃ x, a = some x ∧ len ≤ cap ∧ cap ≤ maxLen ∧ zs.length = cap ∧ (∀ i, i < zs.length → w.cell? (x.add i) = some (.int k (zs.getD i 0))) ∧ ∀ n ∈ zs, (Lit.int k n).wf = true
set_option maxRecDepth 100000 in
theorem lifted (os : Os) (started : os.Started) (H : Type) (enc : TypeId × Value → H) :
    ReturnsInHanded {} Try.checked os 5 .any (Rows.huffBackSpec.pre6 enc Try.prog Try.f5 Rows.huffBackRow.domain false) (Rows.huffBackSpec.post enc Try.prog Try.f5 false true false false) := by
  refine returnsInHanded_of_change_sized (C := Try.checked) own started (by kernel_rfl) Try.func5
    (ChangeSpec.witness6 (enc := enc) (C := Try.checked) false ⟨#[], #[.slice none 0 0, .slice none 0 0, .int .u8 0], []⟩ 8 (by kernel_rfl) (by kernel_rfl) (by kernel_rfl) (by kernel_rfl)) ?_
  intro W base args ds gs before hval0 hW hcnd hsz0 _
  have hsz : (DataW.weightsEach Try.prog (Try.f5.params.toList ++ Rows.huffBackSpec.plain.varTypes Try.prog) (ds ++ gs)).all (· ≤ reachBytes) = true := hsz0
  have hval : ∀ (j : Nat) t v, Try.f5.params[j]? = some t → args[j]? = some v → Value.okWide Try.prog W .any base t v := hval0
  have hW' := hW
  obtain ⟨p, q, hA0, hV, rfl, hfz, hnd⟩ := hW
  have hA : DataW.TrodAll enc Try.prog W 0 (fun _ => true) true Try.f5.params.toList args.toList ds p := hA0
  rw [Try.params5] at hA hval hsz
  obtain ⟨v0, vs0, d0, ds0, p0, q0, hargs, rfl, rfl, h0, r0⟩ := trodAll_cons hA
  obtain ⟨v1, vs1, d1, ds1, p1, q1, rfl, rfl, rfl, h1, r1⟩ := trodAll_cons r0
  obtain ⟨v2, vs2, d2, ds2, p2, q2, rfl, rfl, rfl, h2, r2⟩ := trodAll_cons r1
  obtain ⟨rfl, rfl, rfl⟩ := trodAll_nil r2
  obtain rfl : args = #[v0, v1, v2] := by cases args; simp_all
  obtain ⟨rfl, rfl⟩ := trodVars_none hV
  obtain ⟨a0, len0, cap0, rfl⟩ := okWide_slice Try.underlying39 (hval 0 39 v0 rfl rfl)
  have k0 := h0
  have lt0 : ∀ x ∈ p0, x.block < W.heap.size := by obtain ⟨m, hm⟩ := k0; exact DataW.trod_lt m _ _ _ hm
  obtain ⟨z0, w0⟩ : ∃ zs, IsRow .u16 W a0 len0 cap0 zs := by
    obtain ⟨fuel, hf⟩ := h0
    rcases open_ints Try.underlying39 Try.underlying40 (by kernel_rfl) hf with ⟨hcs, _⟩ | ⟨x, l, c, zs, hcs, _, hl, hm, hz, _, hcell, hwz⟩
    · simp [Value.cells] at hcs
      obtain ⟨rfl, rfl, rfl⟩ := hcs
      exact ⟨[], .inl ⟨rfl, rfl, rfl, rfl⟩⟩
    · simp [Value.cells] at hcs
      obtain ⟨rfl, rfl, rfl⟩ := hcs
      exact ⟨zs, .inr ⟨_, rfl, hl, hm, by simpa using hz, hcell, hwz⟩⟩
  have y0 : len0 * 2 ≤ 140737488351232 := Go.Proofs.YtnakjencodicmaaW.PrintWords.sized_ints hsz (j := 0) (t := 39) rfl rfl Try.underlying39 Try.underlying40 (by kernel_rfl) (by kernel_rfl) h0
  obtain ⟨a1, len1, cap1, rfl⟩ := okWide_slice Try.underlying39 (hval 1 39 v1 rfl rfl)
  have k1 := h1
  have lt1 : ∀ x ∈ p1, x.block < W.heap.size := by obtain ⟨m, hm⟩ := k1; exact DataW.trod_lt m _ _ _ hm
  obtain ⟨z1, w1⟩ : ∃ zs, IsRow .u16 W a1 len1 cap1 zs := by
    obtain ⟨fuel, hf⟩ := h1
    rcases open_ints Try.underlying39 Try.underlying40 (by kernel_rfl) hf with ⟨hcs, _⟩ | ⟨x, l, c, zs, hcs, _, hl, hm, hz, _, hcell, hwz⟩
    · simp [Value.cells] at hcs
      obtain ⟨rfl, rfl, rfl⟩ := hcs
      exact ⟨[], .inl ⟨rfl, rfl, rfl, rfl⟩⟩
    · simp [Value.cells] at hcs
      obtain ⟨rfl, rfl, rfl⟩ := hcs
      exact ⟨zs, .inr ⟨_, rfl, hl, hm, by simpa using hz, hcell, hwz⟩⟩
  have y1 : len1 * 2 ≤ 140737488351232 := Go.Proofs.YtnakjencodicmaaW.PrintWords.sized_ints hsz (j := 1) (t := 39) rfl rfl Try.underlying39 Try.underlying40 (by kernel_rfl) (by kernel_rfl) h1
  obtain ⟨a2, rfl, rfl, rfl, w2⟩ := open_int Try.underlying5 (hval 2 5 v2 rfl rfl) h2
  clear hA0 hval0 hsz0 hsz
  refine (PA.wringerlaw11_HuffBack.walk Pure.HuffBack a0 len0 cap0 z0 a1 len1 cap1 z1 a2 W w0 y0 w1 y1 w2).mono fun e W' ⟨he, bel⟩ => ?_
  subst he
  exact ⟨_, rfl, _, _, _, [], _, [], hW', trodAll_mk1 (shut_bool Try.underlying4 _), (trodAll_cons_mk (Below.trod laidOut (by kernel_rfl) (of_decide_eq_true (by kernel_rfl)) k0 bel lt0) (trodAll_cons_mk (Below.trod laidOut (by kernel_rfl) (of_decide_eq_true (by kernel_rfl)) k1 bel lt1) (trodAll_cons_mk (shut_int Try.underlying5 w2) trodAll_mk0))), rfl, bel.frame _, fun h => by cases h⟩
theorem over : Rows.huffBackRow.holds Try.pinned (OpenSpec.ofChange Rows.huffBackSpec) :=
  OpenClaim.holds_of_wide 5 Try.f5 rfl rfl rfl rfl rfl rfl rfl ⟨rfl, rfl, rfl, rfl, rfl⟩ rfl rfl rfl rfl rfl (by kernel_rfl) Try.func5 (by kernel_rfl)
    (of_decide_eq_true (by kernel_rfl)) (by unfold Func.isWrapper; first | (rw [if_pos (by decide +kernel)]; kernel_rfl) | (rw [if_neg (by decide +kernel)]; exact ⟨rfl, rfl⟩))
    (fun os started H enc _ => lifted os started H enc)
theorem proved : Rows.HuffBackSaid := over
#print axioms proved
end Go.Proofs.Ytnakjencodicmaa.huffBack
namespace Go.Proofs.Ytnakjencodicmaa
/-- The row, under a short name, for the claim. -/
theorem huffBack_holds : Rows.HuffBackSaid := huffBack.proved
end Go.Proofs.Ytnakjencodicmaa
