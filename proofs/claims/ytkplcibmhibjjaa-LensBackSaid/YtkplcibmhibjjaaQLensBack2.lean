/- Part LensBack2 of what the layer's laws stand on: Kd, Lq, PAx13, PAx14, Bn, PAx3, Lr, PAx5, My, Ls, PAx7, PAx8, PAx9, Ug, Nl, PAx21, Uq. Written by a program (merge.py) out of this session's own texts and of what the kit's print wrote over stand-ins (sp.py). Conditions: those that each theorem names. -/
import Derived.Test.YtkplcibmhibjjaaWWords
import Derived.Test.YtkplcibmhibjjaaQLensBack1
import Derived.Deep.CutBlock
import Derived.OwnWalk
import Derived.Laws.BitsLemmas
-- ---- Kd
/- Between the print's words for rows and those of this claim's own texts. No program in sight. -/
namespace Go.Proofs.Ytkplcibmhibjjaa.Own
set_option linter.unusedSimpArgs false
set_option linter.unusedVariables false
open Go Go.RowKit Go.Proofs.YtkplcibmhibjjaaW.PrintWords

theorem rd_of_C {k : IntKind} {w : World} {A : Option Addr} {n : Nat} {xs : List Int} (h : Kd.C (Kd.int k) w A n xs) : Rd w (.slice A n n) (ints k xs) := by
  obtain ⟨h1, h2, h3⟩ := h
  subst h1
  refine ⟨A, xs.length, by rw [length_ints], by rw [length_ints]; exact Nat.le_refl _, h2, fun i u hu => ?_⟩
  have hi : i < xs.length := by have := (List.getElem?_eq_some_iff.1 hu).1; rwa [length_ints] at this
  obtain ⟨ad, rfl, hc⟩ := h3 (by omega)
  obtain ⟨c, hcl, hK, hcell⟩ := hc i _ (List.getElem?_eq_getElem hi)
  refine ⟨ad, rfl, ?_⟩
  have hK2 : c = [.int k xs[i]] := hK
  have := hcell 0 (.int k xs[i]) (by rw [hK2]; rfl)
  have e : u = .int k xs[i] := by
    unfold ints at hu; rw [List.getElem?_map, List.getElem?_eq_getElem hi] at hu; simp at hu; exact hu.symm
  rw [e]; simpa [Kd.int, Kd.scalar] using this

theorem C_of_rd {k : IntKind} {w : World} {A : Option Addr} {n c : Nat} {xs : List Int} (h : Rd w (.slice A n c) (ints k xs)) : Kd.C (Kd.int k) w A n xs := by
  obtain ⟨a, cap, hv, h1, h2, hc⟩ := h
  simp only [Value.slice.injEq, length_ints] at hv h1
  obtain ⟨rfl, rfl, rfl⟩ := hv
  refine ⟨rfl, by simp only [maxLen] at h2; omega, fun h0 => ?_⟩
  obtain ⟨x, hx, _⟩ := hc 0 _ (ints_at k xs 0 (by omega))
  refine ⟨x, hx, fun i y hy => ?_⟩
  have hi : i < xs.length := (List.getElem?_eq_some_iff.1 hy).1
  obtain ⟨x2, hx2, hcell⟩ := hc i _ (ints_at k xs i hi)
  rw [hx] at hx2; cases hx2
  have e : xs.getD i 0 = y := by rw [List.getD_eq_getElem?_getD, hy]; rfl
  rw [e] at hcell
  refine ⟨[.int k y], rfl, rfl, fun j u hj => ?_⟩
  match j, hj with
  | 0, hj => simp at hj; subst hj; simpa [Kd.int, Kd.scalar] using hcell

theorem own_low {w : World} {base e size n : Nat} {v : Value} {xs : List Value} (h : w.ownsRow 0 e size v n xs) (hb : ∀ g, v.ownBlock = some g → base ≤ g) : w.ownsRow base e size v n xs := by
  refine ⟨h.1, ?_⟩
  rcases h.2 with hn | ⟨g, cap, cur, rfl, _, r⟩
  · exact .inl hn
  · exact .inr ⟨g, cap, cur, rfl, hb g rfl, r⟩

/-- A row of elements, their cells one behind the other. -/
theorem R_of_flat {α : Type} (d : Kd α) (enc : α → List Value) {e : Nat} {w : World} {base : Nat} {v : Value} {xs : List α} (hM : ∀ ok x, d.M w base ok x (enc x)) (hl : ∀ x, (enc x).length = d.sz)
    (h : w.ownsRow 0 e d.sz v xs.length (xs.flatMap enc)) (hb : ∀ g, v.ownBlock = some g → base ≤ g) : Kd.R d e w base (fun _ => True) v xs := by
  refine ⟨fun _ _ => trivial, xs.flatMap enc, own_low h hb, ?_⟩
  have key : ∀ (xs : List α), (xs.flatMap enc).length = xs.length * d.sz ∧ ∀ j p, xs[j]? = some p → ((xs.flatMap enc).drop (j * d.sz)).take d.sz = enc p := by
    intro xs
    induction xs with
    | nil => exact ⟨by simp, fun j p hj => by simp at hj⟩
    | cons a t ih =>
      have ha := hl a
      refine ⟨by rw [List.flatMap_cons, List.length_append, ih.1, ha, List.length_cons, Nat.succ_mul]; omega, fun j p hj => ?_⟩
      rw [List.flatMap_cons]
      cases j with
      | zero => simp at hj; subst hj; rw [Nat.zero_mul, List.drop_zero]; exact List.take_left' ha
      | succ j =>
        have e2 : (j + 1) * d.sz = (enc a).length + j * d.sz := by rw [ha, Nat.succ_mul]; omega
        rw [e2, ← List.drop_drop, List.drop_left]
        exact ih.2 j p (by simpa using hj)
  exact ⟨(key xs).1, fun j p hj => by rw [(key xs).2 j p hj]; exact hM _ p⟩

theorem flat_ints (k : IntKind) (xs : List Int) : xs.flatMap (fun x => [Value.int k x]) = ints k xs := by
  unfold ints; induction xs with
  | nil => rfl
  | cons a t ih => simp [ih]
theorem R_of_owns {k : IntKind} {e : Nat} {w : World} {base : Nat} {v : Value} {xs : List Int} (h : Owns w e v (ints k xs)) (hb : ∀ g, v.ownBlock = some g → base ≤ g) : Kd.R (Kd.int k) e w base (fun _ => True) v xs := by
  refine R_of_flat (Kd.int k) (fun x => [Value.int k x]) (fun ok x => rfl) (fun _ => rfl) ?_ hb
  rw [flat_ints]
  have h2 : w.ownsRow 0 e 1 v (ints k xs).length (ints k xs) := h
  rwa [length_ints] at h2
theorem owns_of_R {k : IntKind} {e : Nat} {w : World} {base : Nat} {ok : Nat → Prop} {v : Value} {xs : List Int} (h : Kd.R (Kd.int k) e w base ok v xs) : Owns w e v (ints k xs) ∧ ∀ g, v.ownBlock = some g → base ≤ g := by
  obtain ⟨_, inner, ho, hl, hr⟩ := h
  have e1 : inner = ints k xs := by
    apply List.ext_getElem
    · rw [length_ints, hl]; simp [Kd.int, Kd.scalar]
    · intro i h1 h2
      rw [length_ints] at h2
      have h3 := hr i _ (List.getElem?_eq_getElem h2)
      have h4 : (inner.drop (i * 1)).take 1 = [Value.int k xs[i]] := h3
      rw [Nat.mul_one, List.drop_eq_getElem_cons h1] at h4
      simp only [List.take_succ_cons, List.take_zero, List.cons.injEq, and_true] at h4
      rw [h4]; simp [ints]
  subst e1
  refine ⟨?_, fun g hg => (World.ownsRow.lt ho g hg).1⟩
  have h2 : w.ownsRow base e 1 v xs.length (ints k xs) := ho
  refine ⟨by simp, ?_⟩
  rcases h2.2 with ⟨hv, hn⟩ | ⟨g, cap, cur, hv, _, r⟩
  · left; exact ⟨hv, by simpa using hn⟩
  · right; exact ⟨g, cap, cur, by simpa using hv, Nat.zero_le _, by simpa using r⟩
end Go.Proofs.Ytkplcibmhibjjaa.Own

-- ---- Lq
/- The document's bytes of lengths: what the call answers. Conditions: the list reads as the argument does. -/
namespace Go.Proofs.Ytkplcibmhibjjaa.PA
open Go.RowKit Go.Proofs.YtkplcibmhibjjaaW.PrintWords Go.Proofs.YtkplcibmhibjjaaW.PrintLast Go.Proofs.YtkplcibmhibjjaaW.PrintMore
open Mix _root_.Go.Proofs.Ytkplcibmhibjjaa.Own Bits Lp Dp
set_option linter.unusedVariables false
set_option linter.unusedSimpArgs false
attribute [local go_sem] Own.max_int Own.min_int

theorem runC_at : ∀ (c : Nat) (l : List Int) (q : Nat), q < runC c l → l.getD q 0 = 0 ∧ q < c ∧ q < l.length := by
  intro c
  induction c with
  | zero => intro l q h; simp [runC] at h
  | succ c ih =>
    intro l q h
    cases l with
    | nil => simp [runC] at h
    | cons x t =>
      simp only [runC] at h
      split at h
      · rename_i hx
        cases q with
        | zero => exact ⟨by simpa using hx, by omega, by simp⟩
        | succ q => have := ih t q (by omega); exact ⟨by simpa using this.1, by omega, by simp; omega⟩
      · omega
theorem runC_end : ∀ (c : Nat) (l : List Int), runC c l = c ∨ runC c l = l.length ∨ l.getD (runC c l) 0 ≠ 0 := by
  intro c
  induction c with
  | zero => intro l; left; cases l <;> rfl
  | succ c ih =>
    intro l
    cases l with
    | nil => right; left; rfl
    | cons x t =>
      simp only [runC]
      split
      · rcases ih t with h | h | h
        · left; omega
        · right; left; simp; omega
        · right; right; simpa using h
      · rename_i hx; right; right; simpa using hx
theorem clamp4 : clamp 4 = 4 := by decide

set_option maxHeartbeats 4000000 in
theorem rputlens_calls (A0 : Option Addr) (c0 : Nat) (l : List Int) (w : World) (hr0 : Kd.C (Kd.int .i64) w A0 l.length l) (hc0 : l.length ≤ c0) :
    Calls Try.prog 11 #[.slice A0 l.length c0] w fun e w' => e = .returned (.string (putL l)) ∧ Below w.heap.size w w' := by
  obtain ⟨k, hk⟩ := (rmay_is l).rounds
  have hm := wringerref7_MayLens.calls k A0 c0 l _ w hr0 hc0 hk
  have hR := Own.rd_of_C hr0
  obtain ⟨n0, hn0⟩ : ∃ n0, n0 = l.length := ⟨_, rfl⟩
  cases hml : mayL l with
  | false =>
    rw [hml] at hm
    have HE : Kept (putL l = ⟨#[]⟩) := kept (by unfold putL; rw [hml]; rfl)
    rw [← hn0] at hm ⊢
    have HM := kept hm
    clear hr0 hc0 hk hm hR hml hn0
    go_enter Try.func11, Try.ntmps11
    go_wp2_with (first | (go_at_call 19; refine HM.out.mono ?_; rintro e w1 ⟨rfl, ⟨⟨nd, rfl⟩⟩⟩))
    go_ret
    exact ⟨by rw [HE.out]; rfl, (pw_below_drewN (Below.refl _ _) _)⟩
  | true =>
    rw [hml] at hm
    obtain ⟨h65, hrange⟩ := mayL_range hml
    rw [h65] at hn0
    subst hn0
    have HE : Kept (putL l = textOf (pack (bitsN (nibL l)))) := kept (by unfold putL; rw [hml]; rfl)
    rw [h65] at hm hR ⊢
    obtain ⟨B, hB⟩ : ∃ B, B = w.heap.size := ⟨_, rfl⟩
    rw [← hB]
    have HB := kept hB
    have HM := kept hm
    have HR := kept hR
    have HL := kept h65
    have HRg := kept hrange
    clear hr0 hc0 hk hm hR hml h65 hrange hB
    go_enter Try.func11, Try.ntmps11
    go_wp2_with (first | (go_at_call 19; refine HM.out.mono ?_; rintro e w1 ⟨rfl, ⟨⟨nd, rfl⟩⟩⟩))
    obtain ⟨p, hp⟩ : ∃ p, p = (w.drewN nd).heap.size := ⟨_, rfl⟩
    have hpw : (w.drewN nd).heap.size = w.heap.size := by simp
    generalize hw1 : World.alloc _ _ = w1
    have HN1 : Kept (NewR B w1 w.heap.size (.slice none 0 0) (bitsN []) ∧ Below B w w1 ∧ B ≤ w1.heap.size) := kept (by
      have hb : Below w.heap.size w w1 := by rw [← hw1]; exact (pw_below_drewN (Below.refl _ _) _).alloc (Nat.le_of_eq (by simp)) _
      refine ⟨⟨⟨?_, Owns.nil _ _⟩, by rw [HB.out]; exact Nat.le_refl _, fun g hg => by simp [Value.ownBlock] at hg⟩, by rw [HB.out]; exact hb, by rw [HB.out]; exact hb.size⟩
      rw [← hw1]; exact Blk.fresh_at _ _ (by simp) _ _)
    rw [← HB.out] at HN1 ⊢
    clear hw1 hp hpw
    go_wp2_with fail
    go_loopw [4] (fun s4 wr => ∃ (i : Nat) (v : Value) (done : List Nat), i ≤ 65 ∧ s4 = .int .i64 (i : Int) ∧ NewR B wr B v (bitsN done) ∧ Below B w wr ∧ B ≤ wr.heap.size ∧ done ++ nibL (l.drop i) = nibL l ∧ done.length ≤ 2 * i) (fun s4 _ => 65 - (intOf s4).toNat)
    case atStart => exact ⟨0, _, [], by omega, rfl, HN1.out.1, HN1.out.2.1, HN1.out.2.2, rfl, by simp⟩
    case round =>
      obtain ⟨i, v, done, hi65, rfl, hW, hb, hs, hd, hdl⟩ := hrel
      obtain ⟨wq, rfl⟩ : ∃ wq, wq = wr := ⟨wr, rfl⟩
      have HW := kept hW
      have HBl := kept hb
      have HS := kept hs
      have HD := kept hd
      have hbl := length_bitsN done
      have hbl2 : (bitsN done).length < 1000000000000 := by omega
      have HBL := kept hbl2
      clear hW hb hs hd hbl hbl2 HN1
      by_cases hlt : i < 65
      · have hil : i < l.length := by rw [HL.out]; exact hlt
        obtain ⟨x, rfl, hcw⟩ := HR.out.at (Own.ints_at .i64 l i hil)
        have hxB : (x.add i).block < B := by rw [HB.out]; exact World.block_lt_of_cell? w _ hcw
        have hc := (HBl.out.cell hxB).trans hcw
        have hy := HRg.out (l.getD i 0) (by simp [List.getD_eq_getElem?_getD, hil])
        have hdr := dropG l i hil
        obtain ⟨y, hye⟩ : ∃ y : Nat, l.getD i 0 = (y : Int) := ⟨(l.getD i 0).toNat, by omega⟩
        rw [hye] at hc hy hdr
        have hy15 : y ≤ 15 := by omega
        have HYe := kept hye
        have HDr := kept hdr
        have HPut := kept (rput_new B B v (bitsN done) y 4 wq HS.out HW.out HBL.out (by omega) (by decide) (by decide))
        clear hye hil hy hdr hcw
        by_cases hy0 : 0 < y
        · have hnb : Kept (done ++ [y] ++ nibL (l.drop (i + 1)) = nibL l) := kept (by
            have h := HD.out
            rw [HDr.out, nibL_pos _ _ (by omega), Int.toNat_natCast] at h
            rw [← h]; simp)
          go_wp2_with (first | (go_at_call 24; refine HPut.out.mono ?_; rw [clamp4]; rintro e w2 ⟨rfl, v2, hW2, hb2⟩; have hc2 := (hb2.cell hxB).trans hc; have HW2 := kept hW2; have HB2 := kept (HBl.out.trans hb2); have HS2 := kept (Nat.le_trans HS.out hb2.size); clear hW2 hb2 hc))
          go_roundw
          case rel => exact ⟨i + 1, v2, done ++ [y], by omega, by go_num, by rw [bitsN_append, bitsN_cons]; simpa [bitsN] using HW2.out, HB2.out, HS2.out, hnb.out, by simp; omega⟩
          case measure => simp [intOf]; omega
        · have hy00 : y = 0 := by omega
          subst hy00
          obtain ⟨R, hRn⟩ : ∃ R, R = runC 16 (l.drop i) := ⟨_, rfl⟩
          have hR1 : 1 ≤ R := by rw [hRn, HDr.out]; exact runC_pos 15 _
          have hR2 := runC_le 16 (l.drop i)
          rw [← hRn, List.length_drop, HL.out] at hR2
          obtain ⟨hR16, hR65⟩ := hR2
          have hnb : Kept (done ++ [0] ++ [R - 1] ++ nibL (l.drop (i + R)) = nibL l) := kept (by
            have h := HD.out
            have h2 := nibL_zero (l.drop (i + 1))
            rw [show ((0 : Nat) : Int) = 0 from rfl] at HDr
            rw [← HDr.out, ← hRn, List.drop_drop] at h2
            rw [← h, h2]; simp)
          have hAt : Kept (∀ q, q < R → l.getD (i + q) 0 = 0) := kept (fun q hq => by
            have h := (runC_at 16 (l.drop i) q (by rw [← hRn]; exact hq)).1
            simpa [List.getD_eq_getElem?_getD] using h)
          have hEnd : Kept (R = 16 ∨ i + R = 65 ∨ l.getD (i + R) 0 ≠ 0) := kept (by
            rcases runC_end 16 (l.drop i) with h | h | h
            · left; rw [hRn]; exact h
            · right; left; rw [← hRn, List.length_drop, HL.out] at h; omega
            · right; right; rw [← hRn] at h; simpa [List.getD_eq_getElem?_getD] using h)
          clear hRn hy0
          go_upto_block 2 with (first | (go_at_call 24; refine HPut.out.mono ?_; rw [clamp4]; rintro e w2 ⟨rfl, v2, hW2, hb2⟩; have hc2 := (hb2.cell hxB).trans hc; have HW2 := kept hW2; have HB2 := kept (HBl.out.trans hb2); have HS2 := kept (Nat.le_trans HS.out hb2.size); clear hW2 hb2 hc))
          obtain ⟨r, rfl⟩ : ∃ r, R = r + 1 := ⟨R - 1, by omega⟩
          go_cut [4, 5] from 29 to 47 (fun s4 s5 wx => s4 = .int .i64 ((i : Int) + ((r : Int) + 1)) ∧ s5 = .int .i64 ((r : Int) + 1) ∧ wx = w2)
          case first =>
            go_wp2_with fail
            go_loopw [4, 5] (fun s4 s5 wr => ∃ q : Nat, q ≤ r + 1 ∧ s4 = .int .i64 ((i : Int) + (q : Int)) ∧ s5 = .int .i64 (q : Int) ∧ wr = w2) (fun _ s5 _ => r + 1 - (intOf s5).toNat)
            case atStart => exact ⟨0, by omega, by simp, rfl, rfl⟩
            case round =>
              obtain ⟨q, hq, rfl, rfl, rfl⟩ := hrel
              have cellq : i + q < 65 → wr.cell? (x.add (i + q)) = some (.int .i64 (l.getD (i + q) 0)) := fun h => by
                obtain ⟨x2, hx2, hcw2⟩ := HR.out.at (Own.ints_at .i64 l (i + q) (by rw [HL.out]; exact h))
                cases hx2
                exact (HB2.out.cell (by rw [HB.out]; exact World.block_lt_of_cell? w _ hcw2)).trans hcw2
              by_cases hqr : q < r + 1
              · have t1 : decide ((i : Int) + (q : Int) < 65) = true := decide_eq_true (by omega)
                have hcq := cellq (by omega)
                rw [hAt.out q hqr] at hcq
                have t3 : decide ((q : Int) < 16) = true := decide_eq_true (by omega)
                have hq16 : q < 16 := by omega
                have hiq : i + q < 65 := by omega
                clear cellq
                go_wp2_with fail
                go_roundw
                case rel => exact ⟨q + 1, by omega, by go_num, by go_num, trivial⟩
                case measure => simp [intOf]; omega
              · have hqe : q = r + 1 := by omega
                subst hqe
                by_cases h65 : i + (r + 1) = 65
                · have t1 : decide ((i : Int) + ((r : Int) + 1) < 65) = false := decide_eq_false (by omega)
                  clear cellq hqr
                  go_wp2_with fail
                  go_meet
                  case rel => exact ⟨by go_num, by go_num, by first | trivial | rfl⟩
                · have t1 : decide ((i : Int) + ((r : Int) + 1) < 65) = true := decide_eq_true (by omega)
                  have hiq : i + (r + 1) < 65 := by omega
                  have hcq := cellq hiq
                  obtain ⟨z, hz⟩ : ∃ z, z = l.getD (i + (r + 1)) 0 := ⟨_, rfl⟩
                  have hEz := hEnd.out
                  rw [← hz] at hcq hEz
                  by_cases hz0 : z = 0
                  · subst hz0
                    have hr15 : r = 15 := by omega
                    have t3 : decide ((r : Int) + 1 < 16) = false := decide_eq_false (by omega)
                    have t4 : ¬ r + 1 < 16 := by omega
                    clear cellq hr15 hqr hEz hz
                    go_wp2_with fail
                    go_meet
                    case rel => exact ⟨by go_num, by go_num, by first | trivial | rfl⟩
                  · have t2 : (z == 0) = false := by rw [beq_eq_false_iff_ne]; exact hz0
                    clear cellq hqr hEz hz hz0
                    go_wp2_with fail
                    go_meet
                    case rel => exact ⟨by go_num, by go_num, by first | trivial | rfl⟩
          case rest =>
            obtain ⟨rfl, rfl, rfl⟩ := hcut
            have hbl3 := length_bitsN (done ++ [0])
            have HPut2 := kept (rput_new B B v2 (bitsN (done ++ [0])) r 4 wc HS2.out (by rw [bitsN_append]; simpa [bitsN] using HW2.out) (by rw [hbl3]; simp; omega) (by omega) (by decide) (by decide))
            clear hbl3
            go_wp2_with (first | (go_at_call 24; refine HPut2.out.mono ?_; rw [clamp4]; rintro e w3 ⟨rfl, v3, hW3, hb3⟩; have HW3 := kept hW3; have HB3 := kept (HB2.out.trans hb3); have HS3 := kept (Nat.le_trans HS2.out hb3.size); clear hW3 hb3))
            go_roundw
            case rel =>
              refine ⟨i + (r + 1), v3, done ++ [0] ++ [r], by omega, by go_num, ?_, HB3.out, HS3.out, hnb.out, by simp; omega⟩
              rw [bitsN_append (done ++ [0])]
              simpa [bitsN] using HW3.out
            case measure => simp [intOf]; omega
      · have hie : i = 65 := by omega
        subst hie
        have HN : Kept (nibL l = done) := kept (by
          have h := HD.out
          rw [List.drop_eq_nil_of_le (by rw [HL.out]; omega), nibL_nil, List.append_nil] at h
          exact h.symm)
        have hby := rbytes_calls B v _ wq HW.out.is HBL.out
        rw [← HN.out, ← HE.out] at hby
        have HBy := kept hby
        clear hby hlt hdl
        go_wp2_with (first | (go_at_call 25; refine HBy.out.mono ?_; rintro e w' ⟨rfl, hb3⟩; have HB3 := kept (HBl.out.trans (hb3.mono HS.out)); clear hb3))
        go_ret
        exact ⟨rfl, HB3.out⟩
end Go.Proofs.Ytkplcibmhibjjaa.PA

-- ---- PAx13
/- The document's bytes of lengths: what the call answers, for every list. Conditions: none but a slice's. -/
namespace Go.Proofs.Ytkplcibmhibjjaa.PA
open Go.RowKit Go.Proofs.YtkplcibmhibjjaaW.PrintWords Go.Proofs.YtkplcibmhibjjaaW.PrintLast Go.Proofs.YtkplcibmhibjjaaW.PrintMore
set_option linter.unusedVariables false
set_option linter.unusedSimpArgs false

def wringerref7_PutLens.f (l0 : List Int) : Option (ByteArray) := some (Lp.putL l0)
theorem wringerref7_PutLens.calls (A0 : Option Addr) (c0 : Nat) (l0 : List Int) (r : ByteArray) (w : World) (hr0 : Kd.C (Kd.int .i64) w A0 l0.length l0) (hc0 : l0.length ≤ c0) (h : wringerref7_PutLens.f l0 = some r) :
    Calls Try.prog 11 #[.slice A0 l0.length c0] w fun e w' => e = .returned (.string r) ∧ Below w.heap.size w w' := by
  unfold wringerref7_PutLens.f at h
  cases h
  exact rputlens_calls A0 c0 l0 w hr0 hc0
end Go.Proofs.Ytkplcibmhibjjaa.PA

-- ---- PAx14

namespace Go.Proofs.Ytkplcibmhibjjaa.PA
open Go.RowKit Go.Proofs.YtkplcibmhibjjaaW.PrintWords Go.Proofs.YtkplcibmhibjjaaW.PrintLast Go.Proofs.YtkplcibmhibjjaaW.PrintMore
attribute [local go_sem] max2_int min2_int max_two min_two max_three min_three max_four min_four   -- for this text's walks alone
set_option linter.unusedVariables false
set_option linter.unusedSimpArgs false

/-! ### wringerref7_GetLens: function 9 -/
mutual
def wringerref7_GetLens.j0 : Nat → ByteArray → Int → Bool → Option (List Int × Int × Int)
  | 0, _, _, _ => none
  | k + 1, x0, x1, x16 => if x16 = true then (some (([] : List Int), 0, 1)) else (wringerref7_GetLens.l0 k x0 x1 ([] : List Int) (wrap64 (2 * x1)))
def wringerref7_GetLens.l0 : Nat → ByteArray → Int → List Int → Int → Option (List Int × Int × Int)
  | 0, _, _, _, _ => none
  | k + 1, x0, x1, x5, x6 => if (x5.length : Int) < 65 then (if (wrap64 (Int.tdiv x6 2)) ≥ (x0.size : Int) then (some (([] : List Int), 0, 2)) else (if 0 ≤ (wrap64 (Int.tdiv x6 2)) then (if (wrap64 (Int.tdiv x6 2)) < (x0.size : Int) then (if 0 ≤ (wrap64 ((Int.tmod x6 2) * 4)) then (if (Go.bits .and .i64 (shr .i64 (wrap64 (bt x0 (wrap64 (Int.tdiv x6 2)))) (wrap64 ((Int.tmod x6 2) * 4))) 15) > 0 then (if x5.length < 17592186044416 then (wringerref7_GetLens.l0 k x0 x1 (x5 ++ [Go.bits .and .i64 (shr .i64 (wrap64 (bt x0 (wrap64 (Int.tdiv x6 2)))) (wrap64 ((Int.tmod x6 2) * 4))) 15]) (wrap64 (x6 + 1))) else (none)) else (if (wrap64 (Int.tdiv (wrap64 (x6 + 1)) 2)) ≥ (x0.size : Int) then (some (([] : List Int), 0, 2)) else (if 0 ≤ (wrap64 (Int.tdiv (wrap64 (x6 + 1)) 2)) then (if (wrap64 (Int.tdiv (wrap64 (x6 + 1)) 2)) < (x0.size : Int) then (if 0 ≤ (wrap64 ((Int.tmod (wrap64 (x6 + 1)) 2) * 4)) then (if 0 ≤ (wrap64 ((Go.bits .and .i64 (shr .i64 (wrap64 (bt x0 (wrap64 (Int.tdiv (wrap64 (x6 + 1)) 2)))) (wrap64 ((Int.tmod (wrap64 (x6 + 1)) 2) * 4))) 15) + 1)) then (if x5.length + (wrap64 ((Go.bits .and .i64 (shr .i64 (wrap64 (bt x0 (wrap64 (Int.tdiv (wrap64 (x6 + 1)) 2)))) (wrap64 ((Int.tmod (wrap64 (x6 + 1)) 2) * 4))) 15) + 1) : Int).toNat < 17592186044416 then (wringerref7_GetLens.l0 k x0 x1 (x5 ++ List.replicate (wrap64 ((Go.bits .and .i64 (shr .i64 (wrap64 (bt x0 (wrap64 (Int.tdiv (wrap64 (x6 + 1)) 2)))) (wrap64 ((Int.tmod (wrap64 (x6 + 1)) 2) * 4))) 15) + 1) : Int).toNat 0) (wrap64 ((wrap64 (x6 + 1)) + 1))) else (none)) else (none)) else (none)) else (none)) else (none)))) else (none)) else (none)) else (none))) else (if (x5.length : Int) = 65 then ((wringerref7_MayLens.f k x5).bind fun t144 => (if t144 = true then ((wringerref7_PutLens.f x5).bind fun t145 => (if 0 ≤ x1 then (if x1 ≤ (wrap64 (Int.tdiv (wrap64 (x6 + 1)) 2)) then (if (wrap64 (Int.tdiv (wrap64 (x6 + 1)) 2)) ≤ (x0.size : Int) then (if t145.toList = (x0.extract (x1 : Int).toNat ((wrap64 (Int.tdiv (wrap64 (x6 + 1)) 2)) : Int).toNat).toList then (some (x5, wrap64 (Int.tdiv (wrap64 (x6 + 1)) 2), 0)) else (some (([] : List Int), 0, 3))) else (none)) else (none)) else (none))) else (some (([] : List Int), 0, 3)))) else (some (([] : List Int), 0, 3)))
end
def wringerref7_GetLens.f (k : Nat) (a0 : ByteArray) (a1 : Int) : Option (List Int × Int × Int) := if a1 < 0 then (wringerref7_GetLens.j0 k a0 a1 true) else (wringerref7_GetLens.j0 k a0 a1 (decide (a1 > (a0.size : Int))))
theorem wringerref7_GetLens.mono_l : ∀ k, (∀ y0 y1 y2, LeO (wringerref7_GetLens.j0 k y0 y1 y2) (wringerref7_GetLens.j0 (k + 1) y0 y1 y2)) ∧ (∀ y0 y1 y2 y3, LeO (wringerref7_GetLens.l0 k y0 y1 y2 y3) (wringerref7_GetLens.l0 (k + 1) y0 y1 y2 y3))
  | 0 => ⟨fun _ _ _ r h => by simp [wringerref7_GetLens.j0] at h, fun _ _ _ _ r h => by simp [wringerref7_GetLens.l0] at h⟩
  | k + 1 => by
    obtain ⟨ih0, ih1⟩ := wringerref7_GetLens.mono_l k
    refine ⟨?_, ?_⟩
    · intro y0 y1 y2
      unfold wringerref7_GetLens.j0
      repeat' first
      | (with_reducible exact ih0 _ _ _)
      | (with_reducible exact ih1 _ _ _ _)
      | (with_reducible exact wringerref7_MayLens.mono _ _)
      | (with_reducible exact LeO.refl _)
      | (with_reducible exact LeO.none _)
      | (with_reducible refine LeO.ite ?_ ?_)
      | (with_reducible refine LeO.bind ?_ (fun _ => ?_))
      | exact ih0 _ _ _
      | exact ih1 _ _ _ _
      | exact wringerref7_MayLens.mono _ _
      | exact LeO.none _
      | refine LeO.ite ?_ ?_
      | refine LeO.bind ?_ (fun _ => ?_)
    · intro y0 y1 y2 y3
      unfold wringerref7_GetLens.l0
      repeat' first
      | (with_reducible exact ih0 _ _ _)
      | (with_reducible exact ih1 _ _ _ _)
      | (with_reducible exact wringerref7_MayLens.mono _ _)
      | (with_reducible exact LeO.refl _)
      | (with_reducible exact LeO.none _)
      | (with_reducible refine LeO.ite ?_ ?_)
      | (with_reducible refine LeO.bind ?_ (fun _ => ?_))
      | exact ih0 _ _ _
      | exact ih1 _ _ _ _
      | exact wringerref7_MayLens.mono _ _
      | exact LeO.none _
      | refine LeO.ite ?_ ?_
      | refine LeO.bind ?_ (fun _ => ?_)
theorem wringerref7_GetLens.mono : ∀ a0 a1 k, LeO (wringerref7_GetLens.f k a0 a1) (wringerref7_GetLens.f (k + 1) a0 a1) := by
  intro a0 a1 k
  obtain ⟨ih0, ih1⟩ := wringerref7_GetLens.mono_l k
  unfold wringerref7_GetLens.f
  repeat' first
      | (with_reducible exact ih0 _ _ _)
      | (with_reducible exact ih1 _ _ _ _)
      | (with_reducible exact wringerref7_MayLens.mono _ _)
      | (with_reducible exact LeO.refl _)
      | (with_reducible exact LeO.none _)
      | (with_reducible refine LeO.ite ?_ ?_)
      | (with_reducible refine LeO.bind ?_ (fun _ => ?_))
      | exact ih0 _ _ _
      | exact ih1 _ _ _ _
      | exact wringerref7_MayLens.mono _ _
      | exact LeO.none _
      | refine LeO.ite ?_ ?_
      | refine LeO.bind ?_ (fun _ => ?_)
def wringerref7_GetLens.T18 : Bool × List (List Nat × List Nat) := (true, [([], []), ([0], [0]), ([1], [1]), ([2], [2]), ([3], [3]), ([4, 3, 3], [3, 4]), ([5, 3], [3, 5]), ([3, 6], [3, 6]), ([7, 5], [7]), ([8], [8]), ([9, 8, 8], [8, 9]), ([8], [8]), ([8], [8]), ([8], [8]), ([11, 12, 13, 8], [8, 11, 12, 13]), ([10, 14, 8], [8, 10, 14]), ([8, 15], [8, 15])])
def wringerref7_GetLens.B18 : List Nat := [0, 1, 3, 7, 15, 31, 63, 127, 255, 511, 1023, 511, 511, 511, 14847, 32767, 65535]
theorem wringerref7_GetLens.tab18 : rtab .any (opsOf Try.f9 18) = wringerref7_GetLens.T18 := by kernel_rfl
theorem wringerref7_GetLens.bits18 : waitsOk wringerref7_GetLens.T18.2 wringerref7_GetLens.B18 = true := by kernel_rfl
set_option maxHeartbeats 8000000 in
set_option maxRecDepth 100000 in
theorem wringerref7_GetLens.calls (k : Nat) (a0 : ByteArray) (a1 : Int) (r1 : List Int) (r2 : Int) (r3 : Int) (w : World) (h : wringerref7_GetLens.f k a0 a1 = some (r1, r2, r3)) :
    Calls Try.prog 9 #[.string a0, .int .i64 a1] w fun e w' => ∃ v0_ : Value, e = .returned (.agg #[v0_, .int .i64 r2, .int .i64 r3]) ∧ Kd.R (Kd.int .i64) 3 w' w.heap.size (fun _ => True) v0_ r1 ∧ Below w.heap.size w w' := by
  have hu28 := Try.underlying28
  have HB := Aside0.mk (Below.refl w.heap.size w)
  have H : (if a1 < 0 then (wringerref7_GetLens.j0 k a0 a1 true) else (wringerref7_GetLens.j0 k a0 a1 (decide (a1 > (a0.size : Int))))) = some (r1, r2, r3) := h
  clear h
  have HC3 := Aside0.mk H
  clear H
  go_enter Try.func9, Try.ntmps9
  go_upto_region 1 with (first | ((with_reducible refine gate_dst (N := 4) rfl ?_); (try (refine gate_guard (by rfl) ?_; dsimp only)); refine box_event ?hg (N := 4) ?hd (cs := #[.slice none 0 0, .int .i64 0, .int .i64 0]) (t := 28) ?hr ?_; (case hd => rfl); (case hg => rfl); (case hr => first | (go_simp; done) | (go_simp; rfl)); intro gb137 hg w4 hbox hb; have n0_ := Aside0.mk (below_step (by repeat (first | (with_reducible first | exact HB.out | apply below_alloc | apply pw_below_drewN | apply below_drew1) | exact HB.out)) hb); have n1_ := Aside0.mk (hbox); have n2_ := Aside0.mk ((by rw [hg]; exact (below_size (by repeat (first | (with_reducible first | exact HB.out | apply below_alloc | apply pw_below_drewN | apply below_drew1) | exact HB.out))) : w.heap.size ≤ gb137)); have n3_ := Aside0.mk ((by rw [hg]; exact (below_size (by repeat (first | (with_reducible first | exact HB.out | apply below_alloc | apply pw_below_drewN | apply below_drew1) | exact HB.out))) : w.heap.size ≤ gb137)); clear HB; have HB := n0_; have BK137 := n1_; have GW137 := n2_; have GE137 := n3_; clear n0_ n1_ n2_ n3_; clear hb hbox hg))
  (try simp only [Act.put, List.setIfInBounds_toArray, List.set_cons_zero, List.set_cons_succ])
  go_cut [16] (fun v16 wc => ∃ (kq : Nat) (x16_2 : Bool), v16 = .bool x16_2 ∧ Aside0 (wringerref7_GetLens.j0 kq a0 a1 x16_2 = some (r1, r2, r3)) ∧ Aside0 (kq ≤ k) ∧ Aside0 (wc.heap[gb137]? = some (.cells #[(.slice none 0 0), .int .i64 0, .int .i64 0] 28 (0, 0))) ∧ Aside0 (Below w.heap.size w wc))
  case first =>
    have H := HC3.out
    clear HC3
    by_cases c5 : a1 < 0
    · rw [if_pos c5] at H
      have c5b0 : decide (a1 < 0) = true := decide_eq_true c5
      clear c5
      (first | rw [c5b0] | (simp only [i64_w, i32_w]; rw [c5b0]) | skip)
      have H' := Aside0.mk H
      clear H
      go_wp2
      go_meet
      case rel => exact ⟨_, (true), (by first | rfl | (simp; done) | (simp [*]; done)), H', ⟨by first | omega | exact Nat.le_refl _⟩, ⟨by (with_reducible repeat (first | refine blk_drewN ?_ _ | refine blk_drew ?_ | refine blk_alloc ?_ _)); exact BK137.out⟩, ⟨by repeat (first | (with_reducible first | exact HB.out | apply below_alloc | apply pw_below_drewN | apply below_drew1 | refine below_set ?_ GE137.out) | exact HB.out)⟩⟩
    · rw [if_neg c5] at H
      have c5b0 : decide (a1 < 0) = false := decide_eq_false c5
      clear c5
      (first | rw [c5b0] | (simp only [i64_w, i32_w]; rw [c5b0]) | skip)
      have H' := Aside0.mk H
      clear H
      go_wp2
      go_meet
      case rel => exact ⟨_, (decide (a1 > (a0.size : Int))), (by first | rfl | (simp; done) | (simp [*]; done)), H', ⟨by first | omega | exact Nat.le_refl _⟩, ⟨by (with_reducible repeat (first | refine blk_drewN ?_ _ | refine blk_drew ?_ | refine blk_alloc ?_ _)); exact BK137.out⟩, ⟨by repeat (first | (with_reducible first | exact HB.out | apply below_alloc | apply pw_below_drewN | apply below_drew1 | refine below_set ?_ GE137.out) | exact HB.out)⟩⟩
  case rest =>
    clear HC3
    try clear p2
    try clear c5
    try clear c5b0
    obtain ⟨kq, x16_2, rfl, HA, HJ2, BK137, HB⟩ := hcut
    cases kq with
    | zero => exact absurd HA.out (by simp [wringerref7_GetLens.j0])
    | succ kj2 =>
      have H := HA.out
      clear HA
      simp only [wringerref7_GetLens.j0] at H
      by_cases c6 : x16_2 = true
      · subst c6
        have H1 : (some (([] : List Int), 0, 1)) = some (r1, r2, r3) := by rw [if_pos rfl] at H; exact H
        clear H
        have H := H1
        clear H1
        simp only [Option.some.injEq, Prod.mk.injEq] at H
        obtain ⟨rfl, rfl, rfl⟩ := H
        have hcz7_0 : wc.cell? ⟨gb137, 0, none⟩ = some (.slice none 0 0) := (blk_cell BK137.out 0).trans rfl
        have hcz7_1 : wc.cell? ⟨gb137, 1, none⟩ = some (.int .i64 0) := (blk_cell BK137.out 1).trans rfl
        have hcz7_2 : wc.cell? ⟨gb137, 2, none⟩ = some (.int .i64 0) := (blk_cell BK137.out 2).trans rfl
        have hfz7_0 := blk_frozen BK137.out 0
        have hfz7_1 := blk_frozen BK137.out 1
        have hfz7_2 := blk_frozen BK137.out 2
        go_wp2
        refine bodyPost_ret (results_cell_row rfl _ _ gb137 28 #[.slice none 0 0, .int .i64 0, .int .i64 1] (0, 0) _ rfl (by (with_reducible repeat (first | refine blk_drewN ?_ _ | refine blk_drew ?_ | refine blk_alloc ?_ _)); refine blk_put (cs := #[.slice none 0 0, .int .i64 0, .int .i64 0]) ?_ 2 _ rfl; (with_reducible repeat (first | refine blk_drewN ?_ _ | refine blk_drew ?_ | refine blk_alloc ?_ _)); refine blk_put (cs := #[.slice none 0 0, .int .i64 0, .int .i64 0]) ?_ 1 _ rfl; (with_reducible repeat (first | refine blk_drewN ?_ _ | refine blk_drew ?_ | refine blk_alloc ?_ _)); refine blk_put (cs := #[.slice none 0 0, .int .i64 0, .int .i64 0]) ?_ 0 _ rfl; (with_reducible repeat (first | refine blk_drewN ?_ _ | refine blk_drew ?_ | refine blk_alloc ?_ _)); exact BK137.out) Try.underlying28 rfl (by kernel_rfl)) rfl ?_
        exact ⟨_, by first | rfl | (simp [errW_none, errW_some] <;> rfl) | (simp [*, errW_none, errW_some] <;> rfl), by first | exact Kd.R_nil _ _ _ _ _ | exact Kd.N_nil _ _ _ _ _ | exact Kd.V_nil _ _ _ _ _ | exact Kd.Q_nil _ _ _ _ _ | exact Kd.S_nil _ _ _ _ _, by repeat (first | (with_reducible first | exact HB.out | apply below_alloc | apply pw_below_drewN | apply below_drew1 | refine below_set ?_ GE137.out) | exact HB.out)⟩
      · replace c6 := Bool.eq_false_iff.mpr c6
        subst c6
        have H1 : (wringerref7_GetLens.l0 kj2 a0 a1 ([] : List Int) (wrap64 (2 * a1))) = some (r1, r2, r3) := by rw [if_neg (show ¬ (false = true) by decide)] at H; exact H
        clear H
        have H := H1
        clear H1
        have H' := Aside0.mk H
        clear H
        go_wp2
        go_loopg [5, 6] kj2 (fun kq v5 v6 w' => ∃ (x5_2 : List Int) (x6_2 : Int) (x138001_2 : Int) (x138002_2 : Int), v6 = .int .i64 x6_2 ∧ Aside0 (wringerref7_GetLens.l0 kq a0 a1 x5_2 x6_2 = some (r1, r2, r3)) ∧ Aside0 (kq ≤ kj2) ∧ Aside0 (Kd.R (Kd.int .i64) 3 w' w.heap.size (fun _ => True) v5 x5_2) ∧ Aside0 (w'.heap[gb137]? = some (.cells #[(.slice none 0 0), .int .i64 x138001_2, .int .i64 x138002_2] 28 (0, 0))) ∧ Aside0 (Below w.heap.size w w'))
        case atStart => exact ⟨(([] : List Int)), (wrap64 (2 * a1)), (0), (0), (by first | rfl | (simp; done) | (simp [*]; done)), H', ⟨Nat.le_refl _⟩, ⟨by first | exact Kd.R_nil _ _ _ _ _ | exact Kd.N_nil _ _ _ _ _ | exact Kd.V_nil _ _ _ _ _ | exact Kd.Q_nil _ _ _ _ _ | exact Kd.S_nil _ _ _ _ _⟩, ⟨by (with_reducible repeat (first | refine blk_drewN ?_ _ | refine blk_drew ?_ | refine blk_alloc ?_ _)); exact BK137.out⟩, ⟨by repeat (first | (with_reducible first | exact HB.out | apply below_alloc | apply pw_below_drewN | apply below_drew1 | refine below_set ?_ GE137.out) | exact HB.out)⟩⟩
        case round =>
          clear H'
          try clear p2
          try clear c5
          try clear c5b0
          try clear c6
          try clear p6
          try clear hcz7_0
          try clear hcz7_1
          try clear hcz7_2
          try clear hfz7_0
          try clear hfz7_1
          try clear hfz7_2
          try clear p2
          obtain ⟨x5_2, x6_2, x138001_2, x138002_2, rfl, HA, HK2, HO_5, BK137, HB⟩ := hrel
          cases gk with
          | zero => exact absurd HA.out (by simp [wringerref7_GetLens.l0])
          | succ k2 =>
            have H := HA.out
            clear HA
            simp only [wringerref7_GetLens.l0] at H
            by_cases c8 : (x5_2.length : Int) < 65
            · rw [if_pos c8] at H
              have c8b0 : decide ((x5_2.length : Int) < 65) = true := decide_eq_true c8
              have c8b1 : decide (x5_2.length < 65) = true := decide_eq_true (by omega)
              clear c8
              by_cases c9 : (wrap64 (Int.tdiv x6_2 2)) ≥ (a0.size : Int)
              · rw [if_pos c9] at H
                have c9b0 : decide ((a0.size : Int) ≤ (wrap64 (Int.tdiv x6_2 2))) = true := decide_eq_true c9
                clear c9
                simp only [Option.some.injEq, Prod.mk.injEq] at H
                obtain ⟨rfl, rfl, rfl⟩ := H
                obtain ⟨Ao10, co10, eo10⟩ := Kd.R_slice HO_5.out
                subst eo10
                have hcz11_0 : wr.cell? ⟨gb137, 0, none⟩ = some (.slice none 0 0) := (blk_cell BK137.out 0).trans rfl
                have hcz11_1 : wr.cell? ⟨gb137, 1, none⟩ = some (.int .i64 x138001_2) := (blk_cell BK137.out 1).trans rfl
                have hcz11_2 : wr.cell? ⟨gb137, 2, none⟩ = some (.int .i64 x138002_2) := (blk_cell BK137.out 2).trans rfl
                have hfz11_0 := blk_frozen BK137.out 0
                have hfz11_1 := blk_frozen BK137.out 1
                have hfz11_2 := blk_frozen BK137.out 2
                go_wp2
                refine bodyPost_ret (results_cell_row rfl _ _ gb137 28 #[.slice none 0 0, .int .i64 0, .int .i64 2] (0, 0) _ rfl (by (with_reducible repeat (first | refine blk_drewN ?_ _ | refine blk_drew ?_ | refine blk_alloc ?_ _)); refine blk_put (cs := #[.slice none 0 0, .int .i64 0, .int .i64 x138002_2]) ?_ 2 _ rfl; (with_reducible repeat (first | refine blk_drewN ?_ _ | refine blk_drew ?_ | refine blk_alloc ?_ _)); refine blk_put (cs := #[.slice none 0 0, .int .i64 x138001_2, .int .i64 x138002_2]) ?_ 1 _ rfl; (with_reducible repeat (first | refine blk_drewN ?_ _ | refine blk_drew ?_ | refine blk_alloc ?_ _)); refine blk_put (cs := #[.slice none 0 0, .int .i64 x138001_2, .int .i64 x138002_2]) ?_ 0 _ rfl; (with_reducible repeat (first | refine blk_drewN ?_ _ | refine blk_drew ?_ | refine blk_alloc ?_ _)); exact BK137.out) Try.underlying28 rfl (by kernel_rfl)) rfl ?_
                exact ⟨_, by first | rfl | (simp [errW_none, errW_some] <;> rfl) | (simp [*, errW_none, errW_some] <;> rfl), by first | exact Kd.R_nil _ _ _ _ _ | exact Kd.N_nil _ _ _ _ _ | exact Kd.V_nil _ _ _ _ _ | exact Kd.Q_nil _ _ _ _ _ | exact Kd.S_nil _ _ _ _ _, by repeat (first | (with_reducible first | exact HB.out | apply below_alloc | apply pw_below_drewN | apply below_drew1 | refine below_set ?_ GE137.out) | exact HB.out)⟩
              · rw [if_neg c9] at H
                have c9b0 : decide ((a0.size : Int) ≤ (wrap64 (Int.tdiv x6_2 2))) = false := decide_eq_false c9
                clear c9
                obtain ⟨ji12, hji12⟩ : ∃ j_ : Int, (wrap64 (Int.tdiv x6_2 2)) = j_ := ⟨_, rfl⟩
                replace H : (if 0 ≤ (ji12) then (if (ji12) < (a0.size : Int) then (if 0 ≤ (wrap64 ((Int.tmod x6_2 2) * 4)) then (if (Go.bits .and .i64 (shr .i64 (wrap64 (bt a0 (ji12))) (wrap64 ((Int.tmod x6_2 2) * 4))) 15) > 0 then (if x5_2.length < 17592186044416 then (wringerref7_GetLens.l0 k2 a0 a1 (x5_2 ++ [Go.bits .and .i64 (shr .i64 (wrap64 (bt a0 (ji12))) (wrap64 ((Int.tmod x6_2 2) * 4))) 15]) (wrap64 (x6_2 + 1))) else (none)) else (if (wrap64 (Int.tdiv (wrap64 (x6_2 + 1)) 2)) ≥ (a0.size : Int) then (some (([] : List Int), 0, 2)) else (if 0 ≤ (wrap64 (Int.tdiv (wrap64 (x6_2 + 1)) 2)) then (if (wrap64 (Int.tdiv (wrap64 (x6_2 + 1)) 2)) < (a0.size : Int) then (if 0 ≤ (wrap64 ((Int.tmod (wrap64 (x6_2 + 1)) 2) * 4)) then (if 0 ≤ (wrap64 ((Go.bits .and .i64 (shr .i64 (wrap64 (bt a0 (wrap64 (Int.tdiv (wrap64 (x6_2 + 1)) 2)))) (wrap64 ((Int.tmod (wrap64 (x6_2 + 1)) 2) * 4))) 15) + 1)) then (if x5_2.length + (wrap64 ((Go.bits .and .i64 (shr .i64 (wrap64 (bt a0 (wrap64 (Int.tdiv (wrap64 (x6_2 + 1)) 2)))) (wrap64 ((Int.tmod (wrap64 (x6_2 + 1)) 2) * 4))) 15) + 1) : Int).toNat < 17592186044416 then (wringerref7_GetLens.l0 k2 a0 a1 (x5_2 ++ List.replicate (wrap64 ((Go.bits .and .i64 (shr .i64 (wrap64 (bt a0 (wrap64 (Int.tdiv (wrap64 (x6_2 + 1)) 2)))) (wrap64 ((Int.tmod (wrap64 (x6_2 + 1)) 2) * 4))) 15) + 1) : Int).toNat 0) (wrap64 ((wrap64 (x6_2 + 1)) + 1))) else (none)) else (none)) else (none)) else (none)) else (none)))) else (none)) else (none)) else (none)) = some (r1, r2, r3) := by first | (rw [hji12] at H; exact H) | (simp only [hji12] at H ⊢; exact H)
                (try rw [hji12] at c9b0)
                have hji12w : (IntKind.i64.wrap (Int.tdiv x6_2 2)) = ji12 := (i64_w _).trans hji12
                by_cases c13 : 0 ≤ (ji12)
                · rw [if_pos c13] at H
                  have c13b0 : decide (0 ≤ (ji12)) = true := decide_eq_true c13
                  clear c13
                  by_cases c14 : (ji12) < (a0.size : Int)
                  · rw [if_pos c14] at H
                    have c14b0 : decide ((ji12) < (a0.size : Int)) = true := decide_eq_true c14
                    clear c14
                    obtain ⟨ji16, hji16⟩ : ∃ j_ : Int, (wrap64 ((Int.tmod x6_2 2) * 4)) = j_ := ⟨_, rfl⟩
                    replace H : (if 0 ≤ (ji16) then (if (Go.bits .and .i64 (shr .i64 (wrap64 (bt a0 (ji12))) (ji16)) 15) > 0 then (if x5_2.length < 17592186044416 then (wringerref7_GetLens.l0 k2 a0 a1 (x5_2 ++ [Go.bits .and .i64 (shr .i64 (wrap64 (bt a0 (ji12))) (ji16)) 15]) (wrap64 (x6_2 + 1))) else (none)) else (if (wrap64 (Int.tdiv (wrap64 (x6_2 + 1)) 2)) ≥ (a0.size : Int) then (some (([] : List Int), 0, 2)) else (if 0 ≤ (wrap64 (Int.tdiv (wrap64 (x6_2 + 1)) 2)) then (if (wrap64 (Int.tdiv (wrap64 (x6_2 + 1)) 2)) < (a0.size : Int) then (if 0 ≤ (wrap64 ((Int.tmod (wrap64 (x6_2 + 1)) 2) * 4)) then (if 0 ≤ (wrap64 ((Go.bits .and .i64 (shr .i64 (wrap64 (bt a0 (wrap64 (Int.tdiv (wrap64 (x6_2 + 1)) 2)))) (wrap64 ((Int.tmod (wrap64 (x6_2 + 1)) 2) * 4))) 15) + 1)) then (if x5_2.length + (wrap64 ((Go.bits .and .i64 (shr .i64 (wrap64 (bt a0 (wrap64 (Int.tdiv (wrap64 (x6_2 + 1)) 2)))) (wrap64 ((Int.tmod (wrap64 (x6_2 + 1)) 2) * 4))) 15) + 1) : Int).toNat < 17592186044416 then (wringerref7_GetLens.l0 k2 a0 a1 (x5_2 ++ List.replicate (wrap64 ((Go.bits .and .i64 (shr .i64 (wrap64 (bt a0 (wrap64 (Int.tdiv (wrap64 (x6_2 + 1)) 2)))) (wrap64 ((Int.tmod (wrap64 (x6_2 + 1)) 2) * 4))) 15) + 1) : Int).toNat 0) (wrap64 ((wrap64 (x6_2 + 1)) + 1))) else (none)) else (none)) else (none)) else (none)) else (none)))) else (none)) = some (r1, r2, r3) := by first | (rw [hji16] at H; exact H) | (simp only [hji16] at H ⊢; exact H)
                    have hji16w : (IntKind.i64.wrap ((Int.tmod x6_2 2) * 4)) = ji16 := (i64_w _).trans hji16
                    by_cases c17 : 0 ≤ (ji16)
                    · rw [if_pos c17] at H
                      have c17b0 := eq_true c17
                      have c17b1 : decide (0 ≤ (ji16)) = true := decide_eq_true c17
                      clear c17
                      obtain ⟨ji18, hji18⟩ : ∃ j_ : Int, (shr .i64 (wrap64 (bt a0 (ji12))) (ji16)) = j_ := ⟨_, rfl⟩
                      replace H : (if (Go.bits .and .i64 (ji18) 15) > 0 then (if x5_2.length < 17592186044416 then (wringerref7_GetLens.l0 k2 a0 a1 (x5_2 ++ [Go.bits .and .i64 (ji18) 15]) (wrap64 (x6_2 + 1))) else (none)) else (if (wrap64 (Int.tdiv (wrap64 (x6_2 + 1)) 2)) ≥ (a0.size : Int) then (some (([] : List Int), 0, 2)) else (if 0 ≤ (wrap64 (Int.tdiv (wrap64 (x6_2 + 1)) 2)) then (if (wrap64 (Int.tdiv (wrap64 (x6_2 + 1)) 2)) < (a0.size : Int) then (if 0 ≤ (wrap64 ((Int.tmod (wrap64 (x6_2 + 1)) 2) * 4)) then (if 0 ≤ (wrap64 ((Go.bits .and .i64 (shr .i64 (wrap64 (bt a0 (wrap64 (Int.tdiv (wrap64 (x6_2 + 1)) 2)))) (wrap64 ((Int.tmod (wrap64 (x6_2 + 1)) 2) * 4))) 15) + 1)) then (if x5_2.length + (wrap64 ((Go.bits .and .i64 (shr .i64 (wrap64 (bt a0 (wrap64 (Int.tdiv (wrap64 (x6_2 + 1)) 2)))) (wrap64 ((Int.tmod (wrap64 (x6_2 + 1)) 2) * 4))) 15) + 1) : Int).toNat < 17592186044416 then (wringerref7_GetLens.l0 k2 a0 a1 (x5_2 ++ List.replicate (wrap64 ((Go.bits .and .i64 (shr .i64 (wrap64 (bt a0 (wrap64 (Int.tdiv (wrap64 (x6_2 + 1)) 2)))) (wrap64 ((Int.tmod (wrap64 (x6_2 + 1)) 2) * 4))) 15) + 1) : Int).toNat 0) (wrap64 ((wrap64 (x6_2 + 1)) + 1))) else (none)) else (none)) else (none)) else (none)) else (none)))) = some (r1, r2, r3) := by first | (rw [hji18] at H; exact H) | (simp only [hji18] at H ⊢; exact H)
                      have hji18_ : ((wrap64 (bt a0 (ji12))) / 2 ^ min (ji16).toNat 64) = ji18 := hji18
                      have hji18z : (ji16) ≤ 64 → ((wrap64 (bt a0 (ji12))) / 2 ^ (ji16).toNat) = ji18 := shr_small hji18
                      by_cases c19 : (Go.bits .and .i64 (ji18) 15) > 0
                      · rw [if_pos c19] at H
                        have c19b0 : decide (0 < (Go.bits .and .i64 (ji18) 15)) = true := decide_eq_true c19
                        clear c19
                        by_cases c20 : x5_2.length < 17592186044416
                        · rw [if_pos c20] at H
                          have LMc20 := Aside0.mk c20
                          clear c20
                          obtain ⟨y138, hy138⟩ : ∃ y_ : List Int, y_ = (x5_2 ++ [Go.bits .and .i64 (ji18) 15]) := ⟨_, rfl⟩
                          replace H : (wringerref7_GetLens.l0 k2 a0 a1 y138 (wrap64 (x6_2 + 1))) = some (r1, r2, r3) := by first | (rw [hy138]; with_reducible exact H) | (have H2_ := (Option.bind_some _ _).symm.trans H; rw [hy138]; with_reducible exact H2_) | (have H2_ := (Option.bind_some _ _).symm.trans H; with_reducible exact H2_) | with_reducible exact H | (rw [hy138]; exact H) | exact H
                          have Ny138 := Aside0.mk hy138
                          clear hy138
                          have H' := Aside0.mk H
                          clear H
                          obtain ⟨Ao21, co21, eo21⟩ := Kd.R_slice HO_5.out
                          subst eo21
                          have p15 : 0 ≤ ((ji12) : Int) := of_decide_eq_true (by first | (with_reducible assumption) | assumption)
                          have q15 : (ji12) < (a0.size : Int) := of_decide_eq_true (by first | (with_reducible assumption) | assumption)
                          have hx15 := bt_at a0 (ji12)
                          replace p15 := eq_true p15
                          replace q15 := eq_true q15
                          go_wp2_with (first | ((with_reducible refine gate_builtin (b := .append) (xs := #[.tmp 43, .tmp 45]) rfl ?_); (try (refine gate_guard (by rfl) ?_; dsimp only)); at_builtin; refine Kd.R_append (Kd.int .i64) (w0 := w) w.heap.size rfl (.tmp 43) (.tmp 45) 22 3 (.int .i64 0) 8 rfl Try.underlying22 info3 rfl (by decide) (by omega) (.slice Ao21 x5_2.length co21) x5_2 (Go.bits .and .i64 (ji18) 15) [.int .i64 (Go.bits .and .i64 (ji18) 15)] (fun _ => True) (fun _ => False) rfl rfl ?aP (fun _ hk => hk.elim) ?aF ?aO ?aB ?aS ?aL ?_; (case aP => exact rfl); (case aB => exact (by repeat (first | (with_reducible first | exact HB.out | apply below_alloc | apply pw_below_drewN | apply below_drew1 | refine below_set ?_ GE137.out) | exact HB.out))); (case aF => exact (fun _ _ => trivial)); (case aO => exact (by (with_reducible repeat (first | apply Kd.R_alloc | apply Kd.R_drewN | apply Kd.R_drew)); exact HO_5.out)); (case aS => exact (below_size (by repeat (first | (with_reducible first | exact HB.out | apply below_alloc | apply pw_below_drewN | apply below_drew1 | refine below_set ?_ GE137.out) | exact HB.out)))); (case aL => have := LMc20.out; omega); intro v139 w22 ho hb hg hat; rw [← Ny138.out] at ho; have n0_ := Aside0.mk (blk_grown (g := gb137) (o := .cells #[.slice none 0 0, .int .i64 x138001_2, .int .i64 x138002_2] 28 (0, 0)) (by (with_reducible repeat (first | refine blk_drewN ?_ _ | refine blk_drew ?_ | refine blk_alloc ?_ _)); exact BK137.out) hg (Kd.R_ne HO_5.out BK137.out (by decide))); have n1_ := Aside0.mk (hb); have n2_ := Aside0.mk (ho); clear BK137; clear HB; clear HO_5; have BK137 := n0_; have HB := n1_; have HO140 := n2_; clear n0_ n1_ n2_; clear ho hb hg hat))
                          go_roundg k2
                          case measure => have := HJ2.out; have := HK2.out; omega
                          case rel => exact ⟨(y138), (wrap64 (x6_2 + 1)), (x138001_2), (x138002_2), (by first | rfl | (simp; done) | (simp [*]; done)), H', ⟨by have := HJ2.out; have := HK2.out; omega⟩, ⟨by (with_reducible repeat (first | apply Kd.R_alloc | apply Kd.R_drewN | apply Kd.R_drew)); exact HO140.out⟩, ⟨by (with_reducible repeat (first | refine blk_drewN ?_ _ | refine blk_drew ?_ | refine blk_alloc ?_ _)); exact BK137.out⟩, ⟨by repeat (first | (with_reducible first | exact HB.out | apply below_alloc | apply pw_below_drewN | apply below_drew1 | refine below_set ?_ GE137.out) | exact HB.out)⟩⟩
                        · rw [if_neg c20] at H
                          exact absurd H (by simp)
                      · rw [if_neg c19] at H
                        have c19b0 : decide (0 < (Go.bits .and .i64 (ji18) 15)) = false := decide_eq_false c19
                        clear c19
                        by_cases c23 : (wrap64 (Int.tdiv (wrap64 (x6_2 + 1)) 2)) ≥ (a0.size : Int)
                        · rw [if_pos c23] at H
                          have c23b0 : decide ((a0.size : Int) ≤ (wrap64 (Int.tdiv (wrap64 (x6_2 + 1)) 2))) = true := decide_eq_true c23
                          clear c23
                          simp only [Option.some.injEq, Prod.mk.injEq] at H
                          obtain ⟨rfl, rfl, rfl⟩ := H
                          obtain ⟨Ao24, co24, eo24⟩ := Kd.R_slice HO_5.out
                          subst eo24
                          have p15 : 0 ≤ ((ji12) : Int) := of_decide_eq_true (by first | (with_reducible assumption) | assumption)
                          have q15 : (ji12) < (a0.size : Int) := of_decide_eq_true (by first | (with_reducible assumption) | assumption)
                          have hx15 := bt_at a0 (ji12)
                          replace p15 := eq_true p15
                          replace q15 := eq_true q15
                          have hcz25_0 : wr.cell? ⟨gb137, 0, none⟩ = some (.slice none 0 0) := (blk_cell BK137.out 0).trans rfl
                          have hcz25_1 : wr.cell? ⟨gb137, 1, none⟩ = some (.int .i64 x138001_2) := (blk_cell BK137.out 1).trans rfl
                          have hcz25_2 : wr.cell? ⟨gb137, 2, none⟩ = some (.int .i64 x138002_2) := (blk_cell BK137.out 2).trans rfl
                          have hfz25_0 := blk_frozen BK137.out 0
                          have hfz25_1 := blk_frozen BK137.out 1
                          have hfz25_2 := blk_frozen BK137.out 2
                          go_wp2
                          refine bodyPost_ret (results_cell_row rfl _ _ gb137 28 #[.slice none 0 0, .int .i64 0, .int .i64 2] (0, 0) _ rfl (by (with_reducible repeat (first | refine blk_drewN ?_ _ | refine blk_drew ?_ | refine blk_alloc ?_ _)); refine blk_put (cs := #[.slice none 0 0, .int .i64 0, .int .i64 x138002_2]) ?_ 2 _ rfl; (with_reducible repeat (first | refine blk_drewN ?_ _ | refine blk_drew ?_ | refine blk_alloc ?_ _)); refine blk_put (cs := #[.slice none 0 0, .int .i64 x138001_2, .int .i64 x138002_2]) ?_ 1 _ rfl; (with_reducible repeat (first | refine blk_drewN ?_ _ | refine blk_drew ?_ | refine blk_alloc ?_ _)); refine blk_put (cs := #[.slice none 0 0, .int .i64 x138001_2, .int .i64 x138002_2]) ?_ 0 _ rfl; (with_reducible repeat (first | refine blk_drewN ?_ _ | refine blk_drew ?_ | refine blk_alloc ?_ _)); exact BK137.out) Try.underlying28 rfl (by kernel_rfl)) rfl ?_
                          exact ⟨_, by first | rfl | (simp [errW_none, errW_some] <;> rfl) | (simp only [← hji12, ← hji16, ← hji18]; first | rfl | (simp [errW_none, errW_some] <;> rfl)) | (simp [*, errW_none, errW_some] <;> rfl), by first | exact Kd.R_nil _ _ _ _ _ | exact Kd.N_nil _ _ _ _ _ | exact Kd.V_nil _ _ _ _ _ | exact Kd.Q_nil _ _ _ _ _ | exact Kd.S_nil _ _ _ _ _, by repeat (first | (with_reducible first | exact HB.out | apply below_alloc | apply pw_below_drewN | apply below_drew1 | refine below_set ?_ GE137.out) | exact HB.out)⟩
                        · rw [if_neg c23] at H
                          have c23b0 : decide ((a0.size : Int) ≤ (wrap64 (Int.tdiv (wrap64 (x6_2 + 1)) 2))) = false := decide_eq_false c23
                          clear c23
                          obtain ⟨ji26, hji26⟩ : ∃ j_ : Int, (wrap64 (Int.tdiv (wrap64 (x6_2 + 1)) 2)) = j_ := ⟨_, rfl⟩
                          replace H : (if 0 ≤ (ji26) then (if (ji26) < (a0.size : Int) then (if 0 ≤ (wrap64 ((Int.tmod (wrap64 (x6_2 + 1)) 2) * 4)) then (if 0 ≤ (wrap64 ((Go.bits .and .i64 (shr .i64 (wrap64 (bt a0 (ji26))) (wrap64 ((Int.tmod (wrap64 (x6_2 + 1)) 2) * 4))) 15) + 1)) then (if x5_2.length + (wrap64 ((Go.bits .and .i64 (shr .i64 (wrap64 (bt a0 (ji26))) (wrap64 ((Int.tmod (wrap64 (x6_2 + 1)) 2) * 4))) 15) + 1) : Int).toNat < 17592186044416 then (wringerref7_GetLens.l0 k2 a0 a1 (x5_2 ++ List.replicate (wrap64 ((Go.bits .and .i64 (shr .i64 (wrap64 (bt a0 (ji26))) (wrap64 ((Int.tmod (wrap64 (x6_2 + 1)) 2) * 4))) 15) + 1) : Int).toNat 0) (wrap64 ((wrap64 (x6_2 + 1)) + 1))) else (none)) else (none)) else (none)) else (none)) else (none)) = some (r1, r2, r3) := by first | (rw [hji26] at H; exact H) | (simp only [hji26] at H ⊢; exact H)
                          (try rw [hji26] at c23b0)
                          have hji26w : (IntKind.i64.wrap (Int.tdiv (wrap64 (x6_2 + 1)) 2)) = ji26 := (i64_w _).trans hji26
                          by_cases c27 : 0 ≤ (ji26)
                          · rw [if_pos c27] at H
                            have c27b0 : decide (0 ≤ (ji26)) = true := decide_eq_true c27
                            clear c27
                            by_cases c28 : (ji26) < (a0.size : Int)
                            · rw [if_pos c28] at H
                              have c28b0 : decide ((ji26) < (a0.size : Int)) = true := decide_eq_true c28
                              clear c28
                              obtain ⟨ji30, hji30⟩ : ∃ j_ : Int, (wrap64 ((Int.tmod (wrap64 (x6_2 + 1)) 2) * 4)) = j_ := ⟨_, rfl⟩
                              replace H : (if 0 ≤ (ji30) then (if 0 ≤ (wrap64 ((Go.bits .and .i64 (shr .i64 (wrap64 (bt a0 (ji26))) (ji30)) 15) + 1)) then (if x5_2.length + (wrap64 ((Go.bits .and .i64 (shr .i64 (wrap64 (bt a0 (ji26))) (ji30)) 15) + 1) : Int).toNat < 17592186044416 then (wringerref7_GetLens.l0 k2 a0 a1 (x5_2 ++ List.replicate (wrap64 ((Go.bits .and .i64 (shr .i64 (wrap64 (bt a0 (ji26))) (ji30)) 15) + 1) : Int).toNat 0) (wrap64 ((wrap64 (x6_2 + 1)) + 1))) else (none)) else (none)) else (none)) = some (r1, r2, r3) := by first | (rw [hji30] at H; exact H) | (simp only [hji30] at H ⊢; exact H)
                              have hji30w : (IntKind.i64.wrap ((Int.tmod (wrap64 (x6_2 + 1)) 2) * 4)) = ji30 := (i64_w _).trans hji30
                              by_cases c31 : 0 ≤ (ji30)
                              · rw [if_pos c31] at H
                                have c31b0 := eq_true c31
                                have c31b1 : decide (0 ≤ (ji30)) = true := decide_eq_true c31
                                clear c31
                                obtain ⟨ji32, hji32⟩ : ∃ j_ : Int, (shr .i64 (wrap64 (bt a0 (ji26))) (ji30)) = j_ := ⟨_, rfl⟩
                                replace H : (if 0 ≤ (wrap64 ((Go.bits .and .i64 (ji32) 15) + 1)) then (if x5_2.length + (wrap64 ((Go.bits .and .i64 (ji32) 15) + 1) : Int).toNat < 17592186044416 then (wringerref7_GetLens.l0 k2 a0 a1 (x5_2 ++ List.replicate (wrap64 ((Go.bits .and .i64 (ji32) 15) + 1) : Int).toNat 0) (wrap64 ((wrap64 (x6_2 + 1)) + 1))) else (none)) else (none)) = some (r1, r2, r3) := by first | (rw [hji32] at H; exact H) | (simp only [hji32] at H ⊢; exact H)
                                have hji32_ : ((wrap64 (bt a0 (ji26))) / 2 ^ min (ji30).toNat 64) = ji32 := hji32
                                have hji32z : (ji30) ≤ 64 → ((wrap64 (bt a0 (ji26))) / 2 ^ (ji30).toNat) = ji32 := shr_small hji32
                                obtain ⟨ji33, hji33⟩ : ∃ j_ : Int, (wrap64 ((Go.bits .and .i64 (ji32) 15) + 1)) = j_ := ⟨_, rfl⟩
                                replace H : (if 0 ≤ (ji33) then (if x5_2.length + (ji33 : Int).toNat < 17592186044416 then (wringerref7_GetLens.l0 k2 a0 a1 (x5_2 ++ List.replicate (ji33 : Int).toNat 0) (wrap64 ((wrap64 (x6_2 + 1)) + 1))) else (none)) else (none)) = some (r1, r2, r3) := by first | (rw [hji33] at H; exact H) | (simp only [hji33] at H ⊢; exact H)
                                have hji33w : (IntKind.i64.wrap ((Go.bits .and .i64 (ji32) 15) + 1)) = ji33 := (i64_w _).trans hji33
                                by_cases c34 : 0 ≤ (ji33)
                                · rw [if_pos c34] at H
                                  have c34b0 := eq_true c34
                                  have c34b1 : decide (0 ≤ (ji33)) = true := decide_eq_true c34
                                  clear c34
                                  by_cases c35 : x5_2.length + (ji33 : Int).toNat < 17592186044416
                                  · rw [if_pos c35] at H
                                    have LMc35 := Aside0.mk c35
                                    clear c35
                                    obtain ⟨y141, hy141⟩ : ∃ y_ : List Int, y_ = (x5_2 ++ List.replicate (ji33 : Int).toNat 0) := ⟨_, rfl⟩
                                    replace H : (wringerref7_GetLens.l0 k2 a0 a1 y141 (wrap64 ((wrap64 (x6_2 + 1)) + 1))) = some (r1, r2, r3) := by first | (rw [hy141]; with_reducible exact H) | (have H2_ := (Option.bind_some _ _).symm.trans H; rw [hy141]; with_reducible exact H2_) | (have H2_ := (Option.bind_some _ _).symm.trans H; with_reducible exact H2_) | with_reducible exact H | (rw [hy141]; exact H) | exact H
                                    have Ny141 := Aside0.mk hy141
                                    clear hy141
                                    have H' := Aside0.mk H
                                    clear H
                                    obtain ⟨Ao36, co36, eo36⟩ := Kd.R_slice HO_5.out
                                    subst eo36
                                    have p15 : 0 ≤ ((ji12) : Int) := of_decide_eq_true (by first | (with_reducible assumption) | assumption)
                                    have q15 : (ji12) < (a0.size : Int) := of_decide_eq_true (by first | (with_reducible assumption) | assumption)
                                    have hx15 := bt_at a0 (ji12)
                                    replace p15 := eq_true p15
                                    replace q15 := eq_true q15
                                    have p29 : 0 ≤ ((ji26) : Int) := of_decide_eq_true (by first | (with_reducible assumption) | assumption)
                                    have q29 : (ji26) < (a0.size : Int) := of_decide_eq_true (by first | (with_reducible assumption) | assumption)
                                    have hx29 := bt_at a0 (ji26)
                                    replace p29 := eq_true p29
                                    replace q29 := eq_true q29
                                    go_wp2_with (first | (at_builtin; refine Kd.R_append_zeros (Kd.int .i64) (w0 := w) w.heap.size rfl (.tmp 65) (.tmp 67) 22 3 3 (.int .i64 0) 8 rfl Try.underlying22 Try.underlying3 info3 rfl (by decide) (by omega) (.slice Ao36 x5_2.length co36) x5_2 0 (ji33 : Int) (fun _ => True) rfl rfl rfl ?aF ?aO (of_decide_eq_true (by first | (with_reducible assumption) | assumption)) ?aB ?aS ?aL ?_; (case aB => exact (by repeat (first | (with_reducible first | exact HB.out | apply below_alloc | apply pw_below_drewN | apply below_drew1 | refine below_set ?_ GE137.out) | exact HB.out))); (case aF => exact (fun _ _ => trivial)); (case aO => exact (by (with_reducible repeat (first | apply Kd.R_alloc | apply Kd.R_drewN | apply Kd.R_drew)); exact HO_5.out)); (case aS => exact (below_size (by repeat (first | (with_reducible first | exact HB.out | apply below_alloc | apply pw_below_drewN | apply below_drew1 | refine below_set ?_ GE137.out) | exact HB.out)))); (case aL => have := LMc35.out; omega); intro v142 w37 ho hb hg hat; rw [← Ny141.out] at ho; have n0_ := Aside0.mk (blk_grown (g := gb137) (o := .cells #[.slice none 0 0, .int .i64 x138001_2, .int .i64 x138002_2] 28 (0, 0)) (by (with_reducible repeat (first | refine blk_drewN ?_ _ | refine blk_drew ?_ | refine blk_alloc ?_ _)); exact BK137.out) hg (Kd.R_ne HO_5.out BK137.out (by decide))); have n1_ := Aside0.mk (hb); have n2_ := Aside0.mk (ho); clear BK137; clear HB; clear HO_5; have BK137 := n0_; have HB := n1_; have HO143 := n2_; clear n0_ n1_ n2_; clear ho hb hg hat))
                                    go_roundg k2
                                    case measure => have := HJ2.out; have := HK2.out; omega
                                    case rel => exact ⟨(y141), (wrap64 ((wrap64 (x6_2 + 1)) + 1)), (x138001_2), (x138002_2), (by first | rfl | (simp; done) | (simp [*]; done)), H', ⟨by have := HJ2.out; have := HK2.out; omega⟩, ⟨by (with_reducible repeat (first | apply Kd.R_alloc | apply Kd.R_drewN | apply Kd.R_drew)); exact HO143.out⟩, ⟨by (with_reducible repeat (first | refine blk_drewN ?_ _ | refine blk_drew ?_ | refine blk_alloc ?_ _)); exact BK137.out⟩, ⟨by repeat (first | (with_reducible first | exact HB.out | apply below_alloc | apply pw_below_drewN | apply below_drew1 | refine below_set ?_ GE137.out) | exact HB.out)⟩⟩
                                  · rw [if_neg c35] at H
                                    exact absurd H (by simp)
                                · rw [if_neg c34] at H
                                  exact absurd H (by simp)
                              · rw [if_neg c31] at H
                                exact absurd H (by simp)
                            · rw [if_neg c28] at H
                              exact absurd H (by simp)
                          · rw [if_neg c27] at H
                            exact absurd H (by simp)
                    · rw [if_neg c17] at H
                      exact absurd H (by simp)
                  · rw [if_neg c14] at H
                    exact absurd H (by simp)
                · rw [if_neg c13] at H
                  exact absurd H (by simp)
            · rw [if_neg c8] at H
              have c8b0 : decide ((x5_2.length : Int) < 65) = false := decide_eq_false c8
              have c8b1 : decide (x5_2.length < 65) = false := decide_eq_false (by omega)
              clear c8
              by_cases c38 : (x5_2.length : Int) = 65
              · rw [if_pos c38] at H
                have c38b0 : ((x5_2.length : Int) == 65) = true := beq_iff_eq.mpr c38
                have c38b1 : ((x5_2.length : Int) != 65) = false := bne_eq_false_iff_eq.mpr c38
                clear c38
                replace H := Option.bind_eq_some_iff.mp H
                obtain ⟨t144, A390, H⟩ := H
                replace H : (if t144 = true then ((wringerref7_PutLens.f x5_2).bind fun t145 => (if 0 ≤ a1 then (if a1 ≤ (wrap64 (Int.tdiv (wrap64 (x6_2 + 1)) 2)) then (if (wrap64 (Int.tdiv (wrap64 (x6_2 + 1)) 2)) ≤ (a0.size : Int) then (if t145.toList = (a0.extract (a1 : Int).toNat ((wrap64 (Int.tdiv (wrap64 (x6_2 + 1)) 2)) : Int).toNat).toList then (some (x5_2, wrap64 (Int.tdiv (wrap64 (x6_2 + 1)) 2), 0)) else (some (([] : List Int), 0, 3))) else (none)) else (none)) else (none))) else (some (([] : List Int), 0, 3))) = some (r1, r2, r3) := H
                have A39 := Aside0.mk A390
                clear A390
                by_cases c40 : t144 = true
                · subst c40
                  have H1 : ((wringerref7_PutLens.f x5_2).bind fun t145 => (if 0 ≤ a1 then (if a1 ≤ (wrap64 (Int.tdiv (wrap64 (x6_2 + 1)) 2)) then (if (wrap64 (Int.tdiv (wrap64 (x6_2 + 1)) 2)) ≤ (a0.size : Int) then (if t145.toList = (a0.extract (a1 : Int).toNat ((wrap64 (Int.tdiv (wrap64 (x6_2 + 1)) 2)) : Int).toNat).toList then (some (x5_2, wrap64 (Int.tdiv (wrap64 (x6_2 + 1)) 2), 0)) else (some (([] : List Int), 0, 3))) else (none)) else (none)) else (none))) = some (r1, r2, r3) := by rw [if_pos rfl] at H; exact H
                  clear H
                  have H := H1
                  clear H1
                  replace H := Option.bind_eq_some_iff.mp H
                  obtain ⟨t145, A410, H⟩ := H
                  replace H : (if 0 ≤ a1 then (if a1 ≤ (wrap64 (Int.tdiv (wrap64 (x6_2 + 1)) 2)) then (if (wrap64 (Int.tdiv (wrap64 (x6_2 + 1)) 2)) ≤ (a0.size : Int) then (if t145.toList = (a0.extract (a1 : Int).toNat ((wrap64 (Int.tdiv (wrap64 (x6_2 + 1)) 2)) : Int).toNat).toList then (some (x5_2, wrap64 (Int.tdiv (wrap64 (x6_2 + 1)) 2), 0)) else (some (([] : List Int), 0, 3))) else (none)) else (none)) else (none)) = some (r1, r2, r3) := H
                  have A41 := Aside0.mk A410
                  clear A410
                  by_cases c42 : 0 ≤ a1
                  · rw [if_pos c42] at H
                    have c42b0 := eq_true c42
                    have c42b1 : decide (0 ≤ a1) = true := decide_eq_true c42
                    clear c42
                    by_cases c43 : a1 ≤ (wrap64 (Int.tdiv (wrap64 (x6_2 + 1)) 2))
                    · rw [if_pos c43] at H
                      have c43b0 := eq_true c43
                      have c43b1 : decide (a1 ≤ (wrap64 (Int.tdiv (wrap64 (x6_2 + 1)) 2))) = true := decide_eq_true c43
                      by_cases c44 : (wrap64 (Int.tdiv (wrap64 (x6_2 + 1)) 2)) ≤ (a0.size : Int)
                      · rw [if_pos c44] at H
                        have c44b0 := eq_true c44
                        have c44b1 : decide ((wrap64 (Int.tdiv (wrap64 (x6_2 + 1)) 2)) ≤ (a0.size : Int)) = true := decide_eq_true c44
                        by_cases c45 : t145.toList = (a0.extract (a1 : Int).toNat ((wrap64 (Int.tdiv (wrap64 (x6_2 + 1)) 2)) : Int).toNat).toList
                        · rw [if_pos c45] at H
                          have c45b0 : (t145.toList == (a0.extract (a1 : Int).toNat ((wrap64 (Int.tdiv (wrap64 (x6_2 + 1)) 2)) : Int).toNat).toList) = true := beq_iff_eq.mpr c45
                          have c45b1 : (t145.toList != (a0.extract (a1 : Int).toNat ((wrap64 (Int.tdiv (wrap64 (x6_2 + 1)) 2)) : Int).toNat).toList) = false := bne_eq_false_iff_eq.mpr c45
                          clear c45
                          simp only [Option.some.injEq, Prod.mk.injEq] at H
                          obtain ⟨rfl, rfl, rfl⟩ := H
                          obtain ⟨Ao46, co46, eo46⟩ := Kd.R_slice HO_5.out
                          subst eo46
                          try go_wp2
                          have n0_ := Aside0.mk (Kd.R_drew HO_5.out)
                          have n1_ := Aside0.mk (blk_drew BK137.out)
                          have n2_ := Aside0.mk (below_drew1 HB.out)
                          clear HO_5
                          clear BK137
                          clear HB
                          have HO_5 := n0_
                          have BK137 := n1_
                          have HB := n2_
                          clear n0_ n1_ n2_
                          refine start_ (n := 17) (S := fun w' => True) (ds := []) #[false, false, false, false, false, false, false, false, false, false, false, false, false, false, false, false, false] (by kernel_rfl) rfl rfl trivial (fun hHeld => ?_); refine with_tabW wringerref7_GetLens.tab18 wringerref7_GetLens.bits18 (fun HT_ HW_ => ?_)
                          generalize wr.drew = w47 at HO_5 BK137 HB hHeld ⊢
                          refine pure_ (i := 0) (N := some 72) (v := ?_) (a' := ?_) #[true, false, false, false, false, false, false, false, false, false, false, false, false, false, false, false, false] rfl rfl (any_of HT_.out (by kernel_rfl)) (fun _ _ _ h => h) (Or.inl ⟨by rfl, ?_⟩) ?_ ?_
                          rotate_left
                          · intro w'
                            go_simp
                            with_reducible rfl
                          rotate_left
                          · simp only [Act.put, List.setIfInBounds_toArray, List.set_cons_zero, List.set_cons_succ, i64_w, i32_w]
                            rfl
                          refine pure_ (i := 1) (N := some 73) (v := ?_) (a' := ?_) #[true, true, false, false, false, false, false, false, false, false, false, false, false, false, false, false, false] rfl rfl (any_of HT_.out (by kernel_rfl)) (fun _ _ _ h => h) (Or.inl ⟨by rfl, ?_⟩) ?_ ?_
                          rotate_left
                          · intro w'
                            go_simp
                            with_reducible rfl
                          rotate_left
                          · simp only [Act.put, List.setIfInBounds_toArray, List.set_cons_zero, List.set_cons_succ, i64_w, i32_w]
                            rfl
                          refine pure_ (i := 2) (N := some 74) (v := ?_) (a' := ?_) #[true, true, true, false, false, false, false, false, false, false, false, false, false, false, false, false, false] rfl rfl (any_of HT_.out (by kernel_rfl)) (fun _ _ _ h => h) (Or.inl ⟨by rfl, ?_⟩) ?_ ?_
                          rotate_left
                          · intro w'
                            go_simp
                            with_reducible rfl
                          rotate_left
                          · simp only [Act.put, List.setIfInBounds_toArray, List.set_cons_zero, List.set_cons_succ, i64_w, i32_w]
                            rfl
                          refine pure_ (i := 3) (N := some 75) (v := ?_) (a' := ?_) #[true, true, true, true, false, false, false, false, false, false, false, false, false, false, false, false, false] rfl rfl (any_of HT_.out (by kernel_rfl)) (fun _ _ _ h => h) (Or.inl ⟨by rfl, ?_⟩) ?_ ?_
                          rotate_left
                          · intro w'
                            go_simp
                            with_reducible rfl
                          rotate_left
                          · simp only [Act.put, List.setIfInBounds_toArray, List.set_cons_zero, List.set_cons_succ, i64_w, i32_w]
                            rfl
                          refine pure_ (i := 4) (N := some 76) (v := ?_) (a' := ?_) #[true, true, true, true, true, false, false, false, false, false, false, false, false, false, false, false, false] rfl rfl (any_of HT_.out (by kernel_rfl)) (fun _ _ _ h => h) (Or.inl ⟨by rfl, ?_⟩) ?_ ?_
                          rotate_left
                          · intro w'
                            go_simp
                            with_reducible rfl
                          rotate_left
                          · simp only [Act.put, List.setIfInBounds_toArray, List.set_cons_zero, List.set_cons_succ, i64_w, i32_w]
                            rfl
                          refine one_ (i := 5) (N := some 77) #[true, true, true, true, true, true, false, false, false, false, false, false, false, false, false, false, false] rfl rfl (one_of HT_.out (by kernel_rfl)) (by decide) (fun K hK => ?_)
                          refine goes_ Try.func19 (by kernel_rfl) rfl #[.slice Ao46 x5_2.length co46] (by rfl) rfl rfl (by (try simp only [List.map_toArray, List.map_cons, List.map_nil]); first | done | rfl | (simp only [List.length_drop, List.length_take]; rfl)) ?_
                          with_reducible refine (wringerref7_MayLens.calls k2 _ _ x5_2 true _ ?side1 ?side2 A39.out).mono ?_
                          (case side1 => repeat (first | exact (Kd.R_reads' HO_5.out).2.2 | (with_reducible refine Kd.C_alloc ?_ _) | (with_reducible refine Kd.C_drewN ?_ _) | (with_reducible refine Kd.C_drew ?_)))
                          (case side2 => exact (Kd.R_reads' HO_5.out).2.1)
                          rintro e w' ⟨rfl, ⟨nd, rfl⟩⟩
                          refine ⟨_, rfl, ?_⟩
                          refine hK.out _ _ trivial (fun hHeld => ?_)
                          clear hK K
                          refine norm_ (a' := ?_) ?_ ?_
                          rotate_left
                          · show Act.put _ (some 77) _ = _
                            simp only [Act.put, List.setIfInBounds_toArray, List.set_cons_zero, List.set_cons_succ, i64_w, i32_w]
                            rfl
                          refine pure_ (i := 6) (N := some 78) (v := ?_) (a' := ?_) #[true, true, true, true, true, true, true, false, false, false, false, false, false, false, false, false, false] rfl rfl (any_of HT_.out (by kernel_rfl)) (fun _ _ _ h => h) (Or.inl ⟨by rfl, ?_⟩) ?_ ?_
                          rotate_left
                          · intro w'
                            go_simp
                            with_reducible rfl
                          rotate_left
                          · simp only [Act.put, List.setIfInBounds_toArray, List.set_cons_zero, List.set_cons_succ, i64_w, i32_w]
                            rfl
                          refine pure_ (i := 7) (N := some 79) (v := ?_) (a' := ?_) #[true, true, true, true, true, true, true, true, false, false, false, false, false, false, false, false, false] rfl rfl (any_of HT_.out (by kernel_rfl)) (fun _ _ _ h => h) (Or.inl ⟨by rfl, ?_⟩) ?_ ?_
                          rotate_left
                          · intro w'
                            go_simp
                            with_reducible rfl
                          rotate_left
                          · simp only [Act.put, List.setIfInBounds_toArray, List.set_cons_zero, List.set_cons_succ, i64_w, i32_w]
                            rfl
                          refine pure_ (i := 8) (N := some 80) (v := ?_) (a' := ?_) #[true, true, true, true, true, true, true, true, true, false, false, false, false, false, false, false, false] rfl rfl (any_of HT_.out (by kernel_rfl)) (fun _ _ _ h => h) (Or.inl ⟨by rfl, ?_⟩) ?_ ?_
                          rotate_left
                          · intro w'
                            go_simp
                            with_reducible rfl
                          rotate_left
                          · simp only [Act.put, List.setIfInBounds_toArray, List.set_cons_zero, List.set_cons_succ, i64_w, i32_w]
                            rfl
                          refine pure_ (i := 9) (N := some 81) (v := ?_) (a' := ?_) #[true, true, true, true, true, true, true, true, true, true, false, false, false, false, false, false, false] rfl rfl (any_of HT_.out (by kernel_rfl)) (fun _ _ _ h => h) (Or.inl ⟨by rfl, ?_⟩) ?_ ?_
                          rotate_left
                          · intro w'
                            go_simp
                            with_reducible rfl
                          rotate_left
                          · simp only [Act.put, List.setIfInBounds_toArray, List.set_cons_zero, List.set_cons_succ, i64_w, i32_w]
                            rfl
                          refine pure_ (i := 11) (N := some 83) (v := ?_) (a' := ?_) #[true, true, true, true, true, true, true, true, true, true, false, true, false, false, false, false, false] rfl rfl (any_of HT_.out (by kernel_rfl)) (fun _ _ _ h => h) (Or.inl ⟨by rfl, ?_⟩) ?_ ?_
                          rotate_left
                          · intro w'
                            go_simp
                            with_reducible rfl
                          rotate_left
                          · simp only [Act.put, List.setIfInBounds_toArray, List.set_cons_zero, List.set_cons_succ, i64_w, i32_w]
                            rfl
                          refine pure_ (i := 12) (N := some 84) (v := ?_) (a' := ?_) #[true, true, true, true, true, true, true, true, true, true, false, true, true, false, false, false, false] rfl rfl (any_of HT_.out (by kernel_rfl)) (fun _ _ _ h => h) (Or.inl ⟨by rfl, ?_⟩) ?_ ?_
                          rotate_left
                          · intro w'
                            go_simp
                            with_reducible rfl
                          rotate_left
                          · simp only [Act.put, List.setIfInBounds_toArray, List.set_cons_zero, List.set_cons_succ, i64_w, i32_w]
                            rfl
                          refine pure_ (i := 13) (N := some 85) (v := ?_) (a' := ?_) #[true, true, true, true, true, true, true, true, true, true, false, true, true, true, false, false, false] rfl rfl (any_of HT_.out (by kernel_rfl)) (fun _ _ _ h => h) (Or.inl ⟨by rfl, ?_⟩) ?_ ?_
                          rotate_left
                          · intro w'
                            go_simp
                            with_reducible rfl
                          rotate_left
                          · simp only [Act.put, List.setIfInBounds_toArray, List.set_cons_zero, List.set_cons_succ, i64_w, i32_w]
                            rfl
                          refine pure_ (i := 14) (N := some 86) (v := ?_) (a' := ?_) #[true, true, true, true, true, true, true, true, true, true, false, true, true, true, true, false, false] rfl rfl (any_of HT_.out (by kernel_rfl)) (fun _ _ _ h => h) (Or.inl ⟨by rfl, ?_⟩) ?_ ?_
                          rotate_left
                          · intro w'
                            go_simp
                            with_reducible rfl
                          rotate_left
                          · simp only [Act.put, List.setIfInBounds_toArray, List.set_cons_zero, List.set_cons_succ, i64_w, i32_w]
                            rfl
                          refine one_ (i := 10) (N := some 82) #[true, true, true, true, true, true, true, true, true, true, true, true, true, true, true, false, false] rfl rfl (one_of HT_.out (by kernel_rfl)) (by decide) (fun K hK => ?_)
                          refine goes_ Try.func11 (by kernel_rfl) rfl #[.slice Ao46 x5_2.length co46] (by rfl) rfl rfl (by (try simp only [List.map_toArray, List.map_cons, List.map_nil]); first | done | rfl | (simp only [List.length_drop, List.length_take]; rfl)) ?_
                          with_reducible refine (wringerref7_PutLens.calls _ _ x5_2 t145 _ ?side1 ?side2 A41.out).mono ?_
                          (case side1 => repeat (first | exact (Kd.R_reads' HO_5.out).2.2 | (with_reducible refine Kd.C_alloc ?_ _) | (with_reducible refine Kd.C_drewN ?_ _) | (with_reducible refine Kd.C_drew ?_)))
                          (case side2 => exact (Kd.R_reads' HO_5.out).2.1)
                          rintro e w48 ⟨rfl, hb⟩
                          refine ⟨_, rfl, ?_⟩
                          have n0_ := Aside0.mk (Kd.R_below (by (with_reducible repeat (first | apply Kd.R_alloc | apply Kd.R_drewN | apply Kd.R_drew)); exact HO_5.out) hb)
                          have n1_ := Aside0.mk (blk_below (g := gb137) (o := .cells #[.slice none 0 0, .int .i64 x138001_2, .int .i64 x138002_2] 28 (0, 0)) (by (with_reducible repeat (first | refine blk_drewN ?_ _ | refine blk_drew ?_ | refine blk_alloc ?_ _)); exact BK137.out) hb)
                          have n2_ := Aside0.mk (below_step (by repeat (first | (with_reducible first | exact HB.out | apply below_alloc | apply pw_below_drewN | apply below_drew1 | refine below_set ?_ GE137.out) | exact HB.out)) hb)
                          clear HO_5
                          clear BK137
                          clear HB
                          have HO_5 := n0_
                          have BK137 := n1_
                          have HB := n2_
                          clear n0_ n1_ n2_
                          (try clear hb)
                          (try clear hb2)
                          (try clear hk)
                          (try clear hi)
                          refine hK.out _ _ trivial (fun hHeld => ?_)
                          clear hK K
                          refine norm_ (a' := ?_) ?_ ?_
                          rotate_left
                          · show Act.put _ (some 82) _ = _
                            simp only [Act.put, List.setIfInBounds_toArray, List.set_cons_zero, List.set_cons_succ, i64_w, i32_w]
                            rfl
                          refine pure_ (i := 15) (N := some 87) (v := ?_) (a' := ?_) #[true, true, true, true, true, true, true, true, true, true, true, true, true, true, true, true, false] rfl rfl (any_of HT_.out (by kernel_rfl)) (fun _ _ _ h => h) (Or.inl ⟨by rfl, ?_⟩) ?_ ?_
                          rotate_left
                          · intro w'
                            go_simp
                            with_reducible rfl
                          rotate_left
                          · simp only [Act.put, List.setIfInBounds_toArray, List.set_cons_zero, List.set_cons_succ, i64_w, i32_w]
                            rfl
                          refine pure_ (i := 16) (N := some 88) (v := ?_) (a' := ?_) #[true, true, true, true, true, true, true, true, true, true, true, true, true, true, true, true, true] rfl rfl (any_of HT_.out (by kernel_rfl)) (fun _ _ _ h => h) (Or.inl ⟨by rfl, ?_⟩) ?_ ?_
                          rotate_left
                          · intro w'
                            go_simp
                            with_reducible rfl
                          rotate_left
                          · simp only [Act.put, List.setIfInBounds_toArray, List.set_cons_zero, List.set_cons_succ, i64_w, i32_w]
                            rfl
                          refine done_ (done_of HT_.out (by kernel_rfl)) ?_
                          have hcz49_0 : w48.cell? ⟨gb137, 0, none⟩ = some (.slice none 0 0) := (blk_cell BK137.out 0).trans rfl
                          have hcz49_1 : w48.cell? ⟨gb137, 1, none⟩ = some (.int .i64 x138001_2) := (blk_cell BK137.out 1).trans rfl
                          have hcz49_2 : w48.cell? ⟨gb137, 2, none⟩ = some (.int .i64 x138002_2) := (blk_cell BK137.out 2).trans rfl
                          have hfz49_0 := blk_frozen BK137.out 0
                          have hfz49_1 := blk_frozen BK137.out 1
                          have hfz49_2 := blk_frozen BK137.out 2
                          try go_wp2
                          refine bodyPost_ret (results_cell_row rfl _ _ gb137 28 #[.slice Ao46 x5_2.length co46, .int .i64 (wrap64 (Int.tdiv (wrap64 (x6_2 + 1)) 2)), .int .i64 0] (0, 0) _ rfl (by (with_reducible repeat (first | refine blk_drewN ?_ _ | refine blk_drew ?_ | refine blk_alloc ?_ _)); refine blk_put (cs := #[.slice Ao46 x5_2.length co46, .int .i64 (wrap64 (Int.tdiv (wrap64 (x6_2 + 1)) 2)), .int .i64 x138002_2]) ?_ 2 _ rfl; (with_reducible repeat (first | refine blk_drewN ?_ _ | refine blk_drew ?_ | refine blk_alloc ?_ _)); refine blk_put (cs := #[.slice Ao46 x5_2.length co46, .int .i64 x138001_2, .int .i64 x138002_2]) ?_ 1 _ rfl; (with_reducible repeat (first | refine blk_drewN ?_ _ | refine blk_drew ?_ | refine blk_alloc ?_ _)); refine blk_put (cs := #[.slice none 0 0, .int .i64 x138001_2, .int .i64 x138002_2]) ?_ 0 _ rfl; (with_reducible repeat (first | refine blk_drewN ?_ _ | refine blk_drew ?_ | refine blk_alloc ?_ _)); exact BK137.out) Try.underlying28 rfl (by kernel_rfl)) rfl ?_
                          exact ⟨_, by first | rfl | (simp [errW_none, errW_some] <;> rfl) | (simp [*, errW_none, errW_some] <;> rfl), by (with_reducible repeat (first | apply Kd.R_alloc | apply Kd.R_drewN | apply Kd.R_drew)); exact Kd.R_mono (Kd.R_far (p := ⟨gb137, 2, none⟩) (Kd.R_far (p := ⟨gb137, 1, none⟩) (Kd.R_far (p := ⟨gb137, 0, none⟩) (Kd.R_types HO_5.out BK137.out (by decide)) (fun _ hk => hk.2) (.slice Ao46 x5_2.length co46)) (fun _ hk => hk.2) (.int .i64 (wrap64 (Int.tdiv (wrap64 (x6_2 + 1)) 2)))) (fun _ hk => hk.2) (.int .i64 0)) (fun _ hk => trivial), by repeat (first | (with_reducible first | exact HB.out | apply below_alloc | apply pw_below_drewN | apply below_drew1 | refine below_set ?_ GE137.out) | exact HB.out)⟩
                        · rw [if_neg c45] at H
                          have c45b0 : (t145.toList == (a0.extract (a1 : Int).toNat ((wrap64 (Int.tdiv (wrap64 (x6_2 + 1)) 2)) : Int).toNat).toList) = false := beq_eq_false_iff_ne.mpr c45
                          have c45b1 : (t145.toList != (a0.extract (a1 : Int).toNat ((wrap64 (Int.tdiv (wrap64 (x6_2 + 1)) 2)) : Int).toNat).toList) = true := bne_iff_ne.mpr c45
                          simp only [Option.some.injEq, Prod.mk.injEq] at H
                          obtain ⟨rfl, rfl, rfl⟩ := H
                          obtain ⟨Ao50, co50, eo50⟩ := Kd.R_slice HO_5.out
                          subst eo50
                          try go_wp2
                          have n0_ := Aside0.mk (Kd.R_drew HO_5.out)
                          have n1_ := Aside0.mk (blk_drew BK137.out)
                          have n2_ := Aside0.mk (below_drew1 HB.out)
                          clear HO_5
                          clear BK137
                          clear HB
                          have HO_5 := n0_
                          have BK137 := n1_
                          have HB := n2_
                          clear n0_ n1_ n2_
                          refine start_ (n := 17) (S := fun w' => True) (ds := []) #[false, false, false, false, false, false, false, false, false, false, false, false, false, false, false, false, false] (by kernel_rfl) rfl rfl trivial (fun hHeld => ?_); refine with_tabW wringerref7_GetLens.tab18 wringerref7_GetLens.bits18 (fun HT_ HW_ => ?_)
                          generalize wr.drew = w51 at HO_5 BK137 HB hHeld ⊢
                          refine pure_ (i := 0) (N := some 72) (v := ?_) (a' := ?_) #[true, false, false, false, false, false, false, false, false, false, false, false, false, false, false, false, false] rfl rfl (any_of HT_.out (by kernel_rfl)) (fun _ _ _ h => h) (Or.inl ⟨by rfl, ?_⟩) ?_ ?_
                          rotate_left
                          · intro w'
                            go_simp
                            with_reducible rfl
                          rotate_left
                          · simp only [Act.put, List.setIfInBounds_toArray, List.set_cons_zero, List.set_cons_succ, i64_w, i32_w]
                            rfl
                          refine pure_ (i := 1) (N := some 73) (v := ?_) (a' := ?_) #[true, true, false, false, false, false, false, false, false, false, false, false, false, false, false, false, false] rfl rfl (any_of HT_.out (by kernel_rfl)) (fun _ _ _ h => h) (Or.inl ⟨by rfl, ?_⟩) ?_ ?_
                          rotate_left
                          · intro w'
                            go_simp
                            with_reducible rfl
                          rotate_left
                          · simp only [Act.put, List.setIfInBounds_toArray, List.set_cons_zero, List.set_cons_succ, i64_w, i32_w]
                            rfl
                          refine pure_ (i := 2) (N := some 74) (v := ?_) (a' := ?_) #[true, true, true, false, false, false, false, false, false, false, false, false, false, false, false, false, false] rfl rfl (any_of HT_.out (by kernel_rfl)) (fun _ _ _ h => h) (Or.inl ⟨by rfl, ?_⟩) ?_ ?_
                          rotate_left
                          · intro w'
                            go_simp
                            with_reducible rfl
                          rotate_left
                          · simp only [Act.put, List.setIfInBounds_toArray, List.set_cons_zero, List.set_cons_succ, i64_w, i32_w]
                            rfl
                          refine pure_ (i := 3) (N := some 75) (v := ?_) (a' := ?_) #[true, true, true, true, false, false, false, false, false, false, false, false, false, false, false, false, false] rfl rfl (any_of HT_.out (by kernel_rfl)) (fun _ _ _ h => h) (Or.inl ⟨by rfl, ?_⟩) ?_ ?_
                          rotate_left
                          · intro w'
                            go_simp
                            with_reducible rfl
                          rotate_left
                          · simp only [Act.put, List.setIfInBounds_toArray, List.set_cons_zero, List.set_cons_succ, i64_w, i32_w]
                            rfl
                          refine pure_ (i := 4) (N := some 76) (v := ?_) (a' := ?_) #[true, true, true, true, true, false, false, false, false, false, false, false, false, false, false, false, false] rfl rfl (any_of HT_.out (by kernel_rfl)) (fun _ _ _ h => h) (Or.inl ⟨by rfl, ?_⟩) ?_ ?_
                          rotate_left
                          · intro w'
                            go_simp
                            with_reducible rfl
                          rotate_left
                          · simp only [Act.put, List.setIfInBounds_toArray, List.set_cons_zero, List.set_cons_succ, i64_w, i32_w]
                            rfl
                          refine one_ (i := 5) (N := some 77) #[true, true, true, true, true, true, false, false, false, false, false, false, false, false, false, false, false] rfl rfl (one_of HT_.out (by kernel_rfl)) (by decide) (fun K hK => ?_)
                          refine goes_ Try.func19 (by kernel_rfl) rfl #[.slice Ao50 x5_2.length co50] (by rfl) rfl rfl (by (try simp only [List.map_toArray, List.map_cons, List.map_nil]); first | done | rfl | (simp only [List.length_drop, List.length_take]; rfl)) ?_
                          with_reducible refine (wringerref7_MayLens.calls k2 _ _ x5_2 true _ ?side1 ?side2 A39.out).mono ?_
                          (case side1 => repeat (first | exact (Kd.R_reads' HO_5.out).2.2 | (with_reducible refine Kd.C_alloc ?_ _) | (with_reducible refine Kd.C_drewN ?_ _) | (with_reducible refine Kd.C_drew ?_)))
                          (case side2 => exact (Kd.R_reads' HO_5.out).2.1)
                          rintro e w' ⟨rfl, ⟨nd, rfl⟩⟩
                          refine ⟨_, rfl, ?_⟩
                          refine hK.out _ _ trivial (fun hHeld => ?_)
                          clear hK K
                          refine norm_ (a' := ?_) ?_ ?_
                          rotate_left
                          · show Act.put _ (some 77) _ = _
                            simp only [Act.put, List.setIfInBounds_toArray, List.set_cons_zero, List.set_cons_succ, i64_w, i32_w]
                            rfl
                          refine pure_ (i := 6) (N := some 78) (v := ?_) (a' := ?_) #[true, true, true, true, true, true, true, false, false, false, false, false, false, false, false, false, false] rfl rfl (any_of HT_.out (by kernel_rfl)) (fun _ _ _ h => h) (Or.inl ⟨by rfl, ?_⟩) ?_ ?_
                          rotate_left
                          · intro w'
                            go_simp
                            with_reducible rfl
                          rotate_left
                          · simp only [Act.put, List.setIfInBounds_toArray, List.set_cons_zero, List.set_cons_succ, i64_w, i32_w]
                            rfl
                          refine pure_ (i := 7) (N := some 79) (v := ?_) (a' := ?_) #[true, true, true, true, true, true, true, true, false, false, false, false, false, false, false, false, false] rfl rfl (any_of HT_.out (by kernel_rfl)) (fun _ _ _ h => h) (Or.inl ⟨by rfl, ?_⟩) ?_ ?_
                          rotate_left
                          · intro w'
                            go_simp
                            with_reducible rfl
                          rotate_left
                          · simp only [Act.put, List.setIfInBounds_toArray, List.set_cons_zero, List.set_cons_succ, i64_w, i32_w]
                            rfl
                          refine pure_ (i := 8) (N := some 80) (v := ?_) (a' := ?_) #[true, true, true, true, true, true, true, true, true, false, false, false, false, false, false, false, false] rfl rfl (any_of HT_.out (by kernel_rfl)) (fun _ _ _ h => h) (Or.inl ⟨by rfl, ?_⟩) ?_ ?_
                          rotate_left
                          · intro w'
                            go_simp
                            with_reducible rfl
                          rotate_left
                          · simp only [Act.put, List.setIfInBounds_toArray, List.set_cons_zero, List.set_cons_succ, i64_w, i32_w]
                            rfl
                          refine pure_ (i := 9) (N := some 81) (v := ?_) (a' := ?_) #[true, true, true, true, true, true, true, true, true, true, false, false, false, false, false, false, false] rfl rfl (any_of HT_.out (by kernel_rfl)) (fun _ _ _ h => h) (Or.inl ⟨by rfl, ?_⟩) ?_ ?_
                          rotate_left
                          · intro w'
                            go_simp
                            with_reducible rfl
                          rotate_left
                          · simp only [Act.put, List.setIfInBounds_toArray, List.set_cons_zero, List.set_cons_succ, i64_w, i32_w]
                            rfl
                          refine pure_ (i := 11) (N := some 83) (v := ?_) (a' := ?_) #[true, true, true, true, true, true, true, true, true, true, false, true, false, false, false, false, false] rfl rfl (any_of HT_.out (by kernel_rfl)) (fun _ _ _ h => h) (Or.inl ⟨by rfl, ?_⟩) ?_ ?_
                          rotate_left
                          · intro w'
                            go_simp
                            with_reducible rfl
                          rotate_left
                          · simp only [Act.put, List.setIfInBounds_toArray, List.set_cons_zero, List.set_cons_succ, i64_w, i32_w]
                            rfl
                          refine pure_ (i := 12) (N := some 84) (v := ?_) (a' := ?_) #[true, true, true, true, true, true, true, true, true, true, false, true, true, false, false, false, false] rfl rfl (any_of HT_.out (by kernel_rfl)) (fun _ _ _ h => h) (Or.inl ⟨by rfl, ?_⟩) ?_ ?_
                          rotate_left
                          · intro w'
                            go_simp
                            with_reducible rfl
                          rotate_left
                          · simp only [Act.put, List.setIfInBounds_toArray, List.set_cons_zero, List.set_cons_succ, i64_w, i32_w]
                            rfl
                          refine pure_ (i := 13) (N := some 85) (v := ?_) (a' := ?_) #[true, true, true, true, true, true, true, true, true, true, false, true, true, true, false, false, false] rfl rfl (any_of HT_.out (by kernel_rfl)) (fun _ _ _ h => h) (Or.inl ⟨by rfl, ?_⟩) ?_ ?_
                          rotate_left
                          · intro w'
                            go_simp
                            with_reducible rfl
                          rotate_left
                          · simp only [Act.put, List.setIfInBounds_toArray, List.set_cons_zero, List.set_cons_succ, i64_w, i32_w]
                            rfl
                          refine pure_ (i := 14) (N := some 86) (v := ?_) (a' := ?_) #[true, true, true, true, true, true, true, true, true, true, false, true, true, true, true, false, false] rfl rfl (any_of HT_.out (by kernel_rfl)) (fun _ _ _ h => h) (Or.inl ⟨by rfl, ?_⟩) ?_ ?_
                          rotate_left
                          · intro w'
                            go_simp
                            with_reducible rfl
                          rotate_left
                          · simp only [Act.put, List.setIfInBounds_toArray, List.set_cons_zero, List.set_cons_succ, i64_w, i32_w]
                            rfl
                          refine one_ (i := 10) (N := some 82) #[true, true, true, true, true, true, true, true, true, true, true, true, true, true, true, false, false] rfl rfl (one_of HT_.out (by kernel_rfl)) (by decide) (fun K hK => ?_)
                          refine goes_ Try.func11 (by kernel_rfl) rfl #[.slice Ao50 x5_2.length co50] (by rfl) rfl rfl (by (try simp only [List.map_toArray, List.map_cons, List.map_nil]); first | done | rfl | (simp only [List.length_drop, List.length_take]; rfl)) ?_
                          with_reducible refine (wringerref7_PutLens.calls _ _ x5_2 t145 _ ?side1 ?side2 A41.out).mono ?_
                          (case side1 => repeat (first | exact (Kd.R_reads' HO_5.out).2.2 | (with_reducible refine Kd.C_alloc ?_ _) | (with_reducible refine Kd.C_drewN ?_ _) | (with_reducible refine Kd.C_drew ?_)))
                          (case side2 => exact (Kd.R_reads' HO_5.out).2.1)
                          rintro e w52 ⟨rfl, hb⟩
                          refine ⟨_, rfl, ?_⟩
                          have n0_ := Aside0.mk (Kd.R_below (by (with_reducible repeat (first | apply Kd.R_alloc | apply Kd.R_drewN | apply Kd.R_drew)); exact HO_5.out) hb)
                          have n1_ := Aside0.mk (blk_below (g := gb137) (o := .cells #[.slice none 0 0, .int .i64 x138001_2, .int .i64 x138002_2] 28 (0, 0)) (by (with_reducible repeat (first | refine blk_drewN ?_ _ | refine blk_drew ?_ | refine blk_alloc ?_ _)); exact BK137.out) hb)
                          have n2_ := Aside0.mk (below_step (by repeat (first | (with_reducible first | exact HB.out | apply below_alloc | apply pw_below_drewN | apply below_drew1 | refine below_set ?_ GE137.out) | exact HB.out)) hb)
                          clear HO_5
                          clear BK137
                          clear HB
                          have HO_5 := n0_
                          have BK137 := n1_
                          have HB := n2_
                          clear n0_ n1_ n2_
                          (try clear hb)
                          (try clear hb2)
                          (try clear hk)
                          (try clear hi)
                          refine hK.out _ _ trivial (fun hHeld => ?_)
                          clear hK K
                          refine norm_ (a' := ?_) ?_ ?_
                          rotate_left
                          · show Act.put _ (some 82) _ = _
                            simp only [Act.put, List.setIfInBounds_toArray, List.set_cons_zero, List.set_cons_succ, i64_w, i32_w]
                            rfl
                          refine pure_ (i := 15) (N := some 87) (v := ?_) (a' := ?_) #[true, true, true, true, true, true, true, true, true, true, true, true, true, true, true, true, false] rfl rfl (any_of HT_.out (by kernel_rfl)) (fun _ _ _ h => h) (Or.inl ⟨by rfl, ?_⟩) ?_ ?_
                          rotate_left
                          · intro w'
                            go_simp
                            with_reducible rfl
                          rotate_left
                          · simp only [Act.put, List.setIfInBounds_toArray, List.set_cons_zero, List.set_cons_succ, i64_w, i32_w]
                            rfl
                          refine pure_ (i := 16) (N := some 88) (v := ?_) (a' := ?_) #[true, true, true, true, true, true, true, true, true, true, true, true, true, true, true, true, true] rfl rfl (any_of HT_.out (by kernel_rfl)) (fun _ _ _ h => h) (Or.inl ⟨by rfl, ?_⟩) ?_ ?_
                          rotate_left
                          · intro w'
                            go_simp
                            with_reducible rfl
                          rotate_left
                          · simp only [Act.put, List.setIfInBounds_toArray, List.set_cons_zero, List.set_cons_succ, i64_w, i32_w]
                            rfl
                          refine done_ (done_of HT_.out (by kernel_rfl)) ?_
                          have hcz53_0 : w52.cell? ⟨gb137, 0, none⟩ = some (.slice none 0 0) := (blk_cell BK137.out 0).trans rfl
                          have hcz53_1 : w52.cell? ⟨gb137, 1, none⟩ = some (.int .i64 x138001_2) := (blk_cell BK137.out 1).trans rfl
                          have hcz53_2 : w52.cell? ⟨gb137, 2, none⟩ = some (.int .i64 x138002_2) := (blk_cell BK137.out 2).trans rfl
                          have hfz53_0 := blk_frozen BK137.out 0
                          have hfz53_1 := blk_frozen BK137.out 1
                          have hfz53_2 := blk_frozen BK137.out 2
                          try go_wp2
                          refine bodyPost_ret (results_cell_row rfl _ _ gb137 28 #[.slice none 0 0, .int .i64 0, .int .i64 3] (0, 0) _ rfl (by (with_reducible repeat (first | refine blk_drewN ?_ _ | refine blk_drew ?_ | refine blk_alloc ?_ _)); refine blk_put (cs := #[.slice none 0 0, .int .i64 0, .int .i64 x138002_2]) ?_ 2 _ rfl; (with_reducible repeat (first | refine blk_drewN ?_ _ | refine blk_drew ?_ | refine blk_alloc ?_ _)); refine blk_put (cs := #[.slice none 0 0, .int .i64 x138001_2, .int .i64 x138002_2]) ?_ 1 _ rfl; (with_reducible repeat (first | refine blk_drewN ?_ _ | refine blk_drew ?_ | refine blk_alloc ?_ _)); refine blk_put (cs := #[.slice none 0 0, .int .i64 x138001_2, .int .i64 x138002_2]) ?_ 0 _ rfl; (with_reducible repeat (first | refine blk_drewN ?_ _ | refine blk_drew ?_ | refine blk_alloc ?_ _)); exact BK137.out) Try.underlying28 rfl (by kernel_rfl)) rfl ?_
                          exact ⟨_, by first | rfl | (simp [errW_none, errW_some] <;> rfl) | (simp [*, errW_none, errW_some] <;> rfl), by first | exact Kd.R_nil _ _ _ _ _ | exact Kd.N_nil _ _ _ _ _ | exact Kd.V_nil _ _ _ _ _ | exact Kd.Q_nil _ _ _ _ _ | exact Kd.S_nil _ _ _ _ _, by repeat (first | (with_reducible first | exact HB.out | apply below_alloc | apply pw_below_drewN | apply below_drew1 | refine below_set ?_ GE137.out) | exact HB.out)⟩
                      · rw [if_neg c44] at H
                        exact absurd H (by simp)
                    · rw [if_neg c43] at H
                      exact absurd H (by simp)
                  · rw [if_neg c42] at H
                    exact absurd H (by simp)
                · replace c40 := Bool.eq_false_iff.mpr c40
                  subst c40
                  have H1 : (some (([] : List Int), 0, 3)) = some (r1, r2, r3) := by rw [if_neg (show ¬ (false = true) by decide)] at H; exact H
                  clear H
                  have H := H1
                  clear H1
                  simp only [Option.some.injEq, Prod.mk.injEq] at H
                  obtain ⟨rfl, rfl, rfl⟩ := H
                  obtain ⟨Ao54, co54, eo54⟩ := Kd.R_slice HO_5.out
                  subst eo54
                  try go_wp2
                  have n0_ := Aside0.mk (Kd.R_drew HO_5.out)
                  have n1_ := Aside0.mk (blk_drew BK137.out)
                  have n2_ := Aside0.mk (below_drew1 HB.out)
                  clear HO_5
                  clear BK137
                  clear HB
                  have HO_5 := n0_
                  have BK137 := n1_
                  have HB := n2_
                  clear n0_ n1_ n2_
                  refine start_ (n := 17) (S := fun w' => True) (ds := []) #[false, false, false, false, false, false, false, false, false, false, false, false, false, false, false, false, false] (by kernel_rfl) rfl rfl trivial (fun hHeld => ?_); refine with_tabW wringerref7_GetLens.tab18 wringerref7_GetLens.bits18 (fun HT_ HW_ => ?_)
                  generalize wr.drew = w55 at HO_5 BK137 HB hHeld ⊢
                  refine pure_ (i := 0) (N := some 72) (v := ?_) (a' := ?_) #[true, false, false, false, false, false, false, false, false, false, false, false, false, false, false, false, false] rfl rfl (any_of HT_.out (by kernel_rfl)) (fun _ _ _ h => h) (Or.inl ⟨by rfl, ?_⟩) ?_ ?_
                  rotate_left
                  · intro w'
                    go_simp
                    with_reducible rfl
                  rotate_left
                  · simp only [Act.put, List.setIfInBounds_toArray, List.set_cons_zero, List.set_cons_succ, i64_w, i32_w]
                    rfl
                  refine pure_ (i := 1) (N := some 73) (v := ?_) (a' := ?_) #[true, true, false, false, false, false, false, false, false, false, false, false, false, false, false, false, false] rfl rfl (any_of HT_.out (by kernel_rfl)) (fun _ _ _ h => h) (Or.inl ⟨by rfl, ?_⟩) ?_ ?_
                  rotate_left
                  · intro w'
                    go_simp
                    with_reducible rfl
                  rotate_left
                  · simp only [Act.put, List.setIfInBounds_toArray, List.set_cons_zero, List.set_cons_succ, i64_w, i32_w]
                    rfl
                  refine pure_ (i := 2) (N := some 74) (v := ?_) (a' := ?_) #[true, true, true, false, false, false, false, false, false, false, false, false, false, false, false, false, false] rfl rfl (any_of HT_.out (by kernel_rfl)) (fun _ _ _ h => h) (Or.inl ⟨by rfl, ?_⟩) ?_ ?_
                  rotate_left
                  · intro w'
                    go_simp
                    with_reducible rfl
                  rotate_left
                  · simp only [Act.put, List.setIfInBounds_toArray, List.set_cons_zero, List.set_cons_succ, i64_w, i32_w]
                    rfl
                  refine pure_ (i := 3) (N := some 75) (v := ?_) (a' := ?_) #[true, true, true, true, false, false, false, false, false, false, false, false, false, false, false, false, false] rfl rfl (any_of HT_.out (by kernel_rfl)) (fun _ _ _ h => h) (Or.inl ⟨by rfl, ?_⟩) ?_ ?_
                  rotate_left
                  · intro w'
                    go_simp
                    with_reducible rfl
                  rotate_left
                  · simp only [Act.put, List.setIfInBounds_toArray, List.set_cons_zero, List.set_cons_succ, i64_w, i32_w]
                    rfl
                  refine pure_ (i := 4) (N := some 76) (v := ?_) (a' := ?_) #[true, true, true, true, true, false, false, false, false, false, false, false, false, false, false, false, false] rfl rfl (any_of HT_.out (by kernel_rfl)) (fun _ _ _ h => h) (Or.inl ⟨by rfl, ?_⟩) ?_ ?_
                  rotate_left
                  · intro w'
                    go_simp
                    with_reducible rfl
                  rotate_left
                  · simp only [Act.put, List.setIfInBounds_toArray, List.set_cons_zero, List.set_cons_succ, i64_w, i32_w]
                    rfl
                  refine one_ (i := 5) (N := some 77) #[true, true, true, true, true, true, false, false, false, false, false, false, false, false, false, false, false] rfl rfl (one_of HT_.out (by kernel_rfl)) (by decide) (fun K hK => ?_)
                  refine goes_ Try.func19 (by kernel_rfl) rfl #[.slice Ao54 x5_2.length co54] (by rfl) rfl rfl (by (try simp only [List.map_toArray, List.map_cons, List.map_nil]); first | done | rfl | (simp only [List.length_drop, List.length_take]; rfl)) ?_
                  with_reducible refine (wringerref7_MayLens.calls k2 _ _ x5_2 false _ ?side1 ?side2 A39.out).mono ?_
                  (case side1 => repeat (first | exact (Kd.R_reads' HO_5.out).2.2 | (with_reducible refine Kd.C_alloc ?_ _) | (with_reducible refine Kd.C_drewN ?_ _) | (with_reducible refine Kd.C_drew ?_)))
                  (case side2 => exact (Kd.R_reads' HO_5.out).2.1)
                  rintro e w' ⟨rfl, ⟨nd, rfl⟩⟩
                  refine ⟨_, rfl, ?_⟩
                  refine hK.out _ _ trivial (fun hHeld => ?_)
                  clear hK K
                  refine norm_ (a' := ?_) ?_ ?_
                  rotate_left
                  · show Act.put _ (some 77) _ = _
                    simp only [Act.put, List.setIfInBounds_toArray, List.set_cons_zero, List.set_cons_succ, i64_w, i32_w]
                    rfl
                  refine pure_ (i := 6) (N := some 78) (v := ?_) (a' := ?_) #[true, true, true, true, true, true, true, false, false, false, false, false, false, false, false, false, false] rfl rfl (any_of HT_.out (by kernel_rfl)) (fun _ _ _ h => h) (Or.inl ⟨by rfl, ?_⟩) ?_ ?_
                  rotate_left
                  · intro w'
                    go_simp
                    with_reducible rfl
                  rotate_left
                  · simp only [Act.put, List.setIfInBounds_toArray, List.set_cons_zero, List.set_cons_succ, i64_w, i32_w]
                    rfl
                  refine pure_ (i := 7) (N := some 79) (v := ?_) (a' := ?_) #[true, true, true, true, true, true, true, true, false, false, false, false, false, false, false, false, false] rfl rfl (any_of HT_.out (by kernel_rfl)) (fun _ _ _ h => h) (Or.inl ⟨by rfl, ?_⟩) ?_ ?_
                  rotate_left
                  · intro w'
                    go_simp
                    with_reducible rfl
                  rotate_left
                  · simp only [Act.put, List.setIfInBounds_toArray, List.set_cons_zero, List.set_cons_succ, i64_w, i32_w]
                    rfl
                  refine pure_ (i := 8) (N := some 80) (v := ?_) (a' := ?_) #[true, true, true, true, true, true, true, true, true, false, false, false, false, false, false, false, false] rfl rfl (any_of HT_.out (by kernel_rfl)) (fun _ _ _ h => h) (Or.inl ⟨by rfl, ?_⟩) ?_ ?_
                  rotate_left
                  · intro w'
                    go_simp
                    with_reducible rfl
                  rotate_left
                  · simp only [Act.put, List.setIfInBounds_toArray, List.set_cons_zero, List.set_cons_succ, i64_w, i32_w]
                    rfl
                  refine pure_ (i := 9) (N := some 81) (v := undef) (a' := ?_) #[true, true, true, true, true, true, true, true, true, true, false, false, false, false, false, false, false] rfl rfl (any_of HT_.out (by kernel_rfl)) (fun _ _ _ h => h) (Or.inr ⟨by rfl, rfl⟩) ?_ ?_
                  rotate_left
                  · simp only [Act.put, List.setIfInBounds_toArray, List.set_cons_zero, List.set_cons_succ, i64_w, i32_w]
                    rfl
                  refine pure_ (i := 10) (N := some 82) (v := undef) (a' := ?_) #[true, true, true, true, true, true, true, true, true, true, true, false, false, false, false, false, false] rfl rfl (any_of HT_.out (by kernel_rfl)) (fun _ _ _ h => h) (Or.inr ⟨by rfl, rfl⟩) ?_ ?_
                  rotate_left
                  · simp only [Act.put, List.setIfInBounds_toArray, List.set_cons_zero, List.set_cons_succ, i64_w, i32_w]
                    rfl
                  refine pure_ (i := 11) (N := some 83) (v := undef) (a' := ?_) #[true, true, true, true, true, true, true, true, true, true, true, true, false, false, false, false, false] rfl rfl (any_of HT_.out (by kernel_rfl)) (fun _ _ _ h => h) (Or.inr ⟨by rfl, rfl⟩) ?_ ?_
                  rotate_left
                  · simp only [Act.put, List.setIfInBounds_toArray, List.set_cons_zero, List.set_cons_succ, i64_w, i32_w]
                    rfl
                  refine pure_ (i := 12) (N := some 84) (v := undef) (a' := ?_) #[true, true, true, true, true, true, true, true, true, true, true, true, true, false, false, false, false] rfl rfl (any_of HT_.out (by kernel_rfl)) (fun _ _ _ h => h) (Or.inr ⟨by rfl, rfl⟩) ?_ ?_
                  rotate_left
                  · simp only [Act.put, List.setIfInBounds_toArray, List.set_cons_zero, List.set_cons_succ, i64_w, i32_w]
                    rfl
                  refine pure_ (i := 13) (N := some 85) (v := undef) (a' := ?_) #[true, true, true, true, true, true, true, true, true, true, true, true, true, true, false, false, false] rfl rfl (any_of HT_.out (by kernel_rfl)) (fun _ _ _ h => h) (Or.inr ⟨by rfl, rfl⟩) ?_ ?_
                  rotate_left
                  · simp only [Act.put, List.setIfInBounds_toArray, List.set_cons_zero, List.set_cons_succ, i64_w, i32_w]
                    rfl
                  refine pure_ (i := 14) (N := some 86) (v := undef) (a' := ?_) #[true, true, true, true, true, true, true, true, true, true, true, true, true, true, true, false, false] rfl rfl (any_of HT_.out (by kernel_rfl)) (fun _ _ _ h => h) (Or.inr ⟨by rfl, rfl⟩) ?_ ?_
                  rotate_left
                  · simp only [Act.put, List.setIfInBounds_toArray, List.set_cons_zero, List.set_cons_succ, i64_w, i32_w]
                    rfl
                  refine pure_ (i := 15) (N := some 87) (v := undef) (a' := ?_) #[true, true, true, true, true, true, true, true, true, true, true, true, true, true, true, true, false] rfl rfl (any_of HT_.out (by kernel_rfl)) (fun _ _ _ h => h) (Or.inr ⟨by rfl, rfl⟩) ?_ ?_
                  rotate_left
                  · simp only [Act.put, List.setIfInBounds_toArray, List.set_cons_zero, List.set_cons_succ, i64_w, i32_w]
                    rfl
                  refine pure_ (i := 16) (N := some 88) (v := ?_) (a' := ?_) #[true, true, true, true, true, true, true, true, true, true, true, true, true, true, true, true, true] rfl rfl (any_of HT_.out (by kernel_rfl)) (fun _ _ _ h => h) (Or.inl ⟨by rfl, ?_⟩) ?_ ?_
                  rotate_left
                  · intro w'
                    go_simp
                    with_reducible rfl
                  rotate_left
                  · simp only [Act.put, List.setIfInBounds_toArray, List.set_cons_zero, List.set_cons_succ, i64_w, i32_w]
                    rfl
                  refine done_ (done_of HT_.out (by kernel_rfl)) ?_
                  have hcz56_0 : w55.cell? ⟨gb137, 0, none⟩ = some (.slice none 0 0) := (blk_cell BK137.out 0).trans rfl
                  have hcz56_1 : w55.cell? ⟨gb137, 1, none⟩ = some (.int .i64 x138001_2) := (blk_cell BK137.out 1).trans rfl
                  have hcz56_2 : w55.cell? ⟨gb137, 2, none⟩ = some (.int .i64 x138002_2) := (blk_cell BK137.out 2).trans rfl
                  have hfz56_0 := blk_frozen BK137.out 0
                  have hfz56_1 := blk_frozen BK137.out 1
                  have hfz56_2 := blk_frozen BK137.out 2
                  try go_wp2
                  refine bodyPost_ret (results_cell_row rfl _ _ gb137 28 #[.slice none 0 0, .int .i64 0, .int .i64 3] (0, 0) _ rfl (by (with_reducible repeat (first | refine blk_drewN ?_ _ | refine blk_drew ?_ | refine blk_alloc ?_ _)); refine blk_put (cs := #[.slice none 0 0, .int .i64 0, .int .i64 x138002_2]) ?_ 2 _ rfl; (with_reducible repeat (first | refine blk_drewN ?_ _ | refine blk_drew ?_ | refine blk_alloc ?_ _)); refine blk_put (cs := #[.slice none 0 0, .int .i64 x138001_2, .int .i64 x138002_2]) ?_ 1 _ rfl; (with_reducible repeat (first | refine blk_drewN ?_ _ | refine blk_drew ?_ | refine blk_alloc ?_ _)); refine blk_put (cs := #[.slice none 0 0, .int .i64 x138001_2, .int .i64 x138002_2]) ?_ 0 _ rfl; (with_reducible repeat (first | refine blk_drewN ?_ _ | refine blk_drew ?_ | refine blk_alloc ?_ _)); exact BK137.out) Try.underlying28 rfl (by kernel_rfl)) rfl ?_
                  exact ⟨_, by first | rfl | (simp [errW_none, errW_some] <;> rfl) | (simp [*, errW_none, errW_some] <;> rfl), by first | exact Kd.R_nil _ _ _ _ _ | exact Kd.N_nil _ _ _ _ _ | exact Kd.V_nil _ _ _ _ _ | exact Kd.Q_nil _ _ _ _ _ | exact Kd.S_nil _ _ _ _ _, by repeat (first | (with_reducible first | exact HB.out | apply below_alloc | apply pw_below_drewN | apply below_drew1 | refine below_set ?_ GE137.out) | exact HB.out)⟩
              · rw [if_neg c38] at H
                have c38b0 : ((x5_2.length : Int) == 65) = false := beq_eq_false_iff_ne.mpr c38
                have c38b1 : ((x5_2.length : Int) != 65) = true := bne_iff_ne.mpr c38
                simp only [Option.some.injEq, Prod.mk.injEq] at H
                obtain ⟨rfl, rfl, rfl⟩ := H
                obtain ⟨Ao57, co57, eo57⟩ := Kd.R_slice HO_5.out
                subst eo57
                try go_wp2
                have n0_ := Aside0.mk (Kd.R_drew HO_5.out)
                have n1_ := Aside0.mk (blk_drew BK137.out)
                have n2_ := Aside0.mk (below_drew1 HB.out)
                clear HO_5
                clear BK137
                clear HB
                have HO_5 := n0_
                have BK137 := n1_
                have HB := n2_
                clear n0_ n1_ n2_
                refine start_ (n := 17) (S := fun w' => True) (ds := []) #[false, false, false, false, false, false, false, false, false, false, false, false, false, false, false, false, false] (by kernel_rfl) rfl rfl trivial (fun hHeld => ?_); refine with_tabW wringerref7_GetLens.tab18 wringerref7_GetLens.bits18 (fun HT_ HW_ => ?_)
                generalize wr.drew = w58 at HO_5 BK137 HB hHeld ⊢
                refine pure_ (i := 0) (N := some 72) (v := ?_) (a' := ?_) #[true, false, false, false, false, false, false, false, false, false, false, false, false, false, false, false, false] rfl rfl (any_of HT_.out (by kernel_rfl)) (fun _ _ _ h => h) (Or.inl ⟨by rfl, ?_⟩) ?_ ?_
                rotate_left
                · intro w'
                  go_simp
                  with_reducible rfl
                rotate_left
                · simp only [Act.put, List.setIfInBounds_toArray, List.set_cons_zero, List.set_cons_succ, i64_w, i32_w]
                  rfl
                refine pure_ (i := 1) (N := some 73) (v := ?_) (a' := ?_) #[true, true, false, false, false, false, false, false, false, false, false, false, false, false, false, false, false] rfl rfl (any_of HT_.out (by kernel_rfl)) (fun _ _ _ h => h) (Or.inl ⟨by rfl, ?_⟩) ?_ ?_
                rotate_left
                · intro w'
                  go_simp
                  with_reducible rfl
                rotate_left
                · simp only [Act.put, List.setIfInBounds_toArray, List.set_cons_zero, List.set_cons_succ, i64_w, i32_w]
                  rfl
                refine pure_ (i := 2) (N := some 74) (v := ?_) (a' := ?_) #[true, true, true, false, false, false, false, false, false, false, false, false, false, false, false, false, false] rfl rfl (any_of HT_.out (by kernel_rfl)) (fun _ _ _ h => h) (Or.inl ⟨by rfl, ?_⟩) ?_ ?_
                rotate_left
                · intro w'
                  go_simp
                  with_reducible rfl
                rotate_left
                · simp only [Act.put, List.setIfInBounds_toArray, List.set_cons_zero, List.set_cons_succ, i64_w, i32_w]
                  rfl
                refine pure_ (i := 3) (N := some 75) (v := ?_) (a' := ?_) #[true, true, true, true, false, false, false, false, false, false, false, false, false, false, false, false, false] rfl rfl (any_of HT_.out (by kernel_rfl)) (fun _ _ _ h => h) (Or.inl ⟨by rfl, ?_⟩) ?_ ?_
                rotate_left
                · intro w'
                  go_simp
                  with_reducible rfl
                rotate_left
                · simp only [Act.put, List.setIfInBounds_toArray, List.set_cons_zero, List.set_cons_succ, i64_w, i32_w]
                  rfl
                refine pure_ (i := 4) (N := some 76) (v := undef) (a' := ?_) #[true, true, true, true, true, false, false, false, false, false, false, false, false, false, false, false, false] rfl rfl (any_of HT_.out (by kernel_rfl)) (fun _ _ _ h => h) (Or.inr ⟨by rfl, rfl⟩) ?_ ?_
                rotate_left
                · simp only [Act.put, List.setIfInBounds_toArray, List.set_cons_zero, List.set_cons_succ, i64_w, i32_w]
                  rfl
                refine pure_ (i := 5) (N := some 77) (v := undef) (a' := ?_) #[true, true, true, true, true, true, false, false, false, false, false, false, false, false, false, false, false] rfl rfl (any_of HT_.out (by kernel_rfl)) (fun _ _ _ h => h) (Or.inr ⟨by rfl, rfl⟩) ?_ ?_
                rotate_left
                · simp only [Act.put, List.setIfInBounds_toArray, List.set_cons_zero, List.set_cons_succ, i64_w, i32_w]
                  rfl
                refine pure_ (i := 6) (N := some 78) (v := undef) (a' := ?_) #[true, true, true, true, true, true, true, false, false, false, false, false, false, false, false, false, false] rfl rfl (any_of HT_.out (by kernel_rfl)) (fun _ _ _ h => h) (Or.inr ⟨by rfl, rfl⟩) ?_ ?_
                rotate_left
                · simp only [Act.put, List.setIfInBounds_toArray, List.set_cons_zero, List.set_cons_succ, i64_w, i32_w]
                  rfl
                refine pure_ (i := 7) (N := some 79) (v := ?_) (a' := ?_) #[true, true, true, true, true, true, true, true, false, false, false, false, false, false, false, false, false] rfl rfl (any_of HT_.out (by kernel_rfl)) (fun _ _ _ h => h) (Or.inl ⟨by rfl, ?_⟩) ?_ ?_
                rotate_left
                · intro w'
                  go_simp
                  with_reducible rfl
                rotate_left
                · simp only [Act.put, List.setIfInBounds_toArray, List.set_cons_zero, List.set_cons_succ, i64_w, i32_w]
                  rfl
                refine pure_ (i := 8) (N := some 80) (v := ?_) (a' := ?_) #[true, true, true, true, true, true, true, true, true, false, false, false, false, false, false, false, false] rfl rfl (any_of HT_.out (by kernel_rfl)) (fun _ _ _ h => h) (Or.inl ⟨by rfl, ?_⟩) ?_ ?_
                rotate_left
                · intro w'
                  go_simp
                  with_reducible rfl
                rotate_left
                · simp only [Act.put, List.setIfInBounds_toArray, List.set_cons_zero, List.set_cons_succ, i64_w, i32_w]
                  rfl
                refine pure_ (i := 9) (N := some 81) (v := undef) (a' := ?_) #[true, true, true, true, true, true, true, true, true, true, false, false, false, false, false, false, false] rfl rfl (any_of HT_.out (by kernel_rfl)) (fun _ _ _ h => h) (Or.inr ⟨by rfl, rfl⟩) ?_ ?_
                rotate_left
                · simp only [Act.put, List.setIfInBounds_toArray, List.set_cons_zero, List.set_cons_succ, i64_w, i32_w]
                  rfl
                refine pure_ (i := 10) (N := some 82) (v := undef) (a' := ?_) #[true, true, true, true, true, true, true, true, true, true, true, false, false, false, false, false, false] rfl rfl (any_of HT_.out (by kernel_rfl)) (fun _ _ _ h => h) (Or.inr ⟨by rfl, rfl⟩) ?_ ?_
                rotate_left
                · simp only [Act.put, List.setIfInBounds_toArray, List.set_cons_zero, List.set_cons_succ, i64_w, i32_w]
                  rfl
                refine pure_ (i := 11) (N := some 83) (v := undef) (a' := ?_) #[true, true, true, true, true, true, true, true, true, true, true, true, false, false, false, false, false] rfl rfl (any_of HT_.out (by kernel_rfl)) (fun _ _ _ h => h) (Or.inr ⟨by rfl, rfl⟩) ?_ ?_
                rotate_left
                · simp only [Act.put, List.setIfInBounds_toArray, List.set_cons_zero, List.set_cons_succ, i64_w, i32_w]
                  rfl
                refine pure_ (i := 12) (N := some 84) (v := undef) (a' := ?_) #[true, true, true, true, true, true, true, true, true, true, true, true, true, false, false, false, false] rfl rfl (any_of HT_.out (by kernel_rfl)) (fun _ _ _ h => h) (Or.inr ⟨by rfl, rfl⟩) ?_ ?_
                rotate_left
                · simp only [Act.put, List.setIfInBounds_toArray, List.set_cons_zero, List.set_cons_succ, i64_w, i32_w]
                  rfl
                refine pure_ (i := 13) (N := some 85) (v := undef) (a' := ?_) #[true, true, true, true, true, true, true, true, true, true, true, true, true, true, false, false, false] rfl rfl (any_of HT_.out (by kernel_rfl)) (fun _ _ _ h => h) (Or.inr ⟨by rfl, rfl⟩) ?_ ?_
                rotate_left
                · simp only [Act.put, List.setIfInBounds_toArray, List.set_cons_zero, List.set_cons_succ, i64_w, i32_w]
                  rfl
                refine pure_ (i := 14) (N := some 86) (v := undef) (a' := ?_) #[true, true, true, true, true, true, true, true, true, true, true, true, true, true, true, false, false] rfl rfl (any_of HT_.out (by kernel_rfl)) (fun _ _ _ h => h) (Or.inr ⟨by rfl, rfl⟩) ?_ ?_
                rotate_left
                · simp only [Act.put, List.setIfInBounds_toArray, List.set_cons_zero, List.set_cons_succ, i64_w, i32_w]
                  rfl
                refine pure_ (i := 15) (N := some 87) (v := undef) (a' := ?_) #[true, true, true, true, true, true, true, true, true, true, true, true, true, true, true, true, false] rfl rfl (any_of HT_.out (by kernel_rfl)) (fun _ _ _ h => h) (Or.inr ⟨by rfl, rfl⟩) ?_ ?_
                rotate_left
                · simp only [Act.put, List.setIfInBounds_toArray, List.set_cons_zero, List.set_cons_succ, i64_w, i32_w]
                  rfl
                refine pure_ (i := 16) (N := some 88) (v := ?_) (a' := ?_) #[true, true, true, true, true, true, true, true, true, true, true, true, true, true, true, true, true] rfl rfl (any_of HT_.out (by kernel_rfl)) (fun _ _ _ h => h) (Or.inl ⟨by rfl, ?_⟩) ?_ ?_
                rotate_left
                · intro w'
                  go_simp
                  with_reducible rfl
                rotate_left
                · simp only [Act.put, List.setIfInBounds_toArray, List.set_cons_zero, List.set_cons_succ, i64_w, i32_w]
                  rfl
                refine done_ (done_of HT_.out (by kernel_rfl)) ?_
                have hcz59_0 : w58.cell? ⟨gb137, 0, none⟩ = some (.slice none 0 0) := (blk_cell BK137.out 0).trans rfl
                have hcz59_1 : w58.cell? ⟨gb137, 1, none⟩ = some (.int .i64 x138001_2) := (blk_cell BK137.out 1).trans rfl
                have hcz59_2 : w58.cell? ⟨gb137, 2, none⟩ = some (.int .i64 x138002_2) := (blk_cell BK137.out 2).trans rfl
                have hfz59_0 := blk_frozen BK137.out 0
                have hfz59_1 := blk_frozen BK137.out 1
                have hfz59_2 := blk_frozen BK137.out 2
                try go_wp2
                refine bodyPost_ret (results_cell_row rfl _ _ gb137 28 #[.slice none 0 0, .int .i64 0, .int .i64 3] (0, 0) _ rfl (by (with_reducible repeat (first | refine blk_drewN ?_ _ | refine blk_drew ?_ | refine blk_alloc ?_ _)); refine blk_put (cs := #[.slice none 0 0, .int .i64 0, .int .i64 x138002_2]) ?_ 2 _ rfl; (with_reducible repeat (first | refine blk_drewN ?_ _ | refine blk_drew ?_ | refine blk_alloc ?_ _)); refine blk_put (cs := #[.slice none 0 0, .int .i64 x138001_2, .int .i64 x138002_2]) ?_ 1 _ rfl; (with_reducible repeat (first | refine blk_drewN ?_ _ | refine blk_drew ?_ | refine blk_alloc ?_ _)); refine blk_put (cs := #[.slice none 0 0, .int .i64 x138001_2, .int .i64 x138002_2]) ?_ 0 _ rfl; (with_reducible repeat (first | refine blk_drewN ?_ _ | refine blk_drew ?_ | refine blk_alloc ?_ _)); exact BK137.out) Try.underlying28 rfl (by kernel_rfl)) rfl ?_
                exact ⟨_, by first | rfl | (simp [errW_none, errW_some] <;> rfl) | (simp [*, errW_none, errW_some] <;> rfl), by first | exact Kd.R_nil _ _ _ _ _ | exact Kd.N_nil _ _ _ _ _ | exact Kd.V_nil _ _ _ _ _ | exact Kd.Q_nil _ _ _ _ _ | exact Kd.S_nil _ _ _ _ _, by repeat (first | (with_reducible first | exact HB.out | apply below_alloc | apply pw_below_drewN | apply below_drew1 | refine below_set ?_ GE137.out) | exact HB.out)⟩

end Go.Proofs.Ytkplcibmhibjjaa.PA

-- ---- Bn
/- A Writer of the call's own. -/
namespace Go.Proofs.Ytkplcibmhibjjaa
set_option linter.unusedSimpArgs false
set_option linter.unusedVariables false
open Go.RowKit Mix _root_.Go.Proofs.Ytkplcibmhibjjaa.Own Bits

/-- A Writer all of whose memory lies from block B on. -/
structure NewW (B : Nat) (w : World) (p : Nat) (v : Value) (l : List Bool) : Prop where
  is : IsW w p v l
  at_ : B ≤ p
  row : ∀ g, v.ownBlock = some g → B ≤ g

theorem NewW.keep {B : Nat} {w w' : World} {S : Nat → Prop} {p : Nat} {v : Value} {l : List Bool} (h : NewW B w p v l) (hc : Chg S w w') (hp : ¬ S p) (hv : ∀ g, v.ownBlock = some g → ¬ S g) : NewW B w' p v l :=
  ⟨h.is.keep hc hp hv, h.at_, h.row⟩
theorem NewW.later {B : Nat} {w w' : World} {p : Nat} {v : Value} {l : List Bool} (h : NewW B w p v l) (hc : Below w.heap.size w w') : NewW B w' p v l :=
  h.keep (Chg.of_below (S := fun _ => False) hc) id (fun _ _ => id)

theorem new_new (B : Nat) (w : World) (hB : B ≤ w.heap.size) : Calls Try.prog 20 #[] w fun e w' => ∃ p, e = .returned (.pointer (some ⟨p, 0, none⟩)) ∧ NewW B w' p (.slice none 0 0) [] ∧ Below w.heap.size w w' ∧ w.heap.size ≤ p :=
  (new_calls w).mono fun e w' ⟨p, he, hW, hb, hp⟩ => ⟨p, he, ⟨hW, Nat.le_trans hB hp, fun g hg => by simp [Value.ownBlock] at hg⟩, hb, hp⟩

theorem put_new (B p : Nat) (v : Value) (l : List Bool) (x : Nat) (n : Int) (w : World) (hB : B ≤ w.heap.size) (hW : NewW B w p v l) (hl : l.length < 1000000000000) (hx : x < 18446744073709551616) (hn0 : -9223372036854775808 ≤ n) (hn1 : n ≤ 9223372036854775807) :
    Calls Try.prog 21 #[.pointer (some ⟨p, 0, none⟩), .int .u64 (x : Int), .int .i64 n] w fun e w' => e = .returned (.tuple #[]) ∧
      ∃ v', NewW B w' p v' (l ++ bitsOf x (clamp n)) ∧ Below B w w' ∧ Chg (fun k => k = p ∨ some k = v.ownBlock) w w' ∧ ∀ g, v'.ownBlock = some g → some g = v.ownBlock ∨ w.heap.size ≤ g :=
  (put_calls p v l x n w hW.is hl hx hn0 hn1).mono fun e w' ⟨he, v', h1, h2, h3⟩ => ⟨he, v', ⟨h1, hW.at_, fun g hg => by
      rcases h3 g hg with h | h
      · exact hW.row g h.symm
      · omega⟩, h2.below hB (fun k hk h => by
      rcases h with h | h
      · have := hW.at_; omega
      · have := hW.row k h.symm; omega), h2, h3⟩
end Go.Proofs.Ytkplcibmhibjjaa

-- ---- PAx3

namespace Go.Proofs.Ytkplcibmhibjjaa.PA
open Go.RowKit Go.Proofs.YtkplcibmhibjjaaW.PrintWords Go.Proofs.YtkplcibmhibjjaaW.PrintLast Go.Proofs.YtkplcibmhibjjaaW.PrintMore
attribute [local go_sem] max2_int min2_int max_two min_two max_three min_three max_four min_four   -- for this text's walks alone
set_option linter.unusedVariables false
set_option linter.unusedSimpArgs false

/-! ### lens_noughts: function 22 -/
def lens_noughts.l0 : Nat → List Int → Int → Option (Int)
  | 0, _, _ => none
  | k + 1, x0, x3 => if x3 < (mn (x0.length : Int) 16) then (if 0 ≤ x3 then (if x3 < (x0.length : Int) then (if (rd x0 x3) = 0 then (lens_noughts.l0 k x0 (wrap64 (x3 + 1))) else (some x3)) else (none)) else (none)) else (some x3)
def lens_noughts.f (k : Nat) (l0 : List Int) : Option (Int) := lens_noughts.l0 k l0 0
theorem lens_noughts.mono_l : ∀ k, (∀ y0 y1, LeO (lens_noughts.l0 k y0 y1) (lens_noughts.l0 (k + 1) y0 y1))
  | 0 => fun _ _ r h => by simp [lens_noughts.l0] at h
  | k + 1 => by
    have ih0 := lens_noughts.mono_l k
    · intro y0 y1
      unfold lens_noughts.l0
      repeat' first
      | (with_reducible exact ih0 _ _)
      | (with_reducible exact LeO.refl _)
      | (with_reducible exact LeO.none _)
      | (with_reducible refine LeO.ite ?_ ?_)
      | (with_reducible refine LeO.bind ?_ (fun _ => ?_))
      | exact ih0 _ _
      | exact LeO.none _
      | refine LeO.ite ?_ ?_
      | refine LeO.bind ?_ (fun _ => ?_)
theorem lens_noughts.mono : ∀ a0 k, LeO (lens_noughts.f k a0) (lens_noughts.f (k + 1) a0) := by
  intro a0 k
  have ih0 := lens_noughts.mono_l k
  unfold lens_noughts.f
  repeat' first
      | (with_reducible exact ih0 _ _)
      | (with_reducible exact LeO.refl _)
      | (with_reducible exact LeO.none _)
      | (with_reducible refine LeO.ite ?_ ?_)
      | (with_reducible refine LeO.bind ?_ (fun _ => ?_))
      | exact ih0 _ _
      | exact LeO.none _
      | refine LeO.ite ?_ ?_
      | refine LeO.bind ?_ (fun _ => ?_)
set_option maxHeartbeats 8000000 in
set_option maxRecDepth 100000 in
theorem lens_noughts.calls (k : Nat) (A0 : Option Addr) (c0 : Nat) (l0 : List Int) (r : Int) (w : World) (hr0 : Kd.C (Kd.int .i64) w A0 l0.length l0) (hc0 : l0.length ≤ c0) (h : lens_noughts.f k l0 = some r) :
    Calls Try.prog 22 #[.slice A0 l0.length c0] w fun e w' => e = .returned (.int .i64 r) ∧ Below w.heap.size w w' := by
  have HR0 := Aside0.mk hr0
  have HC0 := Aside0.mk hc0
  clear hr0 hc0
  have HB := Aside0.mk (Below.refl w.heap.size w)
  have H : (lens_noughts.l0 k l0 0) = some r := h
  clear h
  have H' := Aside0.mk H
  clear H
  go_enter Try.func22, Try.ntmps22
  go_wp2
  go_loopg [3] k (fun kq v3 w' => ∃ (x3_1 : Int), v3 = .int .i64 x3_1 ∧ Aside0 (lens_noughts.l0 kq l0 x3_1 = some r) ∧ Aside0 (kq ≤ k) ∧ Aside0 (Below w.heap.size w w'))
  case atStart => exact ⟨(0), (by first | rfl | (simp; done) | (simp [*]; done)), H', ⟨Nat.le_refl _⟩, ⟨by repeat (first | (with_reducible first | exact HB.out | apply below_alloc | apply pw_below_drewN | apply below_drew1) | exact HB.out)⟩⟩
  case round =>
    clear H'
    obtain ⟨x3_1, rfl, HA, HK1, HB⟩ := hrel
    cases gk with
    | zero => exact absurd HA.out (by simp [lens_noughts.l0])
    | succ k1 =>
      have H := HA.out
      clear HA
      simp only [lens_noughts.l0] at H
      obtain ⟨ji2, hji2⟩ : ∃ j_ : Int, (mn (l0.length : Int) 16) = j_ := ⟨_, rfl⟩
      replace H : (if x3_1 < (ji2) then (if 0 ≤ x3_1 then (if x3_1 < (l0.length : Int) then (if (rd l0 x3_1) = 0 then (lens_noughts.l0 k1 l0 (wrap64 (x3_1 + 1))) else (some x3_1)) else (none)) else (none)) else (some x3_1)) = some r := by first | (rw [hji2] at H; exact H) | (simp only [hji2] at H ⊢; exact H)
      have hji2_ : (if 16 < (l0.length : Int) then 16 else (l0.length : Int)) = ji2 := hji2
      by_cases c3 : x3_1 < (ji2)
      · rw [if_pos c3] at H
        have c3b0 : decide (x3_1 < (ji2)) = true := decide_eq_true c3
        clear c3
        by_cases c4 : 0 ≤ x3_1
        · rw [if_pos c4] at H
          have c4b0 : decide (0 ≤ x3_1) = true := decide_eq_true c4
          clear c4
          by_cases c5 : x3_1 < (l0.length : Int)
          · rw [if_pos c5] at H
            have c5b0 : decide (x3_1 < (l0.length : Int)) = true := decide_eq_true c5
            clear c5
            by_cases c6 : (rd l0 x3_1) = 0
            · rw [if_pos c6] at H
              have c6b0 : ((rd l0 x3_1) == 0) = true := beq_iff_eq.mpr c6
              have c6b1 : ((rd l0 x3_1) != 0) = false := bne_eq_false_iff_eq.mpr c6
              clear c6
              have H' := Aside0.mk H
              clear H
              have p103 : 0 ≤ (x3_1 : Int) := of_decide_eq_true (by first | (with_reducible assumption) | assumption)
              have q103 : x3_1 < (l0.length : Int) := of_decide_eq_true (by first | (with_reducible assumption) | assumption)
              obtain ⟨ad103, e103, hx103_0⟩ := Kd.at_int HR0.out x3_1 p103 q103
              cases e103
              replace hx103_0 := (HB.out.cell (World.block_lt_of_cell? w _ hx103_0)).trans hx103_0
              replace p103 := eq_true p103
              replace q103 := eq_true q103
              go_wp2
              go_roundg k1
              case measure => have := HK1.out; omega
              case rel => exact ⟨(wrap64 (x3_1 + 1)), (by first | rfl | (simp; done) | (simp [*]; done)), H', ⟨by have := HK1.out; omega⟩, ⟨by repeat (first | (with_reducible first | exact HB.out | apply below_alloc | apply pw_below_drewN | apply below_drew1) | exact HB.out)⟩⟩
            · rw [if_neg c6] at H
              have c6b0 : ((rd l0 x3_1) == 0) = false := beq_eq_false_iff_ne.mpr c6
              have c6b1 : ((rd l0 x3_1) != 0) = true := bne_iff_ne.mpr c6
              obtain rfl := Option.some.inj H
              have p103 : 0 ≤ (x3_1 : Int) := of_decide_eq_true (by first | (with_reducible assumption) | assumption)
              have q103 : x3_1 < (l0.length : Int) := of_decide_eq_true (by first | (with_reducible assumption) | assumption)
              obtain ⟨ad103, e103, hx103_0⟩ := Kd.at_int HR0.out x3_1 p103 q103
              cases e103
              replace hx103_0 := (HB.out.cell (World.block_lt_of_cell? w _ hx103_0)).trans hx103_0
              replace p103 := eq_true p103
              replace q103 := eq_true q103
              go_wp2
              go_ret
              exact ⟨by first | rfl | (simp [errW_none, errW_some] <;> rfl) | (simp only [← hji2]; first | rfl | (simp [errW_none, errW_some] <;> rfl)) | (simp [*, errW_none, errW_some] <;> rfl), by repeat (first | (with_reducible first | exact HB.out | apply below_alloc | apply pw_below_drewN | apply below_drew1) | exact HB.out)⟩
          · rw [if_neg c5] at H
            exact absurd H (by simp)
        · rw [if_neg c4] at H
          exact absurd H (by simp)
      · rw [if_neg c3] at H
        have c3b0 : decide (x3_1 < (ji2)) = false := decide_eq_false c3
        clear c3
        obtain rfl := Option.some.inj H
        go_wp2
        go_ret
        exact ⟨by first | rfl | (simp [errW_none, errW_some] <;> rfl) | (simp only [← hji2]; first | rfl | (simp [errW_none, errW_some] <;> rfl)) | (simp [*, errW_none, errW_some] <;> rfl), by repeat (first | (with_reducible first | exact HB.out | apply below_alloc | apply pw_below_drewN | apply below_drew1) | exact HB.out)⟩

end Go.Proofs.Ytkplcibmhibjjaa.PA

-- ---- Lr
/- lens.Put: the bytes of lengths: what the call answers. Conditions: the list reads as the argument does. -/
namespace Go.Proofs.Ytkplcibmhibjjaa.PA
open Go.RowKit Go.Proofs.YtkplcibmhibjjaaW.PrintWords Go.Proofs.YtkplcibmhibjjaaW.PrintLast Go.Proofs.YtkplcibmhibjjaaW.PrintMore
open Mix _root_.Go.Proofs.Ytkplcibmhibjjaa.Own Bits Lp Dp
set_option linter.unusedVariables false
set_option linter.unusedSimpArgs false
attribute [local go_sem] Own.max_int Own.min_int

theorem noughts_l0 (l : List Int) (hl : l.length < 1000000) : ∀ (d i : Nat), i + d = 16 → i ≤ l.length → (∀ q, q < i → l.getD q 0 = 0) →
    Ev (fun k => lens_noughts.l0 k l (i : Int)) ((i + runC d (l.drop i) : Nat) : Int) := by
  intro d
  induction d with
  | zero =>
    intro i hi hil h0
    refine Ev.step (f := fun _ => some (i : Int)) (fun k => by simp only [lens_noughts.l0]; rw [mn_min, if_neg (by omega)]) (Ev.ofSome ?_)
    simp [runC]
  | succ d ih =>
    intro i hi hil h0
    by_cases hlt : i < l.length
    · have hdr := dropG l i hlt
      by_cases hz : l.getD i 0 = 0
      · refine evq ?_ (Ev.step (f := fun k => lens_noughts.l0 k l ((i + 1 : Nat) : Int)) (fun k => ?_) (ih (i + 1) (by omega) (by omega) (fun q hq => by
          by_cases e : q = i
          · rw [e]; exact hz
          · exact h0 q (by omega))))
        · rw [hdr, hz]; simp only [runC]; rw [if_pos trivial]; congr 1; omega
        · simp only [lens_noughts.l0]
          rw [mn_min, if_pos (by omega), if_pos (by omega), if_pos (by omega), rd_nat, if_pos hz, w64 (by omega) (by omega)]; rfl
      · refine Ev.step (f := fun _ => some (i : Int)) (fun k => ?_) (Ev.ofSome ?_)
        · simp only [lens_noughts.l0]
          rw [mn_min, if_pos (by omega), if_pos (by omega), if_pos (by omega), rd_nat, if_neg hz]
        · rw [hdr]; simp only [runC]; rw [if_neg hz]; simp
    · refine Ev.step (f := fun _ => some (i : Int)) (fun k => by simp only [lens_noughts.l0]; rw [mn_min, if_neg (by omega)]) (Ev.ofSome ?_)
      rw [List.drop_eq_nil_of_le (by omega)]; simp [runC]
theorem noughts_is (l : List Int) (hl : l.length < 1000000) : Ev (fun k => lens_noughts.f k l) ((runC 16 l : Nat) : Int) := by
  unfold lens_noughts.f
  have := noughts_l0 l hl 16 0 (by omega) (by omega) (fun q h => by omega)
  rw [Nat.zero_add, List.drop_zero] at this
  exact this

def sliceLen : Value → Nat
  | .slice _ n _ => n
  | _ => 0
/-- The rest of a row from a place on, as Go cuts it. -/
theorem C_drop {k : IntKind} {w : World} {A : Option Addr} {n C q : Nat} {xs : List Int} (h : Kd.C (Kd.int k) w A n xs) (hC : n ≤ C) (hq : q ≤ n) :
    Kd.C (Kd.int k) w (if C = q then A else A.map fun x => x.add q) (n - q) (xs.drop q) := by
  have hl : xs.length = n := h.1
  refine ⟨by rw [List.length_drop, hl], by have := h.2.1; omega, fun h0 => ?_⟩
  have hr := rd_of_C h
  obtain ⟨x, rfl, _⟩ := hr.at (ints_at k xs 0 (by omega))
  rw [if_neg (by omega)]
  refine ⟨x.add q, rfl, fun i y hy => ?_⟩
  rw [List.getElem?_drop] at hy
  have hi : q + i < xs.length := (List.getElem?_eq_some_iff.1 hy).1
  obtain ⟨x2, hx2, hc⟩ := hr.at (ints_at k xs (q + i) hi)
  cases hx2
  have e : xs.getD (q + i) 0 = y := by rw [List.getD_eq_getElem?_getD, hy]; rfl
  rw [e] at hc
  refine ⟨[.int k y], rfl, rfl, fun j u hj => ?_⟩
  match j, hj with
  | 0, hj => simp at hj; subst hj; rw [Own.add_add]; simpa [Kd.int, Kd.scalar] using hc

set_option maxHeartbeats 4000000 in
theorem lput_calls (A0 : Option Addr) (c0 : Nat) (l : List Int) (w : World) (hr0 : Kd.C (Kd.int .i64) w A0 l.length l) (hc0 : l.length ≤ c0) :
    Calls Try.prog 10 #[.slice A0 l.length c0] w fun e w' => e = .returned (.string (putL l)) ∧ Below w.heap.size w w' := by
  obtain ⟨k, hk⟩ := (may_is l).rounds
  have hm := canon_May.calls k A0 c0 l _ w hr0 hc0 hk
  have hR := Own.rd_of_C hr0
  obtain ⟨n0, hn0⟩ : ∃ n0, n0 = l.length := ⟨_, rfl⟩
  cases hml : mayL l with
  | false =>
    rw [hml] at hm
    have HE : Kept (putL l = ⟨#[]⟩) := kept (by unfold putL; rw [hml]; rfl)
    rw [← hn0] at hm ⊢
    have HM := kept hm
    clear hr0 hc0 hk hm hR hml hn0
    go_enter Try.func10, Try.ntmps10
    go_wp2_with (first | (go_at_call 18; refine HM.out.mono ?_; rintro e w1 ⟨rfl, ⟨⟨nd, rfl⟩⟩⟩))
    go_ret
    exact ⟨by rw [HE.out]; rfl, (pw_below_drewN (Below.refl _ _) _)⟩
  | true =>
    rw [hml] at hm
    obtain ⟨h65, hrange⟩ := mayL_range hml
    have HE : Kept (putL l = textOf (pack (bitsN (nibL l)))) := kept (by unfold putL; rw [hml]; rfl)
    obtain ⟨B, hB⟩ : ∃ B, B = w.heap.size := ⟨_, rfl⟩
    rw [h65] at hm hr0 hc0 ⊢
    rw [← hB]
    have HB := kept hB
    have HM := kept hm
    have HR := kept hr0
    have HL := kept h65
    have HRg := kept hrange
    clear hr0 hk hm hR hml h65 hrange hB hn0
    go_enter Try.func10, Try.ntmps10
    go_wp2_with (first | (go_at_call 18; refine HM.out.mono ?_; rintro e w1 ⟨rfl, ⟨⟨nd, rfl⟩⟩⟩) | (go_at_call 20; refine (new_new B _ (by rw [HB.out]; simp)).mono ?_; rintro e wa ⟨pa, rfl, hWa, hba, hpa⟩; have HWa := kept hWa; have HBa : Kept (Below B w wa) := kept (by rw [HB.out]; exact (pw_below_drewN (Below.refl _ _) _).trans (hba.mono (by simp))); have HSa : Kept (B ≤ wa.heap.size) := kept (by have := HBa.out.size; rw [HB.out]; exact this); clear hWa hba hpa))
    go_loopw [5] (fun s5 wr => ∃ (A : Option Addr) (C : Nat) (t : List Int) (v : Value) (done : List Nat), s5 = .slice A t.length C ∧ Kd.C (Kd.int .i64) w A t.length t ∧ t.length ≤ C ∧ (∀ x ∈ t, 0 ≤ x ∧ x ≤ 15) ∧ NewW B wr pa v (bitsN done) ∧ Below B w wr ∧ B ≤ wr.heap.size ∧ done ++ nibL t = nibL l ∧ done.length + 2 * t.length ≤ 130) (fun s5 _ => sliceLen s5)
    case atStart => exact ⟨A0, c0, l, _, [], by rw [HL.out], by rw [HL.out]; exact HR.out, by rw [HL.out]; exact hc0, HRg.out, HWa.out, HBa.out, HSa.out, rfl, by rw [HL.out]; simp⟩
    case round =>
      obtain ⟨A, C, t, v, done, rfl, hR, hC, hrg, hW, hb, hs, hd, hdl⟩ := hrel
      obtain ⟨wq, rfl⟩ : ∃ wq, wq = wr := ⟨wr, rfl⟩
      have HW := kept hW
      have HBl := kept hb
      have HS := kept hs
      have HD := kept hd
      have hbl := length_bitsN done
      have hbl2 : (bitsN done).length < 1000000000000 := by omega
      have HBL := kept hbl2
      clear hW hb hs hd hbl hbl2 HWa HBa HSa
      cases t with
      | nil =>
        have HN : Kept (nibL l = done) := kept (by
          have h := HD.out
          rw [nibL_nil, List.append_nil] at h
          exact h.symm)
        have hby := bytes_calls pa v _ wq HW.out.is
        rw [← HN.out, ← HE.out] at hby
        have HBy := kept hby
        simp only [List.length_nil]
        clear hby hR hC hrg hdl
        go_wp2_with (first | (go_at_call 23; refine HBy.out.mono ?_; rintro e w' ⟨rfl, rfl⟩))
        go_ret
        exact ⟨rfl, HBl.out⟩
      | cons x t =>
        have hx := hrg x (by simp)
        obtain ⟨y, rfl⟩ : ∃ y : Nat, x = (y : Int) := ⟨x.toNat, by omega⟩
        have hy15 : y ≤ 15 := by omega
        have hrd := rd_of_C hR
        obtain ⟨ad, rfl, hcw⟩ := hrd.at (Own.ints_at .i64 ((y : Int) :: t) 0 (by simp))
        rw [show ad.add 0 = ad by unfold Addr.add; simp] at hcw
        have hxB : ad.block < B := by rw [HB.out]; exact World.block_lt_of_cell? w _ hcw
        have hc := (HBl.out.cell hxB).trans hcw
        simp only [List.getD_cons_zero] at hc
        obtain ⟨kn, hkn⟩ := (noughts_is ((y : Int) :: t) (by simp at hdl ⊢; omega)).rounds
        have hcn := lens_noughts.calls kn (some ad) C ((y : Int) :: t) _ wq (Kd.C_below hR (by rw [← HB.out]; exact HBl.out)) hC hkn
        have HRt := kept hR
        have hC2 : t.length + 1 ≤ C := hC
        have HRg2 := kept hrg
        have hdl2 : done.length + 2 * (t.length + 1) ≤ 130 := hdl
        simp only [List.length_cons] at hcn ⊢
        clear hR hC hrg hrd hkn hcw hdl hx
        by_cases hy0 : y = 0
        · subst hy0
          have hR1 : 1 ≤ runC 16 ((0 : Int) :: t) := runC_pos 15 t
          have hR2 := runC_le 16 ((0 : Int) :: t)
          have hnz := nibL_zero t
          obtain ⟨r, hr⟩ : ∃ r, runC 16 ((0 : Int) :: t) = r + 1 := ⟨runC 16 ((0 : Int) :: t) - 1, by omega⟩
          rw [show (((0 : Nat) : Int) :: t) = (0 : Int) :: t from rfl] at hcn HRt HRg2 HD
          rw [hr] at hcn hR2 hnz
          obtain ⟨hr16, hrt⟩ := hR2
          simp only [List.length_cons] at hrt
          have HNz := kept hnz
          have HCn := kept hcn
          have HPut := kept (put_new B pa v (bitsN done) 0 4 wq HS.out HW.out HBL.out (by decide) (by decide) (by decide))
          have hnb : Kept (done ++ [0] ++ [r] ++ nibL (((0 : Int) :: t).drop (r + 1)) = nibL l) := kept (by
            have h := HD.out
            rw [HNz.out, Nat.add_sub_cancel] at h
            rw [← h]; simp)
          have HDr := kept (by have h := C_drop HRt.out hC2 (show r + 1 ≤ t.length + 1 by omega); exact h)
          have HPut := kept (fun w1 (hW1 : NewW B w1 pa v (bitsN done)) (hB1 : B ≤ w1.heap.size) => put_new B pa v (bitsN done) 0 4 w1 hB1 hW1 HBL.out (by decide) (by decide) (by decide))
          have hbl3 := length_bitsN (done ++ [0])
          have hbl4 : (bitsN (done ++ [0])).length < 1000000000000 := by rw [hbl3]; simp; omega
          have HPut2 := kept (fun v2 w1 (hW1 : NewW B w1 pa v2 (bitsN (done ++ [0]))) (hB1 : B ≤ w1.heap.size) => put_new B pa v2 (bitsN (done ++ [0])) r 4 w1 hB1 hW1 hbl4 (by omega) (by decide) (by decide))
          clear hcn hnz hr hR1 hbl3 hbl4
          go_wp2_with fail
          refine HCn.out.mono ?_
          rintro e w2 ⟨rfl, hb2⟩
          have HW2 := kept (HW.out.later hb2)
          have HB2 := kept (HBl.out.trans (hb2.mono HS.out))
          have HS2 := kept (Nat.le_trans HS.out hb2.size)
          clear hb2 hc
          have trz : (((r : Int) + 1) == 0) = false := by rw [beq_eq_false_iff_ne]; omega
          go_wp2_with fail
          refine (HPut.out _ HW2.out HS2.out).mono ?_
          rw [clamp4]
          rintro e w3 ⟨rfl, v3, hW3, hb3, hc3, hg3⟩
          have HW3 : Kept (NewW B w3 pa v3 (bitsN (done ++ [0]))) := kept (by rw [bitsN_append, bitsN_cons]; simpa [bitsN] using hW3)
          have HB3 := kept (HB2.out.trans hb3)
          have HS3 := kept (Nat.le_trans HS2.out hb3.size)
          clear hW3 hb3 hc3 hg3
          go_wp2_with fail
          refine (HPut2.out v3 _ HW3.out HS3.out).mono ?_
          rw [clamp4]
          rintro e w4 ⟨rfl, v4, hW4, hb4, hc4, hg4⟩
          have HW4 := kept hW4
          have HB4 := kept (HB3.out.trans hb4)
          have HS4 := kept (Nat.le_trans HS3.out hb4.size)
          clear hW4 hb4 hc4 hg4
          have hrC : r + 1 ≤ C := by omega
          go_wp2_with fail
          go_roundw
          case rel =>
            refine ⟨_, _, t.drop r, v4, done ++ [0] ++ [r], by rw [List.length_drop], ?_, ?_, ?_, ?_, ?_, ?_, ?_, ?_⟩
            · have h := HDr.out
              simpa [Addr.add] using h
            · rw [List.length_drop]; omega
            · exact fun x hx => HRg2.out x (List.mem_cons_of_mem _ (List.mem_of_mem_drop hx))
            · rw [bitsN_append (done ++ [0])]; simpa [bitsN] using HW4.out
            · exact HB4.out
            · exact HS4.out
            · simpa using hnb.out
            · simp; omega
          case measure => simp [sliceLen]; omega
        · have hyz : (y : Int) ≠ 0 := by omega
          have hr0 : runC 16 ((y : Int) :: t) = 0 := by simp only [runC]; rw [if_neg hyz]
          rw [hr0] at hcn
          have hnb : Kept (done ++ [y] ++ nibL t = nibL l) := kept (by
            have h := HD.out
            rw [nibL_pos _ _ hyz, Int.toNat_natCast] at h
            rw [← h]; simp)
          have HCn := kept hcn
          have HDr := kept (by have h := C_drop HRt.out hC2 (show 1 ≤ t.length + 1 by omega); exact h)
          have HPut := kept (fun w1 (hW1 : NewW B w1 pa v (bitsN done)) (hB1 : B ≤ w1.heap.size) => put_new B pa v (bitsN done) y 4 w1 hB1 hW1 HBL.out (by omega) (by decide) (by decide))
          clear hcn hr0
          go_wp2_with (first | (go_at_call 22; refine HCn.out.mono ?_; rintro e w2 ⟨rfl, hb2⟩; have hc2 := (hb2.cell (by have := HS.out; omega)).trans hc; have HW2 := kept (HW.out.later hb2); have HB2 := kept (HBl.out.trans (hb2.mono HS.out)); have HS2 := kept (Nat.le_trans HS.out hb2.size); clear hb2 hc) | (go_at_call 21; refine (HPut.out _ HW2.out HS2.out).mono ?_; rw [clamp4]; rintro e w3 ⟨rfl, v3, hW3, hb3, hc3, hg3⟩; have HW3 := kept hW3; have HB3 := kept (HB2.out.trans hb3); have HS3 := kept (Nat.le_trans HS2.out hb3.size); clear hW3 hb3 hc3 hg3))
          go_roundw
          case rel =>
            refine ⟨_, _, t, v3, done ++ [y], rfl, ?_, ?_, ?_, ?_, ?_, ?_, ?_, ?_⟩
            · have h := HDr.out
              simpa [Addr.add] using h
            · omega
            · exact fun x hx => HRg2.out x (List.mem_cons_of_mem _ hx)
            · rw [bitsN_append, bitsN_cons]; simpa [bitsN] using HW3.out
            · exact HB3.out
            · exact HS3.out
            · exact hnb.out
            · simp; omega
          case measure => simp [sliceLen]
end Go.Proofs.Ytkplcibmhibjjaa.PA

-- ---- PAx5
/- lens.Put: what the call answers, for every list. Conditions: none but a slice's. -/
namespace Go.Proofs.Ytkplcibmhibjjaa.PA
open Go.RowKit Go.Proofs.YtkplcibmhibjjaaW.PrintWords Go.Proofs.YtkplcibmhibjjaaW.PrintLast Go.Proofs.YtkplcibmhibjjaaW.PrintMore
set_option linter.unusedVariables false
set_option linter.unusedSimpArgs false

def lens_Put.f (l0 : List Int) : Option (ByteArray) := some (Lp.putL l0)
theorem lens_Put.calls (A0 : Option Addr) (c0 : Nat) (l0 : List Int) (r : ByteArray) (w : World) (hr0 : Kd.C (Kd.int .i64) w A0 l0.length l0) (hc0 : l0.length ≤ c0) (h : lens_Put.f l0 = some r) :
    Calls Try.prog 10 #[.slice A0 l0.length c0] w fun e w' => e = .returned (.string r) ∧ Below w.heap.size w w' := by
  unfold lens_Put.f at h
  cases h
  exact lput_calls A0 c0 l0 w hr0 hc0
end Go.Proofs.Ytkplcibmhibjjaa.PA

-- ---- My
/- Several rows of one-cell elements that a call owns side by side: each in a block of its own. No program in sight. -/
namespace Go.Proofs.Ytkplcibmhibjjaa.Own
set_option linter.unusedSimpArgs false
set_option linter.unusedVariables false
open Go Go.RowKit

/-- In no block both. -/
def Dj (u v : Value) : Prop := ∀ b, u.ownBlock = some b → v.ownBlock ≠ some b
theorem Dj.symm {u v : Value} (h : Dj u v) : Dj v u := fun b h1 h2 => h b h2 h1
/-- These rows, each alone in its block, all from block B on. -/
structure Many (B : Nat) (w : World) (e : TypeId) (R : List (Value × List Value)) : Prop where
  own : ∀ (i : Nat) v xs, R[i]? = some (v, xs) → Owns w e v xs
  new : ∀ (i : Nat) v xs, R[i]? = some (v, xs) → ∀ b, v.ownBlock = some b → B ≤ b
  sep : ∀ (i j : Nat) a xs b ys, i ≠ j → R[i]? = some (a, xs) → R[j]? = some (b, ys) → Dj a b

theorem Many.nil (B : Nat) (w : World) (e : TypeId) : Many B w e [] := ⟨fun i v xs h => by simp at h, fun i v xs h => by simp at h, fun i j a xs b ys _ h => by simp at h⟩
theorem Many.chg {B : Nat} {w w' : World} {S : Nat → Prop} {e : TypeId} {R : List (Value × List Value)} (h : Many B w e R) (hc : Chg S w w') (hn : ∀ (i : Nat) v xs, R[i]? = some (v, xs) → ∀ g, v.ownBlock = some g → ¬ S g) : Many B w' e R :=
  ⟨fun i v xs hi => (h.own i v xs hi).chg hc (hn i v xs hi), h.new, h.sep⟩
theorem Many.later {B : Nat} {w w' : World} {e : TypeId} {R : List (Value × List Value)} (h : Many B w e R) (hb : Below w.heap.size w w') : Many B w' e R :=
  ⟨fun i v xs hi => (h.own i v xs hi).keep fun g hg hl => hb.block g hl, h.new, h.sep⟩
/-- One row has turned. -/
theorem Many.set {B : Nat} {w w' : World} {e : TypeId} {R : List (Value × List Value)} (h : Many B w e R) (i : Nat) {v v' : Value} {xs xs' : List Value} (hi : R[i]? = some (v, xs)) (hc : Chg (fun k => some k = v.ownBlock) w w')
    (ho : Owns w' e v' xs') (hn : ∀ g, v'.ownBlock = some g → some g = v.ownBlock ∨ w.heap.size ≤ g) (hB : B ≤ w.heap.size) : Many B w' e (R.set i (v', xs')) := by
  have hil : i < R.length := (List.getElem?_eq_some_iff.1 hi).1
  refine ⟨fun j u ys hj => ?_, fun j u ys hj b hb => ?_, fun j k a ys b zs hjk hj hk => ?_⟩
  · by_cases e1 : j = i
    · subst e1
      rw [List.getElem?_set_self hil, Option.some.injEq, Prod.mk.injEq] at hj
      obtain ⟨rfl, rfl⟩ := hj; exact ho
    · rw [List.getElem?_set_ne (fun e => e1 e.symm)] at hj
      exact (h.own j u ys hj).chg hc fun g hg hs => h.sep j i u ys v xs e1 hj hi g hg hs.symm
  · by_cases e1 : j = i
    · subst e1
      rw [List.getElem?_set_self hil, Option.some.injEq, Prod.mk.injEq] at hj
      obtain ⟨rfl, rfl⟩ := hj
      rcases hn b hb with h1 | h1
      · exact h.new j v xs hi b h1.symm
      · omega
    · rw [List.getElem?_set_ne (fun e => e1 e.symm)] at hj; exact h.new j u ys hj b hb
  · have other : ∀ (m : Nat) (u : Value) (us : List Value), m ≠ i → R[m]? = some (u, us) → Dj u v' := fun m u us hm hmu g hg hv => by
      rcases hn g hv with h1 | h1
      · exact h.sep m i u us v xs hm hmu hi g hg h1.symm
      · have := (h.own m u us hmu).lt g hg; omega
    by_cases e1 : j = i
    · subst e1
      have e2 : k ≠ j := fun e => hjk e.symm
      rw [List.getElem?_set_self hil, Option.some.injEq, Prod.mk.injEq] at hj
      rw [List.getElem?_set_ne (fun e => e2 e.symm)] at hk
      obtain ⟨rfl, rfl⟩ := hj
      exact (other k b zs e2 hk).symm
    · rw [List.getElem?_set_ne (fun e => e1 e.symm)] at hj
      by_cases e2 : k = i
      · subst e2
        rw [List.getElem?_set_self hil, Option.some.injEq, Prod.mk.injEq] at hk
        obtain ⟨rfl, rfl⟩ := hk
        exact other j a ys e1 hj
      · rw [List.getElem?_set_ne (fun e => e2 e.symm)] at hk
        exact h.sep j k a ys b zs hjk hj hk
/-- A new row. -/
theorem Many.add {B : Nat} {w w' : World} {e : TypeId} {R : List (Value × List Value)} (h : Many B w e R) (hb : Below w.heap.size w w') {v : Value} {xs : List Value} (ho : Owns w' e v xs) (hn : ∀ g, v.ownBlock = some g → w.heap.size ≤ g) (hB : B ≤ w.heap.size) : Many B w' e (R ++ [(v, xs)]) := by
  have h' := h.later hb
  have last : ∀ (j : Nat) u ys, (R ++ [(v, xs)])[j]? = some (u, ys) → R[j]? = some (u, ys) ∨ (j = R.length ∧ u = v ∧ ys = xs) := fun j u ys hj => by
    rcases Nat.lt_trichotomy j R.length with h1 | h1 | h1
    · rw [List.getElem?_append_left h1] at hj; exact .inl hj
    · subst h1
      rw [List.getElem?_append_right (Nat.le_refl _)] at hj
      simp at hj; exact .inr ⟨rfl, hj.1.symm, hj.2.symm⟩
    · rw [List.getElem?_eq_none (by simp; omega)] at hj; cases hj
  have oth : ∀ (j : Nat) u ys, R[j]? = some (u, ys) → Dj u v := fun j u ys hj g hg hv => by
    have := (h.own j u ys hj).lt g hg; have := hn g hv; omega
  refine ⟨fun j u ys hj => ?_, fun j u ys hj b hb => ?_, fun j k a ys b zs hjk hj hk => ?_⟩
  · rcases last j u ys hj with h1 | ⟨_, rfl, rfl⟩
    · exact h'.own j u ys h1
    · exact ho
  · rcases last j u ys hj with h1 | ⟨_, rfl, rfl⟩
    · exact h'.new j u ys h1 b hb
    · have := hn b hb; omega
  · rcases last j a ys hj with h1 | ⟨rfl, rfl, rfl⟩
    · rcases last k b zs hk with h2 | ⟨rfl, rfl, rfl⟩
      · exact h'.sep j k a ys b zs hjk h1 h2
      · exact oth j a ys h1
    · rcases last k b zs hk with h2 | ⟨rfl, rfl, rfl⟩
      · exact (oth k b zs h2).symm
      · exact absurd rfl hjk
/-- A block of another type stays. -/
theorem Many.other {B : Nat} {w w' : World} {e t : TypeId} {R : List (Value × List Value)} (h : Many B w e R) (i : Nat) {v : Value} {xs : List Value} (hi : R[i]? = some (v, xs)) (hc : Chg (fun k => some k = v.ownBlock) w w') {p : Nat} {cs : Array Value} (hp : Blk w p cs t) (hne : e ≠ t) : Blk w' p cs t :=
  hc.keep hp fun hs => (h.own i v xs hi).ne hp hne hs.symm
/-- A block of another type is written. -/
theorem Many.setBlk {B : Nat} {w : World} {e t : TypeId} {R : List (Value × List Value)} (h : Many B w e R) {p : Nat} {cs : Array Value} (hp : Blk w p cs t) (hne : e ≠ t) (j : Nat) (u : Value) : Many B (w.setCell ⟨p, j, none⟩ u) e R :=
  h.chg (Chg.setCell w _ _) fun i v xs hi g hg hs => (h.own i v xs hi).ne hp hne (by rw [hg]; exact congrArg some hs)
theorem Many.below {B : Nat} {w w' : World} {e : TypeId} {R : List (Value × List Value)} (h : Many B w e R) (i : Nat) {v : Value} {xs : List Value} (hi : R[i]? = some (v, xs)) (hc : Chg (fun k => some k = v.ownBlock) w w') (hB : B ≤ w.heap.size) : Below B w w' :=
  hc.below hB fun k hk hs => by have := h.new i v xs hi k hs.symm; omega
/-- One cell of a row is written. -/
theorem Many.store {B : Nat} {w : World} {e : TypeId} {R : List (Value × List Value)} (h : Many B w e R) (i : Nat) {g n cap : Nat} {xs : List Value} (hi : R[i]? = some (.slice (some ⟨g, 0, none⟩) n cap, xs)) (j : Nat) (u : Value) (hB : B ≤ w.heap.size) :
    Many B (w.setCell ⟨g, j, none⟩ u) e (R.set i (.slice (some ⟨g, 0, none⟩) n cap, xs.set j u)) :=
  h.set i hi (by have := Chg.setCell w ⟨g, j, none⟩ u; exact this.mono fun k _ hk => by rw [hk]; rfl) ((h.own i _ _ hi).store j u) (fun b hb => .inl hb.symm) hB
end Go.Proofs.Ytkplcibmhibjjaa.Own
namespace Go.Proofs.Ytkplcibmhibjjaa
open Go.RowKit _root_.Go.Proofs.Ytkplcibmhibjjaa.Own
theorem sliceI {w : World} {e : TypeId} {k : IntKind} {v : Value} {xs : List Int} (h : Owns w e v (ints k xs)) : ∃ a c, v = .slice a xs.length c := by
  obtain ⟨a, c, h, _⟩ := h.slice
  exact ⟨a, c, by rw [h, length_ints]⟩
theorem rowI {w : World} {e : TypeId} {k : IntKind} {v : Value} {xs : List Int} (h : Owns w e v (ints k xs)) (hx : xs ≠ []) : ∃ g c, v = .slice (some ⟨g, 0, none⟩) xs.length c ∧ xs.length ≤ c ∧ g < w.heap.size := by
  obtain ⟨g, c, h1, h2, h3⟩ := h.row (by intro e; exact hx (by have := congrArg List.length e; rw [length_ints] at this; exact List.length_eq_zero_iff.1 this))
  rw [length_ints] at h1 h2
  exact ⟨g, c, h1, h2, h3⟩
theorem ints_set (k : IntKind) (l : List Int) (i : Nat) (v : Int) : ints k (l.set i v) = (ints k l).set i (.int k v) := by simp [ints, List.map_set]
end Go.Proofs.Ytkplcibmhibjjaa

-- ---- Ls
/- lens.Get: the lengths that stand at a place: what the call answers. Conditions: the text is not longer than a thousand million bytes. -/
namespace Go.Proofs.Ytkplcibmhibjjaa.PA
open Go.RowKit Go.Proofs.YtkplcibmhibjjaaW.PrintWords Go.Proofs.YtkplcibmhibjjaaW.PrintLast Go.Proofs.YtkplcibmhibjjaaW.PrintMore
open Mix _root_.Go.Proofs.Ytkplcibmhibjjaa.Own Bits Lp Dp
set_option linter.unusedVariables false
set_option linter.unusedSimpArgs false
attribute [local go_sem] Own.max_int Own.min_int

theorem infoIntL : (Try.prog.info? 3).map (fun i => (i.zero, i.size, i.bytes)) = some (some (.int .i64 0), 1, 8) := by kernel_rfl
theorem info_partsL {i : Option TypeInfo} {z : Value} {s b : Nat} (h : i.map (fun i => (i.zero, i.size, i.bytes)) = some (some z, s, b)) : ∃ i0, i = some i0 ∧ i0.zero = some z ∧ i0.size = s ∧ i0.bytes = b := by
  cases i with
  | none => simp at h
  | some i => simp at h; exact ⟨i, rfl, h.1, h.2.1, h.2.2⟩

set_option maxHeartbeats 2000000 in
theorem lget_arg (s : ByteArray) (a : Int) (w : World) (hs : s.size ≤ 1000000000) (ha : a < 0 ∨ (s.size : Int) < a) :
    Calls Try.prog 8 #[.string s, .int .i64 a] w fun e w' => e = .returned (.tuple #[.slice none 0 0, .int .i64 0, .int .i64 1]) ∧ w = w' := by
  by_cases h0 : a < 0
  · have t1 : decide (a < 0) = true := decide_eq_true h0
    clear ha
    go_enter Try.func8, Try.ntmps8
    go_wp2_with fail
    go_ret3
    exact ⟨rfl, rfl⟩
  · have t1 : decide (a < 0) = false := decide_eq_false h0
    have h1 : (s.size : Int) < a := by omega
    have t2 : decide ((s.size : Int) < a) = true := decide_eq_true h1
    clear ha
    go_enter Try.func8, Try.ntmps8
    go_wp2_with fail
    go_ret3
    exact ⟨rfl, rfl⟩

/-- On the way: the reader at p, the lengths at v. -/
structure StG (B : Nat) (w wr : World) (p : Nat) (s : ByteArray) (h : Nat) (v : Value) (acc : List Int) : Prop where
  rd : IsRd wr p s (4 * h)
  pB : B ≤ p
  own : Owns wr 3 v (ints .i64 acc)
  new : ∀ g, v.ownBlock = some g → B ≤ g
  low : Below B w wr
  sz : B ≤ wr.heap.size

theorem StG.got {B : Nat} {w wr w' : World} {p : Nat} {s : ByteArray} {h h' : Nat} {v : Value} {acc : List Int} (hS : StG B w wr p s h v acc) (h1 : IsRd w' p s (4 * h')) (h2 : Below B wr w') (h3 : Chg (fun b => b = p) wr w') : StG B w w' p s h' v acc :=
  ⟨h1, hS.pB, hS.own.chg h3 fun g hg e => by subst e; exact hS.own.ne hS.rd (by decide) hg, hS.new, hS.low.trans h2, Nat.le_trans hS.sz h2.size⟩
theorem StG.app {B : Nat} {w wr w' : World} {p : Nat} {s : ByteArray} {h : Nat} {v v' : Value} {acc acc' : List Int} (hS : StG B w wr p s h v acc) (ho : Owns w' 3 v' (ints .i64 acc')) (hc : Chg (fun k => some k = v.ownBlock) wr w') (hn : ∀ g, v'.ownBlock = some g → some g = v.ownBlock ∨ wr.heap.size ≤ g) : StG B w w' p s h v' acc' := by
  have hb : Below B wr w' := hc.below hS.sz fun k hk e => by have := hS.new k e.symm; omega
  exact ⟨hc.keep hS.rd fun e => hS.own.ne hS.rd (by decide) e.symm, hS.pB, ho, fun g hg => by
    rcases hn g hg with h | h
    · exact hS.new g h.symm
    · have := hS.sz; omega, hS.low.trans hb, Nat.le_trans hS.sz hb.size⟩

def sLen : Value → Nat
  | .slice _ n _ => n
  | _ => 0

set_option maxHeartbeats 1000000 in
theorem lget_calls (s : ByteArray) (m : Nat) (w : World) (hs : s.size ≤ 1000000000) (hm : m ≤ s.size) :
    Calls Try.prog 8 #[.string s, .int .i64 (m : Int)] w fun e w' => ∃ v, e = .returned (.tuple #[v, .int .i64 (getL s m).2.1, .int .i64 (getL s m).2.2]) ∧ Owns w' 3 v (ints .i64 (getL s m).1) ∧ (∀ g, v.ownBlock = some g → w.heap.size ≤ g) ∧ Below w.heap.size w w' := by
  obtain ⟨i0, hi, hz0, hz1, hz2⟩ := info_partsL infoIntL
  obtain ⟨B, hB⟩ : ∃ B, B = w.heap.size := ⟨_, rfl⟩
  obtain ⟨z, hz⟩ : ∃ z, z = s.extract m s.size := ⟨_, rfl⟩
  have hzs : z.size = s.size - m := by rw [hz]; exact size_extract s m hm
  have t1 : decide ((m : Int) < 0) = false := decide_eq_false (by omega)
  have t2 : decide ((s.size : Int) < (m : Int)) = false := decide_eq_false (by omega)
  have HB := kept hB
  have HZ := kept hz
  rw [← hB]
  clear hB hz
  go_enter Try.func8, Try.ntmps8
  go_wp2_with fail
  rw [← HZ.out]
  refine (from_calls z w).mono ?_
  rintro e w1 ⟨p, rfl, hR, hb, hp⟩
  have HS : Kept (StG B w w1 p z 0 (.slice none 0 0) []) := kept ⟨hR, by rw [HB.out]; exact hp, Owns.nil _ _, fun g hg => by simp [Value.ownBlock] at hg, by rw [HB.out]; exact hb, by rw [HB.out]; exact hb.size⟩
  clear hR hb hp
  go_wp2_with fail
  go_loopw [4, 8] (fun s4 s8 wr => ∃ (v : Value) (acc : List Int) (h f : Nat), s4 = v ∧ s8 = .int .i64 (h : Int) ∧ StG B w wr p z h v acc ∧ parse z 66 0 [] = parse z f h acc ∧ 66 ≤ f + acc.length ∧ 1 ≤ f ∧ acc.length ≤ 80 ∧ h ≤ 2 * z.size ∧ (∀ x ∈ acc, 0 ≤ x ∧ x ≤ 15)) (fun s4 _ _ => 65 - sLen s4)
  case atStart => exact ⟨_, [], 0, 66, rfl, rfl, HS.out, rfl, by simp, by omega, by simp, by omega, fun x hx => by cases hx⟩
  case round =>
    obtain ⟨v, acc, h, f, rfl, rfl, hst, hpa, hf, hf1, hal, hh, hrg⟩ := hrel
    obtain ⟨av, cv, hv⟩ := sliceI hst.own
    subst hv
    obtain ⟨wq, rfl⟩ : ∃ wq, wq = wr := ⟨wr, rfl⟩
    by_cases h65 : acc.length < 65
    · obtain ⟨f, rfl⟩ : ∃ f', f = f' + 1 := ⟨f - 1, by omega⟩
      have hpe : parse z (f + 1) h acc = if z.size ≤ h / 2 then none else if 0 < nibAt z h then parse z f (h + 1) (acc ++ [(nibAt z h : Int)]) else if z.size ≤ (h + 1) / 2 then none else parse z f (h + 2) (acc ++ List.replicate (nibAt z (h + 1) + 1) 0) := by
        simp only [parse]; rw [if_neg (by omega)]
      have hget := get_new B p z (4 * h) 4 wq hst.sz hst.pB hst.rd (by omega) (by omega)
      rw [getS_four] at hget
      have HSt := kept hst
      have HAcc := kept hrg
      have HHs := kept hzs
      clear hst hrg HS
      by_cases hend : z.size ≤ h / 2
      · rw [if_pos hend] at hget hpe
        have hnone : parse s 66 (2 * m) [] = none := by
          have := parse_extract s m hm 66 0 []
          rw [Nat.add_zero, ← HZ.out, hpa, hpe] at this; exact this
        have HE : Kept (getL s (m : Int) = ([], 0, 2)) := kept (by unfold getL; rw [if_neg (by omega), Int.toNat_natCast, hnone])
        have HGet := kept hget
        clear hget hpe hpa hnone
        go_wp2_with (first | (go_at_call 17; refine HGet.out.mono ?_; rintro e w3 ⟨rfl, hR3, hb3, hc3⟩; have HB3 := kept (HSt.out.low.trans hb3); clear hR3 hb3 hc3))
        go_ret3
        exact ⟨_, by rw [HE.out]; rfl, by rw [HE.out]; exact Owns.nil _ _, fun g hg => by simp [Value.ownBlock] at hg, HB3.out⟩
      · rw [if_neg hend] at hget hpe
        obtain ⟨n, hn⟩ : ∃ n, n = nibAt z h := ⟨_, rfl⟩
        have hn16 : n < 16 := by rw [hn]; exact nibAt_lt z h
        rw [← hn] at hget hpe
        have HGet := kept hget
        clear hget
        by_cases hn0 : 0 < n
        · rw [if_pos hn0] at hpe
          have HPa : Kept (parse z 66 0 [] = parse z f (h + 1) (acc ++ List.replicate (0 + 1) (n : Int))) := kept (by rw [hpa, hpe]; rfl)
          have HRg : Kept (∀ x ∈ acc ++ List.replicate (0 + 1) (n : Int), 0 ≤ x ∧ x ≤ 15) := kept (fun x hx => by
            rcases List.mem_append.1 hx with hx | hx
            · exact HAcc.out x hx
            · have := (List.mem_replicate.1 hx).2; omega)
          have tn : ((n : Int) == 0) = false := by rw [beq_eq_false_iff_ne]; omega
          clear hpe hpa hn
          go_wp2_with fail
          refine HGet.out.mono ?_
          rintro e w3 ⟨rfl, hR3, hb3, hc3⟩
          have HS3 := kept (HSt.out.got hR3 hb3 hc3)
          clear hR3 hb3 hc3
          go_wp2_with fail
          go_loopw [4, 50] (fun s4 s50 wx => ∃ (vj : Value) (j : Nat), s4 = vj ∧ s50 = .int .u64 (j : Int) ∧ j ≤ 0 + 1 ∧ StG B w wx p z (h + 1) vj (acc ++ List.replicate j (n : Int))) (fun _ s50 _ => 0 + 1 - (intOf s50).toNat)
          case atStart => exact ⟨_, 0, rfl, rfl, by omega, by simpa using HS3.out⟩
          case round =>
            obtain ⟨_, j, rfl, rfl, hj, hst⟩ := hrel
            obtain ⟨aj, cj, hvj⟩ := sliceI hst.own
            subst hvj
            have hlv : (acc ++ List.replicate j (n : Int)).length = acc.length + j := by simp
            rw [hlv] at hst ⊢
            by_cases hjq : j < 0 + 1
            · have HSj := kept hst
              have hlj : (acc ++ List.replicate j (n : Int)).length ≤ 97 := by simp; omega
              have HLj := kept hlj
              clear hst hlj
              go_wp2_with (first | (at_builtin; go_loud (refine wpList_app1 rfl _ _ 22 rfl 3 i0 (.int .i64 0) 8 Try.underlying22 hi hz0 hz1 hz2 rfl (.slice aj (acc.length + j) cj) _ (.int .i64 (n : Int)) rfl HSj.out.own rfl rfl ?_ ?_ ?_)))
              · have := HLj.out; simp only [length_ints, maxLen]; omega
              · have := HLj.out; simp only [length_ints]; omega
              intro v5 w5 O5 C5 F5
              have e5 : ints .i64 (acc ++ List.replicate j (n : Int)) ++ [.int .i64 (n : Int)] = ints .i64 (acc ++ List.replicate (j + 1) (n : Int)) := by simp [ints, List.replicate_succ', ← List.append_assoc]
              rw [e5] at O5
              have HS5 := kept (HSj.out.app O5 C5 F5)
              clear O5 C5 F5 e5
              go_wp2_with fail
              go_roundw
              case rel => exact ⟨v5, j + 1, rfl, by go_num, by omega, HS5.out⟩
              case measure => simp [intOf]; omega
            · have hje : j = 0 + 1 := by omega
              subst hje
              have HSj := kept hst
              clear hst hjq
              go_wp2_with fail
              go_roundw
              case rel => exact ⟨_, _, h + 1, f, rfl, by go_num, HSj.out, HPa.out, by simp; omega, by omega, by simp; omega, by omega, HRg.out⟩
              case measure => simp [sLen]; omega
        · have hnz : n = 0 := by omega
          subst hnz
          rw [if_neg hn0] at hpe
          have HPe := kept hpe
          have HPa0 := kept hpa
          clear hpe hpa hn hn0
          go_wp2_with fail
          refine HGet.out.mono ?_
          rintro e w2 ⟨rfl, hR2, hb2, hc2⟩
          have HS2 := kept (HSt.out.got hR2 hb2 hc2)
          have hget2 := get_new B p z (4 * (h + 1)) 4 w2 HS2.out.sz HS2.out.pB HS2.out.rd (by omega) (by omega)
          rw [getS_four] at hget2
          have hpe := HPe.out
          have hpa := HPa0.out
          clear hR2 hb2 hc2
          by_cases hend2 : z.size ≤ (h + 1) / 2
          · rw [if_pos hend2] at hget2 hpe
            have hnone : parse s 66 (2 * m) [] = none := by
              have := parse_extract s m hm 66 0 []
              rw [Nat.add_zero, ← HZ.out, hpa, hpe] at this; exact this
            have HE : Kept (getL s (m : Int) = ([], 0, 2)) := kept (by unfold getL; rw [if_neg (by omega), Int.toNat_natCast, hnone])
            have HGet2 := kept hget2
            clear hget2 hpe hpa hnone
            go_wp2_with fail
            refine HGet2.out.mono ?_
            rintro e w3 ⟨rfl, hR3, hb3, hc3⟩
            have HB3 := kept (HS2.out.low.trans hb3)
            clear hR3 hb3 hc3
            go_wp2_with fail
            go_ret3
            exact ⟨_, by rw [HE.out]; rfl, by rw [HE.out]; exact Owns.nil _ _, fun g hg => by simp [Value.ownBlock] at hg, HB3.out⟩
          · rw [if_neg hend2] at hget2 hpe
            obtain ⟨q, hq⟩ : ∃ q, q = nibAt z (h + 1) := ⟨_, rfl⟩
            have hq16 : q < 16 := by rw [hq]; exact nibAt_lt z (h + 1)
            rw [← hq] at hget2 hpe
            have HPa : Kept (parse z 66 0 [] = parse z f (h + 2) (acc ++ List.replicate (q + 1) 0)) := kept (by rw [hpa, hpe])
            have HRg : Kept (∀ x ∈ acc ++ List.replicate (q + 1) 0, 0 ≤ x ∧ x ≤ 15) := kept (fun x hx => by
              rcases List.mem_append.1 hx with hx | hx
              · exact HAcc.out x hx
              · have := (List.mem_replicate.1 hx).2; omega)
            have HGet2 := kept hget2
            clear hget2 hpe hpa hq
            go_wp2_with fail
            refine HGet2.out.mono ?_
            rintro e w3 ⟨rfl, hR3, hb3, hc3⟩
            have HS3 := kept (HS2.out.got hR3 hb3 hc3)
            clear hR3 hb3 hc3
            go_wp2_with fail
            go_loopw [4, 50] (fun s4 s50 wx => ∃ (vj : Value) (j : Nat), s4 = vj ∧ s50 = .int .u64 (j : Int) ∧ j ≤ q + 1 ∧ StG B w wx p z (h + 1 + 1) vj (acc ++ List.replicate j 0)) (fun _ s50 _ => q + 1 - (intOf s50).toNat)
            case atStart => exact ⟨_, 0, rfl, rfl, by omega, by simpa using HS3.out⟩
            case round =>
              obtain ⟨_, j, rfl, rfl, hj, hst⟩ := hrel
              obtain ⟨aj, cj, hvj⟩ := sliceI hst.own
              subst hvj
              have hlv : (acc ++ List.replicate j (0 : Int)).length = acc.length + j := by simp
              rw [hlv] at hst ⊢
              by_cases hjq : j < q + 1
              · have HSj := kept hst
                have hlj : (acc ++ List.replicate j 0).length ≤ 97 := by simp; omega
                have HLj := kept hlj
                clear hst hlj
                go_wp2_with (first | (at_builtin; go_loud (refine wpList_app1 rfl _ _ 22 rfl 3 i0 (.int .i64 0) 8 Try.underlying22 hi hz0 hz1 hz2 rfl (.slice aj (acc.length + j) cj) _ (.int .i64 0) rfl HSj.out.own rfl rfl ?_ ?_ ?_)))
                · have := HLj.out; simp only [length_ints, maxLen]; omega
                · have := HLj.out; simp only [length_ints]; omega
                intro v5 w5 O5 C5 F5
                have e5 : ints .i64 (acc ++ List.replicate j 0) ++ [.int .i64 0] = ints .i64 (acc ++ List.replicate (j + 1) 0) := by simp [ints, List.replicate_succ', ← List.append_assoc]
                rw [e5] at O5
                have HS5 := kept (HSj.out.app O5 C5 F5)
                clear O5 C5 F5 e5
                go_wp2_with fail
                go_roundw
                case rel => exact ⟨v5, j + 1, rfl, by go_num, by omega, HS5.out⟩
                case measure => simp [intOf]; omega
              · have hje : j = q + 1 := by omega
                subst hje
                have HSj := kept hst
                clear hst hjq
                go_wp2_with fail
                go_roundw
                case rel => exact ⟨_, _, h + 1 + 1, f, rfl, by go_num, HSj.out, HPa.out, by simp; omega, by omega, by simp; omega, by omega, HRg.out⟩
                case measure => simp [sLen]; omega
    · have hpe : parse z f h acc = some (acc, h) := by
        obtain ⟨f, rfl⟩ : ∃ f', f = f' + 1 := ⟨f - 1, by omega⟩
        simp only [parse]; rw [if_pos (by omega)]
      have hsome : parse s 66 (2 * m) [] = some (acc, 2 * m + h) := by
        have := parse_extract s m hm 66 0 []
        rw [Nat.add_zero, ← HZ.out, hpa, hpe] at this; exact this
      have hcv : acc.length ≤ cv := by
        obtain ⟨a2, c2, hv2, h1, h2, _⟩ := hst.own.rd
        simp only [Value.slice.injEq, length_ints] at hv2 h1
        obtain ⟨_, _, rfl⟩ := hv2; exact h1
      have hCn : ∀ n : Lat wq, Kd.C (Kd.int .i64) n.w av acc.length acc := fun n => C_of_rd (hst.own.rd.later n.below)
      obtain ⟨k, hk⟩ := (may_is acc).rounds
      have hMay : ∀ n : Lat wq, Calls Try.prog 18 #[.slice av acc.length cv] n.w fun e w' => e = .returned (.bool (mayL acc)) ∧ Below n.w.heap.size n.w w' := fun n =>
        (canon_May.calls k av cv acc _ n.w (hCn n) hcv hk).mono fun e w' ⟨he, hd⟩ => ⟨he, hd.below⟩
      have hPut : ∀ n : Lat wq, Calls Try.prog 10 #[.slice av acc.length cv] n.w fun e w' => e = .returned (.string (putL acc)) ∧ Below n.w.heap.size n.w w' := fun n =>
        lput_calls av cv acc n.w (hCn n) hcv
      have HSome := kept hsome
      have HMay := kept hMay
      have HPut := kept hPut
      have HSt := kept hst
      clear hpe hpa hsome hCn hMay hPut hst hk hcv
      go_upto_region 21 with fail
      by_cases hgt : 65 < acc.length
      · have tg : decide (65 < (acc.length : Int)) = true := decide_eq_true (by omega)
        refine wp_region_quietL (by kernel_rfl) (by kernel_rfl) ?_
        repeat (go_big_quiet_step (fail))
        refine wpQuiet_nil ?_
        intro nq
        have HE : Kept (getL s (m : Int) = ([], 0, 3)) := kept (by unfold getL; rw [if_neg (by omega), Int.toNat_natCast, HSome.out]; simp only; rw [if_neg (by omega)])
        go_wp2_with fail
        go_ret3
        exact ⟨_, by rw [HE.out]; rfl, by rw [HE.out]; exact Owns.nil _ _, fun g hg => by simp [Value.ownBlock] at hg, HSt.out.low.trans (nq.below.mono HSt.out.sz)⟩
      · have hl65 : acc.length = 65 := by omega
        have tg : decide (65 < (acc.length : Int)) = false := decide_eq_false (by omega)
        have HL65 := kept hl65
        clear hl65
        cases hml : mayL acc with
        | false =>
          rw [hml] at HMay
          have HE : Kept (getL s (m : Int) = ([], 0, 3)) := kept (by unfold getL; rw [if_neg (by omega), Int.toNat_natCast, HSome.out]; simp only; rw [if_neg (by rw [hml]; simp)])
          clear hml
          refine wp_region_quietL (by kernel_rfl) (by kernel_rfl) ?_
          repeat (go_big_quiet_step (first | (go_at_call 18; exact lat_call (HMay.out _))))
          refine wpQuiet_nil ?_
          intro nq
          go_wp2_with fail
          go_ret3
          exact ⟨_, by rw [HE.out]; rfl, by rw [HE.out]; exact Owns.nil _ _, fun g hg => by simp [Value.ownBlock] at hg, HSt.out.low.trans (nq.below.mono HSt.out.sz)⟩
        | true =>
          rw [hml] at HMay
          obtain ⟨T, hT⟩ : ∃ T, T = putL acc := ⟨_, rfl⟩
          rw [← hT] at HPut
          have HML := kept hml
          have HT := kept hT
          clear hml hT
          refine wp_region_quietL (by kernel_rfl) (by kernel_rfl) ?_
          repeat (go_big_quiet_step (first | (go_at_call 18; exact lat_call (HMay.out _)) | (go_at_call 10; exact lat_call (HPut.out _))))
          refine wpQuiet_nil ?_
          intro nq
          have hix : (2 * m + h + 1) / 2 = m + (h + 1) / 2 := by omega
          by_cases heq : T.toList = (s.extract m (m + (h + 1) / 2)).toList
          · have te : (T.toList == (s.extract m (m + (h + 1) / 2)).toList) = true := by rw [beq_iff_eq]; exact heq
            have HE : Kept (getL s (m : Int) = (acc, ((m + (h + 1) / 2 : Nat) : Int), 0)) := kept (by
              unfold getL; rw [if_neg (by omega), Int.toNat_natCast, HSome.out]; simp only
              rw [hix, if_pos ⟨HL65.out, HML.out, by rw [← HT.out]; exact heq⟩])
            have HTe := kept te
            clear hix heq te
            rw [HTe.out]
            go_wp2_with fail
            go_ret3
            have hl := HSt.out.own.keep (w' := nq.w) fun g _ hg => nq.below.block g hg
            exact ⟨_, by rw [HE.out]; rfl, by rw [HE.out]; exact hl, HSt.out.new, HSt.out.low.trans (nq.below.mono HSt.out.sz)⟩
          · have te : (T.toList == (s.extract m (m + (h + 1) / 2)).toList) = false := by rw [beq_eq_false_iff_ne]; exact heq
            have HE : Kept (getL s (m : Int) = ([], 0, 3)) := kept (by
              unfold getL; rw [if_neg (by omega), Int.toNat_natCast, HSome.out]; simp only
              rw [hix, if_neg (fun h => heq (by rw [HT.out]; exact h.2.2))])
            have HTe := kept te
            clear hix heq te
            rw [HTe.out]
            go_wp2_with fail
            go_ret3
            exact ⟨_, by rw [HE.out]; rfl, by rw [HE.out]; exact Owns.nil _ _, fun g hg => by simp [Value.ownBlock] at hg, HSt.out.low.trans (nq.below.mono HSt.out.sz)⟩
end Go.Proofs.Ytkplcibmhibjjaa.PA

-- ---- PAx7
/- lens.Get: what the call answers, for every text and place. Conditions: the text is not longer than a thousand million bytes. -/
namespace Go.Proofs.Ytkplcibmhibjjaa.PA
open Go.RowKit Go.Proofs.YtkplcibmhibjjaaW.PrintWords Go.Proofs.YtkplcibmhibjjaaW.PrintLast Go.Proofs.YtkplcibmhibjjaaW.PrintMore
set_option linter.unusedVariables false
set_option linter.unusedSimpArgs false

def lens_Get.f (a0 : ByteArray) (a1 : Int) : Option (List Int × Int × Int) := if a0.size ≤ 1000000000 then some (Lp.getL a0 a1) else none
theorem lens_Get.calls (a0 : ByteArray) (a1 : Int) (r1 : List Int) (r2 : Int) (r3 : Int) (w : World) (h : lens_Get.f a0 a1 = some (r1, r2, r3)) :
    Calls Try.prog 8 #[.string a0, .int .i64 a1] w fun e w' => ∃ v0_ : Value, e = .returned (.tuple #[v0_, .int .i64 r2, .int .i64 r3]) ∧ Kd.R (Kd.int .i64) 3 w' w.heap.size (fun _ => True) v0_ r1 ∧ Below w.heap.size w w' := by
  unfold lens_Get.f at h
  split at h
  · rename_i hs
    have h := Option.some.inj h
    by_cases ha : a1 < 0 ∨ (a0.size : Int) < a1
    · have e : Lp.getL a0 a1 = ([], 0, 1) := by unfold Lp.getL; rw [if_pos ha]
      rw [e] at h
      cases h
      refine (lget_arg a0 a1 w hs ha).mono ?_
      rintro e w' ⟨rfl, rfl⟩
      exact ⟨_, rfl, Kd.R_nil _ _ _ _ _, Below.refl _ _⟩
    · obtain ⟨m, rfl⟩ := Int.eq_ofNat_of_zero_le (show 0 ≤ a1 by omega)
      have hg := lget_calls a0 m w hs (by omega)
      rw [h] at hg
      refine hg.mono ?_
      rintro e w' ⟨v, rfl, ho, hnew, hb⟩
      exact ⟨v, rfl, Own.R_of_owns ho hnew, hb⟩
  · cases h
end Go.Proofs.Ytkplcibmhibjjaa.PA

-- ---- PAx8

namespace Go.Proofs.Ytkplcibmhibjjaa.PA
open Go.RowKit Go.Proofs.YtkplcibmhibjjaaW.PrintWords Go.Proofs.YtkplcibmhibjjaaW.PrintLast Go.Proofs.YtkplcibmhibjjaaW.PrintMore
attribute [local go_sem] max2_int min2_int max_two min_two max_three min_three max_four min_four   -- for this text's walks alone
set_option linter.unusedVariables false
set_option linter.unusedSimpArgs false

/-! ### wringerlaw1_Err: function 13 -/
def wringerlaw1_Err.f (a0 : Int) : Option (Int) := some a0
set_option maxHeartbeats 8000000 in
set_option maxRecDepth 100000 in
theorem wringerlaw1_Err.calls (a0 : Int) (r : Int) (w : World) (h : wringerlaw1_Err.f a0 = some r) :
    Calls Try.prog 13 #[.int .i64 a0] w fun e w' => e = .returned (.int .i64 r) ∧ Drawn0 w w' := by
  have H : (some a0) = some r := h
  clear h
  obtain rfl := Option.some.inj H
  go_enter Try.func13, Try.ntmps13
  go_wp2
  go_ret
  exact ⟨by first | rfl | (simp; done) | (simp [*]; done), by repeat (first | exact Drawn0.refl _ | apply Drawn0.step)⟩

end Go.Proofs.Ytkplcibmhibjjaa.PA

-- ---- PAx9

namespace Go.Proofs.Ytkplcibmhibjjaa.PA
open Go.RowKit Go.Proofs.YtkplcibmhibjjaaW.PrintWords Go.Proofs.YtkplcibmhibjjaaW.PrintLast Go.Proofs.YtkplcibmhibjjaaW.PrintMore
attribute [local go_sem] max2_int min2_int max_two min_two max_three min_three max_four min_four   -- for this text's walks alone
set_option linter.unusedVariables false
set_option linter.unusedSimpArgs false

/-! ### wringerlaw10_awake: function 7 -/
def wringerlaw10_awake.f  : Option (Bool) := (lens_Get.f (⟨#[240, 240, 240, 240, 0]⟩ : ByteArray) 0).bind fun bt114 => (if 65 ≤ 35184372088832 then ((lens_Put.f (List.replicate 65 0)).bind fun t122 => (if t122.toList = ([240, 240, 240, 240, 0] : List UInt8) then (if (bt114.1.length : Int) = 65 then (if bt114.2.1 = 5 then ((wringerlaw1_Err.f bt114.2.2).bind fun t123 => (some (t123 == 0))) else (some false)) else (some false)) else (some false))) else (none))
set_option maxHeartbeats 8000000 in
set_option maxRecDepth 100000 in
theorem wringerlaw10_awake.calls  (r : Bool) (w : World) (h : wringerlaw10_awake.f  = some r) :
    Calls Try.prog 7 #[] w fun e w' => e = .returned (.bool r) ∧ Below w.heap.size w w' := by
  have HB := Aside0.mk (Below.refl w.heap.size w)
  have H : ((lens_Get.f (⟨#[240, 240, 240, 240, 0]⟩ : ByteArray) 0).bind fun bt114 => (if 65 ≤ 35184372088832 then ((lens_Put.f (List.replicate 65 0)).bind fun t122 => (if t122.toList = ([240, 240, 240, 240, 0] : List UInt8) then (if (bt114.1.length : Int) = 65 then (if bt114.2.1 = 5 then ((wringerlaw1_Err.f bt114.2.2).bind fun t123 => (some (t123 == 0))) else (some false)) else (some false)) else (some false))) else (none))) = some r := h
  clear h
  replace H := Option.bind_eq_some_iff.mp H
  obtain ⟨⟨t114, t115, t116⟩, A10, H⟩ := H
  replace H : (if 65 ≤ 35184372088832 then ((lens_Put.f (List.replicate 65 0)).bind fun t122 => (if t122.toList = ([240, 240, 240, 240, 0] : List UInt8) then (if (t114.length : Int) = 65 then (if t115 = 5 then ((wringerlaw1_Err.f t116).bind fun t123 => (some (t123 == 0))) else (some false)) else (some false)) else (some false))) else (none)) = some r := H
  have A1 := Aside0.mk A10
  clear A10
  by_cases c2 : 65 ≤ 35184372088832
  · rw [if_pos c2] at H
    have c2b0 := eq_true c2
    have c2b1 : decide (65 ≤ 35184372088832) = true := decide_eq_true c2
    clear c2
    obtain ⟨y119, hy119⟩ : ∃ y_ : List Int, y_ = (List.replicate 65 0) := ⟨_, rfl⟩
    replace H : ((lens_Put.f y119).bind fun t122 => (if t122.toList = ([240, 240, 240, 240, 0] : List UInt8) then (if (t114.length : Int) = 65 then (if t115 = 5 then ((wringerlaw1_Err.f t116).bind fun t123 => (some (t123 == 0))) else (some false)) else (some false)) else (some false))) = some r := by first | (rw [hy119]; with_reducible exact H) | (have H2_ := (Option.bind_some _ _).symm.trans H; rw [hy119]; with_reducible exact H2_) | (have H2_ := (Option.bind_some _ _).symm.trans H; with_reducible exact H2_) | with_reducible exact H | (rw [hy119]; exact H) | exact H
    have Ny119 := Aside0.mk hy119
    clear hy119
    replace H := Option.bind_eq_some_iff.mp H
    obtain ⟨t122, A30, H⟩ := H
    replace H : (if t122.toList = ([240, 240, 240, 240, 0] : List UInt8) then (if (t114.length : Int) = 65 then (if t115 = 5 then ((wringerlaw1_Err.f t116).bind fun t123 => (some (t123 == 0))) else (some false)) else (some false)) else (some false)) = some r := H
    have A3 := Aside0.mk A30
    clear A30
    by_cases c4 : t122.toList = ([240, 240, 240, 240, 0] : List UInt8)
    · rw [if_pos c4] at H
      have c4b0 : (t122.toList == ([240, 240, 240, 240, 0] : List UInt8)) = true := beq_iff_eq.mpr c4
      have c4b1 : (t122.toList != ([240, 240, 240, 240, 0] : List UInt8)) = false := bne_eq_false_iff_eq.mpr c4
      clear c4
      by_cases c5 : (t114.length : Int) = 65
      · rw [if_pos c5] at H
        have c5b0 : ((t114.length : Int) == 65) = true := beq_iff_eq.mpr c5
        have c5b1 : ((t114.length : Int) != 65) = false := bne_eq_false_iff_eq.mpr c5
        clear c5
        by_cases c6 : t115 = 5
        · rw [if_pos c6] at H
          have c6b0 : (t115 == 5) = true := beq_iff_eq.mpr c6
          have c6b1 : (t115 != 5) = false := bne_eq_false_iff_eq.mpr c6
          clear c6
          replace H := Option.bind_eq_some_iff.mp H
          obtain ⟨t123, A70, H⟩ := H
          replace H : (some (t123 == 0)) = some r := H
          have A7 := Aside0.mk A70
          clear A70
          obtain rfl := Option.some.inj H
          go_enter Try.func7, Try.ntmps7
          go_wp2_with (first | ((with_reducible refine gate_callee (f := 8) rfl ?_); refine goesL_ (some 5) rfl rfl Try.func8 (by kernel_rfl) rfl #[.string (⟨#[240, 240, 240, 240, 0]⟩ : ByteArray), .int .i64 0] rfl (by (try simp only [List.map_toArray, List.map_cons, List.map_nil]); first | done | rfl | (simp only [List.length_drop, List.length_take]; rfl)) ?_; (with_reducible refine (lens_Get.calls (⟨#[240, 240, 240, 240, 0]⟩ : ByteArray) 0 t114 t115 t116 _ A1.out).mono ?_); rintro e w8 ⟨v117, rfl, ho0, hb⟩; refine ⟨_, rfl, ?_⟩; have n0_ := Aside0.mk (Kd.R_lower ho0 (below_size (by repeat (first | (with_reducible first | exact HB.out | apply below_alloc | apply pw_below_drewN | apply below_drew1) | exact HB.out)))); have n1_ := Aside0.mk (below_step (by repeat (first | (with_reducible first | exact HB.out | apply below_alloc | apply pw_below_drewN | apply below_drew1) | exact HB.out)) hb); clear HB; have HO118 := n0_; have HB := n1_; clear n0_ n1_; (try clear hb); (try clear hb2); (try clear hk); (try clear hi); (try clear ho0)) | ((with_reducible refine gate_dst (N := 9) rfl ?_); (try (refine gate_guard (by rfl) ?_; dsimp only)); refine Kd.R_make (Kd.int .i64) _ 3 rfl (N := 9) rfl 22 _ _ rfl 65 rfl rfl Try.underlying22 (.int .i64 0) 8 info3 rfl (by decide) (by omega) 0 (ok := fun _ => True) (okp := fun _ => True) rfl (fun _ hk => hk) trivial (by omega) (by omega) (Below.refl _ _) (Nat.le_refl _) ?_; intro v120 w9 ho10 hb hg_ hnew_; clear hg_ hnew_; (first | rw [← Ny119.out] at ho10 | (simp only [Int.reduceToNat] at ho10; rw [← Ny119.out] at ho10)); have n0_ := Aside0.mk (Kd.R_elder' (by (with_reducible repeat (first | apply Kd.R_alloc | apply Kd.R_drewN | apply Kd.R_drew)); exact HO118.out) (Kd.R_base ho10) hb); have n1_ := Aside0.mk (Kd.R_lower (Kd.R_new' ho10 (Kd.R_lt (by (with_reducible repeat (first | apply Kd.R_alloc | apply Kd.R_drewN | apply Kd.R_drew)); exact HO118.out))) (below_size (by repeat (first | (with_reducible first | exact HB.out | apply below_alloc | apply pw_below_drewN | apply below_drew1) | exact HB.out)))); have n2_ := Aside0.mk (below_step (by repeat (first | (with_reducible first | exact HB.out | apply below_alloc | apply pw_below_drewN | apply below_drew1) | exact HB.out)) hb); clear HO118; clear HB; have HO118 := n0_; have HO121 := n1_; have HB := n2_; clear n0_ n1_ n2_; clear hb ho10; obtain ⟨Ao11, co11, eo11⟩ := Kd.R_slice HO121.out; subst eo11) | ((with_reducible refine gate_callee (f := 10) rfl ?_); refine goesL_ (some 10) rfl rfl Try.func10 (by kernel_rfl) rfl #[.slice Ao11 y119.length co11] rfl (by (try simp only [List.map_toArray, List.map_cons, List.map_nil]); first | done | rfl | (simp only [List.length_drop, List.length_take]; rfl)) ?_; (with_reducible refine (lens_Put.calls _ _ y119 t122 _ ?side1 ?side2 A3.out).mono ?_); (case side1 => repeat (first | exact (Kd.R_reads' HO121.out).2.2 | (with_reducible refine Kd.C_alloc ?_ _) | (with_reducible refine Kd.C_drewN ?_ _) | (with_reducible refine Kd.C_drew ?_))); (case side2 => exact (Kd.R_reads' HO121.out).2.1); rintro e w12 ⟨rfl, hb⟩; refine ⟨_, rfl, ?_⟩; have n0_ := Aside0.mk (Kd.R_below (by (with_reducible repeat (first | apply Kd.R_alloc | apply Kd.R_drewN | apply Kd.R_drew)); exact HO118.out) hb); have n1_ := Aside0.mk (Kd.R_below (by (with_reducible repeat (first | apply Kd.R_alloc | apply Kd.R_drewN | apply Kd.R_drew)); exact HO121.out) hb); have n2_ := Aside0.mk (below_step (by repeat (first | (with_reducible first | exact HB.out | apply below_alloc | apply pw_below_drewN | apply below_drew1) | exact HB.out)) hb); clear HO118; clear HO121; clear HB; have HO118 := n0_; have HO121 := n1_; have HB := n2_; clear n0_ n1_ n2_; (try clear hb); (try clear hb2); (try clear hk); (try clear hi); obtain ⟨Ao13, co13, eo13⟩ := Kd.R_slice HO118.out; subst eo13) | (go_at_call 13; (with_reducible refine (wringerlaw1_Err.calls t116 t123 _ A7.out).mono ?_); rintro e w' ⟨rfl, ⟨nd, rfl⟩⟩))
          go_ret
          exact ⟨by first | rfl | (simp [errW_none, errW_some] <;> rfl) | (simp [*, errW_none, errW_some] <;> rfl), by repeat (first | (with_reducible first | exact HB.out | apply below_alloc | apply pw_below_drewN | apply below_drew1) | exact HB.out)⟩
        · rw [if_neg c6] at H
          have c6b0 : (t115 == 5) = false := beq_eq_false_iff_ne.mpr c6
          have c6b1 : (t115 != 5) = true := bne_iff_ne.mpr c6
          obtain rfl := Option.some.inj H
          go_enter Try.func7, Try.ntmps7
          go_wp2_with (first | ((with_reducible refine gate_callee (f := 8) rfl ?_); refine goesL_ (some 5) rfl rfl Try.func8 (by kernel_rfl) rfl #[.string (⟨#[240, 240, 240, 240, 0]⟩ : ByteArray), .int .i64 0] rfl (by (try simp only [List.map_toArray, List.map_cons, List.map_nil]); first | done | rfl | (simp only [List.length_drop, List.length_take]; rfl)) ?_; (with_reducible refine (lens_Get.calls (⟨#[240, 240, 240, 240, 0]⟩ : ByteArray) 0 t114 t115 t116 _ A1.out).mono ?_); rintro e w14 ⟨v117, rfl, ho0, hb⟩; refine ⟨_, rfl, ?_⟩; have n0_ := Aside0.mk (Kd.R_lower ho0 (below_size (by repeat (first | (with_reducible first | exact HB.out | apply below_alloc | apply pw_below_drewN | apply below_drew1) | exact HB.out)))); have n1_ := Aside0.mk (below_step (by repeat (first | (with_reducible first | exact HB.out | apply below_alloc | apply pw_below_drewN | apply below_drew1) | exact HB.out)) hb); clear HB; have HO118 := n0_; have HB := n1_; clear n0_ n1_; (try clear hb); (try clear hb2); (try clear hk); (try clear hi); (try clear ho0)) | ((with_reducible refine gate_dst (N := 9) rfl ?_); (try (refine gate_guard (by rfl) ?_; dsimp only)); refine Kd.R_make (Kd.int .i64) _ 3 rfl (N := 9) rfl 22 _ _ rfl 65 rfl rfl Try.underlying22 (.int .i64 0) 8 info3 rfl (by decide) (by omega) 0 (ok := fun _ => True) (okp := fun _ => True) rfl (fun _ hk => hk) trivial (by omega) (by omega) (Below.refl _ _) (Nat.le_refl _) ?_; intro v120 w15 ho16 hb hg_ hnew_; clear hg_ hnew_; (first | rw [← Ny119.out] at ho16 | (simp only [Int.reduceToNat] at ho16; rw [← Ny119.out] at ho16)); have n0_ := Aside0.mk (Kd.R_elder' (by (with_reducible repeat (first | apply Kd.R_alloc | apply Kd.R_drewN | apply Kd.R_drew)); exact HO118.out) (Kd.R_base ho16) hb); have n1_ := Aside0.mk (Kd.R_lower (Kd.R_new' ho16 (Kd.R_lt (by (with_reducible repeat (first | apply Kd.R_alloc | apply Kd.R_drewN | apply Kd.R_drew)); exact HO118.out))) (below_size (by repeat (first | (with_reducible first | exact HB.out | apply below_alloc | apply pw_below_drewN | apply below_drew1) | exact HB.out)))); have n2_ := Aside0.mk (below_step (by repeat (first | (with_reducible first | exact HB.out | apply below_alloc | apply pw_below_drewN | apply below_drew1) | exact HB.out)) hb); clear HO118; clear HB; have HO118 := n0_; have HO121 := n1_; have HB := n2_; clear n0_ n1_ n2_; clear hb ho16; obtain ⟨Ao17, co17, eo17⟩ := Kd.R_slice HO121.out; subst eo17) | ((with_reducible refine gate_callee (f := 10) rfl ?_); refine goesL_ (some 10) rfl rfl Try.func10 (by kernel_rfl) rfl #[.slice Ao17 y119.length co17] rfl (by (try simp only [List.map_toArray, List.map_cons, List.map_nil]); first | done | rfl | (simp only [List.length_drop, List.length_take]; rfl)) ?_; (with_reducible refine (lens_Put.calls _ _ y119 t122 _ ?side1 ?side2 A3.out).mono ?_); (case side1 => repeat (first | exact (Kd.R_reads' HO121.out).2.2 | (with_reducible refine Kd.C_alloc ?_ _) | (with_reducible refine Kd.C_drewN ?_ _) | (with_reducible refine Kd.C_drew ?_))); (case side2 => exact (Kd.R_reads' HO121.out).2.1); rintro e w18 ⟨rfl, hb⟩; refine ⟨_, rfl, ?_⟩; have n0_ := Aside0.mk (Kd.R_below (by (with_reducible repeat (first | apply Kd.R_alloc | apply Kd.R_drewN | apply Kd.R_drew)); exact HO118.out) hb); have n1_ := Aside0.mk (Kd.R_below (by (with_reducible repeat (first | apply Kd.R_alloc | apply Kd.R_drewN | apply Kd.R_drew)); exact HO121.out) hb); have n2_ := Aside0.mk (below_step (by repeat (first | (with_reducible first | exact HB.out | apply below_alloc | apply pw_below_drewN | apply below_drew1) | exact HB.out)) hb); clear HO118; clear HO121; clear HB; have HO118 := n0_; have HO121 := n1_; have HB := n2_; clear n0_ n1_ n2_; (try clear hb); (try clear hb2); (try clear hk); (try clear hi); obtain ⟨Ao19, co19, eo19⟩ := Kd.R_slice HO118.out; subst eo19))
          go_ret
          exact ⟨by first | rfl | (simp [errW_none, errW_some] <;> rfl) | (simp [*, errW_none, errW_some] <;> rfl), by repeat (first | (with_reducible first | exact HB.out | apply below_alloc | apply pw_below_drewN | apply below_drew1) | exact HB.out)⟩
      · rw [if_neg c5] at H
        have c5b0 : ((t114.length : Int) == 65) = false := beq_eq_false_iff_ne.mpr c5
        have c5b1 : ((t114.length : Int) != 65) = true := bne_iff_ne.mpr c5
        obtain rfl := Option.some.inj H
        go_enter Try.func7, Try.ntmps7
        go_wp2_with (first | ((with_reducible refine gate_callee (f := 8) rfl ?_); refine goesL_ (some 5) rfl rfl Try.func8 (by kernel_rfl) rfl #[.string (⟨#[240, 240, 240, 240, 0]⟩ : ByteArray), .int .i64 0] rfl (by (try simp only [List.map_toArray, List.map_cons, List.map_nil]); first | done | rfl | (simp only [List.length_drop, List.length_take]; rfl)) ?_; (with_reducible refine (lens_Get.calls (⟨#[240, 240, 240, 240, 0]⟩ : ByteArray) 0 t114 t115 t116 _ A1.out).mono ?_); rintro e w20 ⟨v117, rfl, ho0, hb⟩; refine ⟨_, rfl, ?_⟩; have n0_ := Aside0.mk (Kd.R_lower ho0 (below_size (by repeat (first | (with_reducible first | exact HB.out | apply below_alloc | apply pw_below_drewN | apply below_drew1) | exact HB.out)))); have n1_ := Aside0.mk (below_step (by repeat (first | (with_reducible first | exact HB.out | apply below_alloc | apply pw_below_drewN | apply below_drew1) | exact HB.out)) hb); clear HB; have HO118 := n0_; have HB := n1_; clear n0_ n1_; (try clear hb); (try clear hb2); (try clear hk); (try clear hi); (try clear ho0)) | ((with_reducible refine gate_dst (N := 9) rfl ?_); (try (refine gate_guard (by rfl) ?_; dsimp only)); refine Kd.R_make (Kd.int .i64) _ 3 rfl (N := 9) rfl 22 _ _ rfl 65 rfl rfl Try.underlying22 (.int .i64 0) 8 info3 rfl (by decide) (by omega) 0 (ok := fun _ => True) (okp := fun _ => True) rfl (fun _ hk => hk) trivial (by omega) (by omega) (Below.refl _ _) (Nat.le_refl _) ?_; intro v120 w21 ho22 hb hg_ hnew_; clear hg_ hnew_; (first | rw [← Ny119.out] at ho22 | (simp only [Int.reduceToNat] at ho22; rw [← Ny119.out] at ho22)); have n0_ := Aside0.mk (Kd.R_elder' (by (with_reducible repeat (first | apply Kd.R_alloc | apply Kd.R_drewN | apply Kd.R_drew)); exact HO118.out) (Kd.R_base ho22) hb); have n1_ := Aside0.mk (Kd.R_lower (Kd.R_new' ho22 (Kd.R_lt (by (with_reducible repeat (first | apply Kd.R_alloc | apply Kd.R_drewN | apply Kd.R_drew)); exact HO118.out))) (below_size (by repeat (first | (with_reducible first | exact HB.out | apply below_alloc | apply pw_below_drewN | apply below_drew1) | exact HB.out)))); have n2_ := Aside0.mk (below_step (by repeat (first | (with_reducible first | exact HB.out | apply below_alloc | apply pw_below_drewN | apply below_drew1) | exact HB.out)) hb); clear HO118; clear HB; have HO118 := n0_; have HO121 := n1_; have HB := n2_; clear n0_ n1_ n2_; clear hb ho22; obtain ⟨Ao23, co23, eo23⟩ := Kd.R_slice HO121.out; subst eo23) | ((with_reducible refine gate_callee (f := 10) rfl ?_); refine goesL_ (some 10) rfl rfl Try.func10 (by kernel_rfl) rfl #[.slice Ao23 y119.length co23] rfl (by (try simp only [List.map_toArray, List.map_cons, List.map_nil]); first | done | rfl | (simp only [List.length_drop, List.length_take]; rfl)) ?_; (with_reducible refine (lens_Put.calls _ _ y119 t122 _ ?side1 ?side2 A3.out).mono ?_); (case side1 => repeat (first | exact (Kd.R_reads' HO121.out).2.2 | (with_reducible refine Kd.C_alloc ?_ _) | (with_reducible refine Kd.C_drewN ?_ _) | (with_reducible refine Kd.C_drew ?_))); (case side2 => exact (Kd.R_reads' HO121.out).2.1); rintro e w24 ⟨rfl, hb⟩; refine ⟨_, rfl, ?_⟩; have n0_ := Aside0.mk (Kd.R_below (by (with_reducible repeat (first | apply Kd.R_alloc | apply Kd.R_drewN | apply Kd.R_drew)); exact HO118.out) hb); have n1_ := Aside0.mk (Kd.R_below (by (with_reducible repeat (first | apply Kd.R_alloc | apply Kd.R_drewN | apply Kd.R_drew)); exact HO121.out) hb); have n2_ := Aside0.mk (below_step (by repeat (first | (with_reducible first | exact HB.out | apply below_alloc | apply pw_below_drewN | apply below_drew1) | exact HB.out)) hb); clear HO118; clear HO121; clear HB; have HO118 := n0_; have HO121 := n1_; have HB := n2_; clear n0_ n1_ n2_; (try clear hb); (try clear hb2); (try clear hk); (try clear hi); obtain ⟨Ao25, co25, eo25⟩ := Kd.R_slice HO118.out; subst eo25))
        go_ret
        exact ⟨by first | rfl | (simp [errW_none, errW_some] <;> rfl) | (simp [*, errW_none, errW_some] <;> rfl), by repeat (first | (with_reducible first | exact HB.out | apply below_alloc | apply pw_below_drewN | apply below_drew1) | exact HB.out)⟩
    · rw [if_neg c4] at H
      have c4b0 : (t122.toList == ([240, 240, 240, 240, 0] : List UInt8)) = false := beq_eq_false_iff_ne.mpr c4
      have c4b1 : (t122.toList != ([240, 240, 240, 240, 0] : List UInt8)) = true := bne_iff_ne.mpr c4
      obtain rfl := Option.some.inj H
      go_enter Try.func7, Try.ntmps7
      go_wp2_with (first | ((with_reducible refine gate_callee (f := 8) rfl ?_); refine goesL_ (some 5) rfl rfl Try.func8 (by kernel_rfl) rfl #[.string (⟨#[240, 240, 240, 240, 0]⟩ : ByteArray), .int .i64 0] rfl (by (try simp only [List.map_toArray, List.map_cons, List.map_nil]); first | done | rfl | (simp only [List.length_drop, List.length_take]; rfl)) ?_; (with_reducible refine (lens_Get.calls (⟨#[240, 240, 240, 240, 0]⟩ : ByteArray) 0 t114 t115 t116 _ A1.out).mono ?_); rintro e w26 ⟨v117, rfl, ho0, hb⟩; refine ⟨_, rfl, ?_⟩; have n0_ := Aside0.mk (Kd.R_lower ho0 (below_size (by repeat (first | (with_reducible first | exact HB.out | apply below_alloc | apply pw_below_drewN | apply below_drew1) | exact HB.out)))); have n1_ := Aside0.mk (below_step (by repeat (first | (with_reducible first | exact HB.out | apply below_alloc | apply pw_below_drewN | apply below_drew1) | exact HB.out)) hb); clear HB; have HO118 := n0_; have HB := n1_; clear n0_ n1_; (try clear hb); (try clear hb2); (try clear hk); (try clear hi); (try clear ho0)) | ((with_reducible refine gate_dst (N := 9) rfl ?_); (try (refine gate_guard (by rfl) ?_; dsimp only)); refine Kd.R_make (Kd.int .i64) _ 3 rfl (N := 9) rfl 22 _ _ rfl 65 rfl rfl Try.underlying22 (.int .i64 0) 8 info3 rfl (by decide) (by omega) 0 (ok := fun _ => True) (okp := fun _ => True) rfl (fun _ hk => hk) trivial (by omega) (by omega) (Below.refl _ _) (Nat.le_refl _) ?_; intro v120 w27 ho28 hb hg_ hnew_; clear hg_ hnew_; (first | rw [← Ny119.out] at ho28 | (simp only [Int.reduceToNat] at ho28; rw [← Ny119.out] at ho28)); have n0_ := Aside0.mk (Kd.R_elder' (by (with_reducible repeat (first | apply Kd.R_alloc | apply Kd.R_drewN | apply Kd.R_drew)); exact HO118.out) (Kd.R_base ho28) hb); have n1_ := Aside0.mk (Kd.R_lower (Kd.R_new' ho28 (Kd.R_lt (by (with_reducible repeat (first | apply Kd.R_alloc | apply Kd.R_drewN | apply Kd.R_drew)); exact HO118.out))) (below_size (by repeat (first | (with_reducible first | exact HB.out | apply below_alloc | apply pw_below_drewN | apply below_drew1) | exact HB.out)))); have n2_ := Aside0.mk (below_step (by repeat (first | (with_reducible first | exact HB.out | apply below_alloc | apply pw_below_drewN | apply below_drew1) | exact HB.out)) hb); clear HO118; clear HB; have HO118 := n0_; have HO121 := n1_; have HB := n2_; clear n0_ n1_ n2_; clear hb ho28; obtain ⟨Ao29, co29, eo29⟩ := Kd.R_slice HO121.out; subst eo29) | ((with_reducible refine gate_callee (f := 10) rfl ?_); refine goesL_ (some 10) rfl rfl Try.func10 (by kernel_rfl) rfl #[.slice Ao29 y119.length co29] rfl (by (try simp only [List.map_toArray, List.map_cons, List.map_nil]); first | done | rfl | (simp only [List.length_drop, List.length_take]; rfl)) ?_; (with_reducible refine (lens_Put.calls _ _ y119 t122 _ ?side1 ?side2 A3.out).mono ?_); (case side1 => repeat (first | exact (Kd.R_reads' HO121.out).2.2 | (with_reducible refine Kd.C_alloc ?_ _) | (with_reducible refine Kd.C_drewN ?_ _) | (with_reducible refine Kd.C_drew ?_))); (case side2 => exact (Kd.R_reads' HO121.out).2.1); rintro e w30 ⟨rfl, hb⟩; refine ⟨_, rfl, ?_⟩; have n0_ := Aside0.mk (Kd.R_below (by (with_reducible repeat (first | apply Kd.R_alloc | apply Kd.R_drewN | apply Kd.R_drew)); exact HO118.out) hb); have n1_ := Aside0.mk (Kd.R_below (by (with_reducible repeat (first | apply Kd.R_alloc | apply Kd.R_drewN | apply Kd.R_drew)); exact HO121.out) hb); have n2_ := Aside0.mk (below_step (by repeat (first | (with_reducible first | exact HB.out | apply below_alloc | apply pw_below_drewN | apply below_drew1) | exact HB.out)) hb); clear HO118; clear HO121; clear HB; have HO118 := n0_; have HO121 := n1_; have HB := n2_; clear n0_ n1_ n2_; (try clear hb); (try clear hb2); (try clear hk); (try clear hi)))
      go_ret
      exact ⟨by first | rfl | (simp [errW_none, errW_some] <;> rfl) | (simp [*, errW_none, errW_some] <;> rfl), by repeat (first | (with_reducible first | exact HB.out | apply below_alloc | apply pw_below_drewN | apply below_drew1) | exact HB.out)⟩
  · rw [if_neg c2] at H
    exact absurd H (by simp)

end Go.Proofs.Ytkplcibmhibjjaa.PA

-- ---- Ug
/- The document's reading of lengths, and the example: what the print's functions come to. No program in sight. -/
namespace Go.Proofs.Ytkplcibmhibjjaa.PA
set_option linter.unusedVariables false
set_option linter.unusedSimpArgs false
open Go.RowKit Go.Proofs.YtkplcibmhibjjaaW.PrintWords Go.Proofs.YtkplcibmhibjjaaW.PrintLast Go.Proofs.YtkplcibmhibjjaaW.PrintMore Dp Lp Bits

theorem awake10 : wringerlaw10_awake.f = some true := by kernel_rfl
theorem i64_and15 (n : Int) : Go.bits .and .i64 n 15 = n % 16 := by
  have h15 : (BitVec.ofInt 64 15).toNat = 2 ^ 4 - 1 := by decide
  have key : (BitVec.ofInt 64 n &&& BitVec.ofInt 64 15).toNat = (n % ((2 ^ 64 : Nat) : Int)).toNat % 2 ^ 4 := by
    rw [BitVec.toNat_and, BitVec.toNat_ofInt, h15, Nat.and_two_pow_sub_one_eq_mod]
  show IntKind.i64.wrap ((BitVec.ofInt 64 n &&& BitVec.ofInt 64 15).toNat : Nat) = n % 16
  rw [key, IntKind.wrap_i64]
  omega
theorem bt_byte (s : ByteArray) (i : Nat) (h : i < s.size) : bt s (i : Int) = (byteS s i : Int) := by
  unfold bt
  rw [dif_pos (by rw [Int.toNat_natCast]; exact h)]
  congr 1
  exact byteS_eq s i h
theorem nib_read (s : ByteArray) (k : Nat) (hs : s.size ≤ 1000000000) (h : k / 2 < s.size) : Go.bits .and .i64 (shr .i64 (wrap64 (bt s ((k / 2 : Nat) : Int))) ((k % 2 * 4 : Nat) : Int)) 15 = (nibAt s k : Int) := by
  have hb := byteS_lt s (k / 2)
  rw [bt_byte s _ h, w64 (x := (byteS s (k / 2) : Int)) (by omega) (by omega), shr_nat _ _ (by omega), i64_and15]
  unfold nibAt; omega

theorem tdiv2 (n : Nat) : Int.tdiv (n : Int) 2 = ((n / 2 : Nat) : Int) := tdiv_nat n 2
theorem tmod2 (n : Nat) : Int.tmod (n : Int) 2 = ((n % 2 : Nat) : Int) := tmod_nat n 2
/-- What the lengths that were told come to. -/
def resG (s : ByteArray) (m : Nat) : Option (List Int × Nat) → List Int × Int × Int
  | none => ([], 0, 2)
  | some (l, k) => if l.length = 65 ∧ mayL l = true ∧ (putL l).toList = (s.extract m ((k + 1) / 2)).toList then (l, (((k + 1) / 2 : Nat) : Int), 0) else ([], 0, 3)
theorem resG_some (s : ByteArray) (m : Nat) (l : List Int) (k : Nat) : resG s m (some (l, k)) = if l.length = 65 ∧ mayL l = true ∧ (putL l).toList = (s.extract m ((k + 1) / 2)).toList then (l, (((k + 1) / 2 : Nat) : Int), 0) else ([], 0, 3) := rfl
theorem getL_res (s : ByteArray) (m : Nat) (h : m ≤ s.size) : getL s (m : Int) = resG s m (parse s 66 (2 * m) []) := by
  unfold getL
  rw [if_neg (by omega), Int.toNat_natCast]
  cases parse s 66 (2 * m) [] with
  | none => rfl
  | some q => rfl
set_option maxHeartbeats 200000 in
theorem getlens_l0 (s : ByteArray) (m : Nat) (hs : s.size ≤ 1000000000) : ∀ (f k : Nat) (acc : List Int), 2 * m ≤ k → k ≤ 2 * s.size → 66 ≤ f + acc.length → 1 ≤ f → acc.length ≤ 80 →
    Ev (fun j => wringerref7_GetLens.l0 j s (m : Int) acc (k : Int)) (resG s m (parse s f k acc)) := by
  intro f
  induction f with
  | zero => intro k acc _ _ _ h; omega
  | succ f ih =>
    intro k acc hmk hk hf _ hal
    have e1 : wrap64 (Int.tdiv (k : Int) 2) = ((k / 2 : Nat) : Int) := by rw [tdiv2, w64 (by omega) (by omega)]
    have e2 : wrap64 ((Int.tmod (k : Int) 2) * 4) = ((k % 2 * 4 : Nat) : Int) := by rw [tmod2, w64 (by omega) (by omega)]; omega
    have e3 : wrap64 ((k : Int) + 1) = ((k + 1 : Nat) : Int) := by rw [w64 (by omega) (by omega)]; rfl
    have e4 : wrap64 (Int.tdiv ((k + 1 : Nat) : Int) 2) = (((k + 1) / 2 : Nat) : Int) := by rw [tdiv2, w64 (by omega) (by omega)]
    by_cases h65 : acc.length < 65
    · by_cases h1 : s.size ≤ k / 2
      · have hp : parse s (f + 1) k acc = none := by simp only [parse]; rw [if_neg (by omega), if_pos h1]
        rw [hp]
        exact Ev.step (f := fun _ => some ([], 0, 2)) (fun j => by simp only [wringerref7_GetLens.l0, e1]; rw [if_pos (by omega), if_pos (by omega)]) (Ev.now _)
      · have hr := nib_read s k hs (by omega)
        have hn16 := nibAt_lt s k
        have hpp : parse s (f + 1) k acc = if 0 < nibAt s k then parse s f (k + 1) (acc ++ [(nibAt s k : Int)]) else if s.size ≤ (k + 1) / 2 then none else parse s f (k + 2) (acc ++ List.replicate (nibAt s (k + 1) + 1) 0) := by
          simp only [parse]; rw [if_neg (by omega), if_neg h1]
        obtain ⟨n, hn⟩ : ∃ n, n = nibAt s k := ⟨_, rfl⟩
        rw [← hn] at hr hn16 hpp
        by_cases h2 : 0 < n
        · rw [if_pos h2] at hpp
          rw [hpp]
          refine Ev.step (f := fun j => wringerref7_GetLens.l0 j s (m : Int) (acc ++ [(n : Int)]) ((k + 1 : Nat) : Int)) (fun j => ?_) (ih (k + 1) _ (by omega) (by omega) (by rw [List.length_append, List.length_singleton]; omega) (by omega) (by rw [List.length_append, List.length_singleton]; omega))
          simp only [wringerref7_GetLens.l0, e1, e2, hr, e3]
          clear hr ih hpp hn e1 e2 e3 e4
          rw [if_pos (by omega), if_neg (by omega), if_pos (by omega), if_pos (by omega), if_pos (by omega), if_pos (by omega), if_pos (by omega)]
        · rw [if_neg h2] at hpp
          by_cases h3 : s.size ≤ (k + 1) / 2
          · rw [if_pos h3] at hpp
            rw [hpp]
            refine Ev.step (f := fun _ => some ([], 0, 2)) (fun j => ?_) (Ev.now _)
            simp only [wringerref7_GetLens.l0, e1, e2, hr, e3, e4]
            clear hr ih hpp hn e1 e2 e3 e4
            rw [if_pos (by omega), if_neg (by omega), if_pos (by omega), if_pos (by omega), if_pos (by omega), if_neg (by omega), if_pos (by omega)]
          · have a0 : (k + 1) / 2 < s.size := by omega
            have a1 : 2 * m ≤ k + 2 := by omega
            have a2 : k + 2 ≤ 2 * s.size := by omega
            have a3 : ∀ q : Nat, q < 16 → 66 ≤ f + (acc ++ List.replicate (q + 1) (0 : Int)).length ∧ 1 ≤ f ∧ (acc ++ List.replicate (q + 1) (0 : Int)).length ≤ 80 := fun q hq => by rw [List.length_append, List.length_replicate]; omega
            have hq16 := nibAt_lt s (k + 1)
            rw [if_neg h3] at hpp
            obtain ⟨q, hq⟩ : ∃ q, q = nibAt s (k + 1) := ⟨_, rfl⟩
            rw [← hq] at hq16 hpp
            have e5 : wrap64 ((Int.tmod ((k + 1 : Nat) : Int) 2) * 4) = (((k + 1) % 2 * 4 : Nat) : Int) := by rw [tmod2, w64 (by omega) (by omega)]; omega
            have e6 : wrap64 ((q : Int) + 1) = ((q + 1 : Nat) : Int) := by rw [w64 (by omega) (by omega)]; rfl
            have e7 : wrap64 (((k + 1 : Nat) : Int) + 1) = ((k + 2 : Nat) : Int) := by rw [w64 (by omega) (by omega)]; omega
            rw [hpp]
            have hr2 := nib_read s (k + 1) hs a0
            rw [← hq] at hr2
            obtain ⟨b1, b2, b3⟩ := a3 q hq16
            refine Ev.step (f := fun j => wringerref7_GetLens.l0 j s (m : Int) (acc ++ List.replicate (q + 1) 0) ((k + 2 : Nat) : Int)) (fun j => ?_) (ih (k + 2) _ a1 a2 b1 b2 b3)
            simp only [wringerref7_GetLens.l0, e1, e2, hr, e3, e4, e5, hr2, e6, e7, Int.toNat_natCast]
            clear hr hr2 ih hpp hn hq e1 e2 e3 e4 e5 e6 e7
            rw [if_pos (by omega), if_neg (by omega), if_pos (by omega), if_pos (by omega), if_pos (by omega), if_neg (by omega), if_neg (by omega), if_pos (by omega), if_pos (by omega), if_pos (by omega), if_pos (by omega), if_pos (by omega)]
    · have hp : parse s (f + 1) k acc = some (acc, k) := by simp only [parse]; rw [if_pos (by omega)]
      rw [hp]
      refine Ev.step (f := fun j => if (acc.length : Int) = 65 then ((wringerref7_MayLens.f j acc).bind fun t => if t = true then ((wringerref7_PutLens.f acc).bind fun t2 => if t2.toList = (s.extract m ((k + 1) / 2)).toList then some (acc, (((k + 1) / 2 : Nat) : Int), 0) else some (([] : List Int), 0, 3)) else some (([] : List Int), 0, 3)) else some (([] : List Int), 0, 3)) (fun j => ?_) ?_
      · simp only [wringerref7_GetLens.l0, e3, e4, Int.toNat_natCast]
        clear e1 e2 e3 e4 ih
        rw [if_neg (by omega)]
        have g1 : (0 : Int) ≤ (m : Int) := by omega
        have g2 : (m : Int) ≤ (((k + 1) / 2 : Nat) : Int) := by omega
        have g3 : (((k + 1) / 2 : Nat) : Int) ≤ (s.size : Int) := by omega
        simp only [g1, g2, g3, if_true]
      · rw [resG_some]
        clear e1 e2 e3 e4
        by_cases h6 : acc.length = 65
        · refine Ev.ite_pos (by omega) (Ev.bind (rmay_is acc) ?_)
          cases hm : mayL acc with
          | false => exact Ev.ite_neg (by simp) (Ev.ofSome (by rw [if_neg (by simp)]))
          | true =>
            refine Ev.ite_pos rfl (Ev.bind0 rfl ?_)
            by_cases he : (putL acc).toList = (s.extract m ((k + 1) / 2)).toList
            · exact Ev.ite_pos he (Ev.ofSome (by rw [if_pos ⟨h6, rfl, he⟩]))
            · exact Ev.ite_neg he (Ev.ofSome (by rw [if_neg (fun h => he h.2.2)]))
        · exact Ev.ite_neg (by omega) (Ev.ofSome (by rw [if_neg (fun h => h6 h.1)]))
theorem getlens_is (s : ByteArray) (a : Int) (hs : s.size ≤ 1000000000) : Ev (fun k => wringerref7_GetLens.f k s a) (getL s a) := by
  unfold wringerref7_GetLens.f
  have bad : Ev (fun k => wringerref7_GetLens.j0 k s a true) ([], 0, 1) := Ev.step (f := fun _ => some ([], 0, 1)) (fun k => by simp only [wringerref7_GetLens.j0]; rfl) (Ev.now _)
  by_cases h0 : a < 0
  · have e : getL s a = ([], 0, 1) := by unfold getL; rw [if_pos (.inl h0)]
    rw [e]; exact Ev.ite_pos h0 bad
  · refine Ev.ite_neg h0 ?_
    by_cases h1 : a > (s.size : Int)
    · have e : getL s a = ([], 0, 1) := by unfold getL; rw [if_pos (.inr h1)]
      rw [e, decide_eq_true h1]; exact bad
    · obtain ⟨m, rfl⟩ := Int.eq_ofNat_of_zero_le (show 0 ≤ a by omega)
      rw [decide_eq_false h1, getL_res s m (by omega)]
      refine Ev.step (f := fun k => wringerref7_GetLens.l0 k s (m : Int) [] ((2 * m : Nat) : Int)) (fun k => ?_) (getlens_l0 s m hs 66 (2 * m) [] (Nat.le_refl _) (by omega) (by simp) (by omega) (by simp))
      simp only [wringerref7_GetLens.j0]
      rw [if_neg (by simp), w64 (by omega) (by omega)]; rfl
end Go.Proofs.Ytkplcibmhibjjaa.PA

-- ---- Nl
/- Numbers of a sum, out of how often each comes: plain facts. No program in sight. -/
namespace Go.Proofs.Ytkplcibmhibjjaa.Nl
set_option linter.unusedSimpArgs false
set_option linter.unusedVariables false
set_option linter.unusedSectionVars false
open Hp Ol

def bump (l : List Int) (k : Nat) (d : Int) : List Int := l.set k (l.getD k 0 + d)
theorem length_bump (l : List Int) (k : Nat) (d : Int) : (bump l k d).length = l.length := by simp [bump]
theorem getD_bump (l : List Int) (k : Nat) (d : Int) (i : Nat) (hk : k < l.length) : (bump l k d).getD i 0 = if i = k then l.getD k 0 + d else l.getD i 0 := by
  unfold bump
  by_cases h : i = k
  · subst h; rw [if_pos rfl]; simp [List.getD_eq_getElem?_getD, hk]
  · rw [if_neg h]; simp only [List.getD_eq_getElem?_getD]; rw [List.getElem?_set_ne (Ne.symm h)]
theorem sum_set (l : List Int) : ∀ (k : Nat) (v : Int), k < l.length → (l.set k v).sum = l.sum - l.getD k 0 + v := by
  induction l with
  | nil => intro k v h; simp at h
  | cons a t ih =>
    intro k v h
    cases k with
    | zero => simp; omega
    | succ k =>
      have := ih k v (by simpa using h)
      simp only [List.set_cons_succ, List.sum_cons, this]
      have e : (a :: t).getD (k + 1) 0 = t.getD k 0 := by simp
      rw [e]; omega
theorem sum_bump (l : List Int) (k : Nat) (d : Int) (h : k < l.length) : (bump l k d).sum = l.sum + d := by
  unfold bump; rw [sum_set l k _ h]; omega

def share (size all n : Int) : Int := if 0 < n then max 1 (n * size / all) else 0
def shares (f : List Int) (size all : Int) : List Int := f.map (share size all)
def decTop : Nat → List Int → List Int
  | 0, l => l
  | m + 1, l => decTop m (bump l ((ordL l).headD 0) (-1))
def normL (f : List Int) (size : Int) : List Int :=
  if (shares f size f.sum).sum ≤ size then bump (shares f size f.sum) ((ordL f).headD 0) (size - (shares f size f.sum).sum) else decTop ((shares f size f.sum).sum - size).toNat (shares f size f.sum)

theorem getD_shares (f : List Int) (size all : Int) (i : Nat) (h : i < f.length) : (shares f size all).getD i 0 = share size all (f.getD i 0) := by
  simp [shares, List.getD_eq_getElem?_getD, h]
theorem length_shares (f : List Int) (size all : Int) : (shares f size all).length = f.length := by simp [shares]
theorem share_nonneg (size all n : Int) : 0 ≤ share size all n := by unfold share; split <;> omega
theorem share_pos (size all n : Int) : 0 < share size all n ↔ 0 < n := by
  unfold share
  split
  · rename_i h; exact ⟨fun _ => h, fun _ => by omega⟩
  · rename_i h; exact ⟨fun h2 => by omega, fun h2 => absurd h2 h⟩
theorem share_le (size all n : Int) (hs : 1 ≤ size) (ha : 0 < all) (hn : n ≤ all) : share size all n ≤ size := by
  unfold share
  split
  · rename_i h
    have h1 : n * size ≤ all * size := Int.mul_le_mul_of_nonneg_right hn (by omega)
    have h2 : n * size / all ≤ size := by
      have := Int.ediv_le_ediv ha h1
      rwa [Int.mul_ediv_cancel_left _ (by omega)] at this
    omega
  · omega
theorem share_mono (size all a b : Int) (hs : 1 ≤ size) (ha : 0 < all) (h : a ≤ b) : share size all a ≤ share size all b := by
  unfold share
  split
  · rw [if_pos (by omega)]
    have h1 : a * size ≤ b * size := Int.mul_le_mul_of_nonneg_right h (by omega)
    have := Int.ediv_le_ediv ha h1
    omega
  · split <;> omega

theorem sum_nonneg (l : List Int) (h : ∀ x ∈ l, 0 ≤ x) : 0 ≤ l.sum := by
  induction l with
  | nil => simp
  | cons a t ih => have := ih fun x hx => h x (List.mem_cons_of_mem _ hx); have := h a (by simp); simp; omega
theorem le_sum (l : List Int) (h : ∀ x ∈ l, 0 ≤ x) : ∀ x ∈ l, x ≤ l.sum := by
  induction l with
  | nil => simp
  | cons a t ih =>
    intro x hx
    have h0 := sum_nonneg t fun x hx => h x (List.mem_cons_of_mem _ hx)
    have h1 := h a (by simp)
    simp only [List.sum_cons]
    rcases List.mem_cons.1 hx with rfl | hx
    · omega
    · have := ih (fun x hx => h x (List.mem_cons_of_mem _ hx)) x hx; omega
theorem sum_le_max (l : List Int) (m : Int) (h : ∀ x ∈ l, x ≤ m) : l.sum ≤ m * l.length := by
  induction l with
  | nil => simp
  | cons a t ih =>
    have h1 := ih fun x hx => h x (List.mem_cons_of_mem _ hx)
    have h2 := h a (by simp)
    simp only [List.sum_cons, List.length_cons]
    have e : m * ((t.length + 1 : Nat) : Int) = m * (t.length : Int) + m := by rw [Int.natCast_add, Int.mul_add]; simp
    rw [e]; omega
theorem mem_getD {l : List Int} {x : Int} (h : x ∈ l) : ∃ i, i < l.length ∧ l.getD i 0 = x := by
  obtain ⟨i, hi, rfl⟩ := List.mem_iff_getElem.1 h
  exact ⟨i, hi, by simp [List.getD_eq_getElem?_getD, hi]⟩
theorem getD_mem {l : List Int} {i : Nat} (h : i < l.length) : l.getD i 0 ∈ l := by
  rw [List.getD_eq_getElem?_getD, List.getElem?_eq_getElem h]; exact List.getElem_mem _

/-- Where one number at least is greater than 1: the greatest is, and one is taken from it. -/
structure Top (l : List Int) (k : Nat) : Prop where
  lt : k < l.length
  two : 2 ≤ l.getD k 0
  max : ∀ i, i < l.length → l.getD i 0 ≤ l.getD k 0
  least : ∀ i, i < l.length → l.getD i 0 = l.getD k 0 → k ≤ i
theorem top_of {l : List Int} (h : (l.length : Int) < l.sum) : Top l ((ordL l).headD 0) ∧ ∃ t, ordL l = (ordL l).headD 0 :: t := by
  have h2 : ∃ x ∈ l, 2 ≤ x := by
    apply Classical.byContradiction
    intro hno
    have := sum_le_max l 1 fun x hx => by
      have : ¬ 2 ≤ x := fun h2 => hno ⟨x, hx, h2⟩
      omega
    omega
  obtain ⟨x, hx, hx2⟩ := h2
  obtain ⟨i, hi, rfl⟩ := mem_getD hx
  obtain ⟨k, t, hk⟩ := ordL_cons (f := l) ⟨i, hi, by omega⟩
  obtain ⟨a, b, c⟩ := ordL_head hk
  rw [hk]
  exact ⟨⟨a, by have := (c i hi).1; simp only [List.headD_cons]; omega, fun j hj => (c j hj).1, fun j hj => (c j hj).2⟩, t, rfl⟩

/-- What every step keeps. -/
structure Ok (f l : List Int) : Prop where
  len : l.length = f.length
  pos : ∀ i, i < f.length → (0 < l.getD i 0 ↔ 0 < f.getD i 0)
  nn : ∀ i, i < f.length → 0 ≤ l.getD i 0
  mono : ∀ i j, i < f.length → j < f.length → f.getD j 0 < f.getD i 0 → l.getD j 0 ≤ l.getD i 0 + 1
theorem Ok.step {f l : List Int} (h : Ok f l) {k : Nat} (ht : Top l k) : Ok f (bump l k (-1)) := by
  have hk := ht.lt
  have h2 := ht.two
  have G := fun i => getD_bump l k (-1) i hk
  refine ⟨by rw [length_bump]; exact h.len, fun i hi => ?_, fun i hi => ?_, fun i j hi hj hf => ?_⟩
  · rw [G i]
    have := h.pos i hi
    split
    · subst i; constructor
      · intro _; exact this.1 (by omega)
      · intro _; omega
    · exact this
  · rw [G i]; have := h.nn i hi; split <;> omega
  · rw [G i, G j]
    have := h.mono i j hi hj hf
    have hm := ht.max j (by rw [h.len]; exact hj)
    split <;> split <;> (try subst i) <;> (try subst j) <;> omega
theorem decTop_ok {f : List Int} : ∀ (m : Nat) (l : List Int), Ok f l → (f.length : Int) + (m : Int) ≤ l.sum → Ok f (decTop m l) ∧ (decTop m l).sum = l.sum - m := by
  intro m
  induction m with
  | zero => intro l h _; exact ⟨h, by simp [decTop]⟩
  | succ m ih =>
    intro l h hs
    obtain ⟨ht, _⟩ := top_of (l := l) (by rw [h.len]; omega)
    have h1 := h.step ht
    have h2 := sum_bump l ((ordL l).headD 0) (-1) ht.lt
    obtain ⟨a, b⟩ := ih _ h1 (by omega)
    unfold decTop
    exact ⟨a, by omega⟩

theorem bump_zero (l : List Int) (k : Nat) : bump l k 0 = l := by
  by_cases h : k < l.length
  · unfold bump
    rw [Int.add_zero]
    have e : l.getD k 0 = l[k] := by simp [List.getD_eq_getElem?_getD, h]
    rw [e]; exact List.set_getElem_self h
  · unfold bump; exact List.set_eq_of_length_le (by omega)
theorem decTop_succ : ∀ (m : Nat) (l : List Int), decTop (m + 1) l = bump (decTop m l) ((ordL (decTop m l)).headD 0) (-1) := by
  intro m
  induction m with
  | zero => intro l; rfl
  | succ m ih => intro l; show decTop (m + 1) _ = _; rw [ih]; rfl

/-- Frequencies that may be asked. -/
structure Fr (f : List Int) : Prop where
  len : f.length = 65
  nn : ∀ x ∈ f, 0 ≤ x
  le : ∀ x ∈ f, x ≤ 16777216
  pos : 0 < f.sum
theorem Fr.le_all {f : List Int} (h : Fr f) : ∀ x ∈ f, x ≤ f.sum := le_sum f h.nn
theorem Fr.some {f : List Int} (h : Fr f) : ∃ i, i < f.length ∧ 0 < f.getD i 0 := by
  apply Classical.byContradiction
  intro hno
  have := sum_le_max f 0 fun x hx => by
    obtain ⟨i, hi, rfl⟩ := mem_getD hx
    have : ¬ 0 < f.getD i 0 := fun h2 => hno ⟨i, hi, h2⟩
    omega
  have := h.pos
  omega
theorem Fr.sum_le {f : List Int} (h : Fr f) : f.sum ≤ 1090519040 := by
  have := sum_le_max f 16777216 h.le
  rw [h.len] at this
  omega
theorem Fr.shares_ok {f : List Int} (h : Fr f) {size : Int} (hs : 1 ≤ size) : Ok f (shares f size f.sum) := by
  refine ⟨length_shares .., fun i hi => ?_, fun i hi => ?_, fun i j hi hj hf => ?_⟩
  · rw [getD_shares f _ _ i hi]; exact share_pos ..
  · rw [getD_shares f _ _ i hi]; exact share_nonneg ..
  · rw [getD_shares f _ _ i hi, getD_shares f _ _ j hj]
    have := share_mono size f.sum _ _ hs h.pos (Int.le_of_lt hf)
    omega
theorem Fr.share_le {f : List Int} (h : Fr f) {size : Int} (hs : 1 ≤ size) {x : Int} (hx : x ∈ f) : 0 ≤ share size f.sum x ∧ share size f.sum x ≤ size :=
  ⟨share_nonneg .., Nl.share_le _ _ _ hs h.pos (h.le_all x hx)⟩
theorem Fr.shares_sum {f : List Int} (h : Fr f) {size : Int} (hs : 1 ≤ size) : 0 ≤ (shares f size f.sum).sum ∧ (shares f size f.sum).sum ≤ size * 65 := by
  constructor
  · apply sum_nonneg
    intro x hx
    obtain ⟨n, hn, rfl⟩ := List.mem_map.1 hx
    exact (h.share_le hs hn).1
  · have := sum_le_max (shares f size f.sum) size fun x hx => by
      obtain ⟨n, hn, rfl⟩ := List.mem_map.1 hx
      exact (h.share_le hs hn).2
    rw [length_shares, h.len] at this
    exact this
theorem Fr.head {f : List Int} (h : Fr f) : ∃ t, ordL f = (ordL f).headD 0 :: t ∧ (ordL f).headD 0 < 65 := by
  obtain ⟨k, t, hk⟩ := ordL_cons h.some
  have := (ordL_head hk).1
  rw [h.len] at this
  rw [hk]; exact ⟨t, rfl, this⟩

theorem Fr.norm {f : List Int} (h : Fr f) {size : Int} (hs : 66 ≤ size) : Ok f (normL f size) ∧ (normL f size).sum = size := by
  have ho := h.shares_ok (size := size) (by omega)
  unfold normL
  by_cases hle : (shares f size f.sum).sum ≤ size
  · rw [if_pos hle]
    obtain ⟨t, hk, hlt⟩ := h.head
    generalize hK : (ordL f).headD 0 = k at hk hlt
    obtain ⟨k1, k2, k3⟩ := ordL_head hk
    have hkl : k < (shares f size f.sum).length := by rw [length_shares]; exact k1
    refine ⟨⟨by rw [length_bump]; exact ho.len, fun i hi => ?_, fun i hi => ?_, fun i j hi hj hf => ?_⟩, by rw [sum_bump _ _ _ hkl]; omega⟩
    · rw [getD_bump _ _ _ _ hkl]
      have := ho.pos i hi
      split
      · subst i
        constructor
        · intro _; exact k2
        · intro _; have := this.2 k2; omega
      · exact this
    · rw [getD_bump _ _ _ _ hkl]; have := ho.nn i hi; split
      · subst i; omega
      · exact this
    · rw [getD_bump _ _ _ _ hkl, getD_bump _ _ _ _ hkl]
      have h1 := ho.mono i j hi hj hf
      have h2 := (k3 i hi).1
      split
      · subst j; omega
      · split
        · subst i; omega
        · exact h1
  · rw [if_neg hle]
    obtain ⟨a, b⟩ := decTop_ok (f := f) ((shares f size f.sum).sum - size).toNat _ ho (by rw [h.len]; omega)
    exact ⟨a, by omega⟩
theorem Fr.norm_len {f : List Int} (h : Fr f) {size : Int} (hs : 66 ≤ size) : (normL f size).length = 65 := by rw [(h.norm hs).1.len, h.len]
theorem Fr.norm_at {f : List Int} (h : Fr f) {size : Int} (hs : 66 ≤ size) : ∀ x ∈ normL f size, 0 ≤ x ∧ x ≤ size := by
  obtain ⟨ho, hsum⟩ := h.norm hs
  have hn : ∀ x ∈ normL f size, 0 ≤ x := fun x hx => by
    obtain ⟨i, hi, rfl⟩ := mem_getD hx
    exact ho.nn i (by rw [← ho.len]; exact hi)
  exact fun x hx => ⟨hn x hx, by have := le_sum _ hn x hx; omega⟩
/-- Which may be asked. -/
def frB (f : List Int) : Bool := decide (f.length = 65 ∧ (∀ x ∈ f, 0 ≤ x ∧ x ≤ 16777216) ∧ 0 < f.sum)
theorem frB_iff (f : List Int) : frB f = true ↔ Fr f := by
  unfold frB; rw [decide_eq_true_eq]
  exact ⟨fun ⟨a, b, c⟩ => ⟨a, fun x hx => (b x hx).1, fun x hx => (b x hx).2, c⟩, fun h => ⟨h.len, fun x hx => ⟨h.nn x hx, h.le x hx⟩, h.pos⟩⟩
/-- The shares of the first i, nought for the others. -/
def shN (f : List Int) (size all : Int) (i : Nat) : List Int := ((f.take i).map (share size all)) ++ List.replicate (f.length - i) 0
theorem shN_zero (f : List Int) (size all : Int) : shN f size all 0 = List.replicate f.length 0 := by simp [shN]
theorem shN_all (f : List Int) (size all : Int) : shN f size all f.length = shares f size all := by simp [shN, shares]
theorem length_shN (f : List Int) (size all : Int) (i : Nat) (h : i ≤ f.length) : (shN f size all i).length = f.length := by simp [shN]; omega
theorem shN_succ (f : List Int) (size all : Int) (i : Nat) (h : i < f.length) : shN f size all (i + 1) = (shN f size all i).set i (share size all (f.getD i 0)) := by
  unfold shN
  have e : f.length - i = (f.length - (i + 1)) + 1 := by omega
  have e2 : f.getD i 0 = f[i] := by simp [List.getD_eq_getElem?_getD, h]
  have hl : ((f.take i).map (share size all)).length = i := by simp; omega
  rw [List.take_succ_eq_append_getElem h, List.map_append, e, List.replicate_succ, e2]
  rw [List.set_append_right _ _ (by omega), hl, Nat.sub_self, List.set_cons_zero, List.append_assoc]; rfl
theorem shN_at (f : List Int) (size all : Int) (i : Nat) (h : i < f.length) : (shN f size all i).getD i 0 = 0 := by
  unfold shN
  have hl : ((f.take i).map (share size all)).length = i := by simp; omega
  rw [List.getD_eq_getElem?_getD, List.getElem?_append_right (by omega), hl, Nat.sub_self, List.getElem?_replicate, if_pos (by omega)]; rfl
theorem shN_same (f : List Int) (size all : Int) (i : Nat) (h : i < f.length) (h0 : ¬ 0 < f.getD i 0) : shN f size all (i + 1) = shN f size all i := by
  rw [shN_succ f size all i h]
  have hs : share size all (f.getD i 0) = 0 := by unfold share; rw [if_neg h0]
  rw [hs]
  have := bump_zero (shN f size all i) i
  unfold bump at this
  rwa [shN_at f size all i h, Int.add_zero] at this
theorem sum_shN (f : List Int) (size all : Int) (i : Nat) (h : i < f.length) : (shN f size all (i + 1)).sum = (shN f size all i).sum + share size all (f.getD i 0) := by
  rw [shN_succ f size all i h, sum_set _ _ _ (by rw [length_shN _ _ _ _ (by omega)]; exact h), shN_at f size all i h]; omega
theorem take_sum (f : List Int) (i : Nat) (h : i < f.length) : (f.take (i + 1)).sum = (f.take i).sum + f.getD i 0 := by
  rw [List.take_succ_eq_append_getElem h, List.sum_append]
  simp [List.getD_eq_getElem?_getD, h]
theorem Fr.take_sum {f : List Int} (h : Fr f) (i : Nat) : 0 ≤ (f.take i).sum ∧ (f.take i).sum ≤ 1090519040 := by
  have h1 := sum_nonneg (f.take i) fun x hx => h.nn x (List.mem_of_mem_take hx)
  have h2 := sum_nonneg (f.drop i) fun x hx => h.nn x (List.mem_of_mem_drop hx)
  have h3 : f.sum = (f.take i).sum + (f.drop i).sum := by rw [← List.sum_append, List.take_append_drop]
  have := h.sum_le
  omega
theorem Fr.shN_sum {f : List Int} (h : Fr f) {size : Int} (hs : 1 ≤ size) : ∀ i, i ≤ f.length → 0 ≤ (shN f size f.sum i).sum ∧ (shN f size f.sum i).sum ≤ size * (i : Int) := by
  intro i
  induction i with
  | zero => intro _; rw [shN_zero]; simp
  | succ i ih =>
    intro hi
    have := ih (by omega)
    rw [sum_shN f size f.sum i (by omega)]
    have h2 := h.share_le hs (getD_mem (show i < f.length by omega))
    have e : size * ((i + 1 : Nat) : Int) = size * (i : Int) + size := by rw [Int.natCast_add, Int.mul_add]; simp
    rw [e]; omega
end Go.Proofs.Ytkplcibmhibjjaa.Nl

-- ---- PAx21

namespace Go.Proofs.Ytkplcibmhibjjaa.PA
open Go.RowKit Go.Proofs.YtkplcibmhibjjaaW.PrintWords Go.Proofs.YtkplcibmhibjjaaW.PrintLast Go.Proofs.YtkplcibmhibjjaaW.PrintMore
attribute [local go_sem] max2_int min2_int max_two min_two max_three min_three max_four min_four   -- for this text's walks alone
set_option linter.unusedVariables false
set_option linter.unusedSimpArgs false

/-! ### wringerlaw8_Freq: function 15 -/
def wringerlaw8_Freq.l0 : Nat → List Int → List Int → Int → Option (List Int)
  | 0, _, _, _ => none
  | k + 1, x0, x3, x4 => if (wrap64 (x4 + 1)) < (x0.length : Int) then (if 0 ≤ x4 then (if x4 < (x0.length : Int) then (if 0 ≤ (wrap64 (x4 + 1)) then (if 0 ≤ (Int.tmod (IntKind.u16.wrap (Int.tdiv (rd x0 x4) 65)) 16) then (if 0 ≤ (Int.tmod (wrap64 (rd x0 x4)) 65) then (if (Int.tmod (wrap64 (rd x0 x4)) 65) < (x3.length : Int) then (wringerlaw8_Freq.l0 k x0 (x3.set ((Int.tmod (wrap64 (rd x0 x4)) 65) : Int).toNat (shr .i64 (wrap64 (rd x0 (wrap64 (x4 + 1)))) (Int.tmod (IntKind.u16.wrap (Int.tdiv (rd x0 x4) 65)) 16))) (wrap64 (x4 + 2))) else (none)) else (none)) else (none)) else (none)) else (none)) else (none)) else (some x3)
def wringerlaw8_Freq.f (k : Nat) (l0 : List Int) : Option (List Int) := if 65 ≤ 35184372088832 then (wringerlaw8_Freq.l0 k l0 (List.replicate 65 0) 0) else (none)
theorem wringerlaw8_Freq.mono_l : ∀ k, (∀ y0 y1 y2, LeO (wringerlaw8_Freq.l0 k y0 y1 y2) (wringerlaw8_Freq.l0 (k + 1) y0 y1 y2))
  | 0 => fun _ _ _ r h => by simp [wringerlaw8_Freq.l0] at h
  | k + 1 => by
    have ih0 := wringerlaw8_Freq.mono_l k
    · intro y0 y1 y2
      unfold wringerlaw8_Freq.l0
      repeat' first
      | (with_reducible exact ih0 _ _ _)
      | (with_reducible exact LeO.refl _)
      | (with_reducible exact LeO.none _)
      | (with_reducible refine LeO.ite ?_ ?_)
      | (with_reducible refine LeO.bind ?_ (fun _ => ?_))
      | exact ih0 _ _ _
      | exact LeO.none _
      | refine LeO.ite ?_ ?_
      | refine LeO.bind ?_ (fun _ => ?_)
theorem wringerlaw8_Freq.mono : ∀ a0 k, LeO (wringerlaw8_Freq.f k a0) (wringerlaw8_Freq.f (k + 1) a0) := by
  intro a0 k
  have ih0 := wringerlaw8_Freq.mono_l k
  unfold wringerlaw8_Freq.f
  repeat' first
      | (with_reducible exact ih0 _ _ _)
      | (with_reducible exact LeO.refl _)
      | (with_reducible exact LeO.none _)
      | (with_reducible refine LeO.ite ?_ ?_)
      | (with_reducible refine LeO.bind ?_ (fun _ => ?_))
      | exact ih0 _ _ _
      | exact LeO.none _
      | refine LeO.ite ?_ ?_
      | refine LeO.bind ?_ (fun _ => ?_)
def wringerlaw8_Freq.T5 : Bool × List (List Nat × List Nat) := (true, [([], []), ([], []), ([], []), ([1, 2], [1, 2]), ([3], [3]), ([4], [4]), ([5], [5]), ([], []), ([], []), ([8], [8]), ([7, 9], [7, 9]), ([10], [10]), ([11], [11]), ([], []), ([], []), ([13, 14], [13, 14]), ([15], [15]), ([16], [16]), ([17], [17]), ([12, 18], [12, 18]), ([0, 6, 0, 1, 2, 3, 4, 5, 6, 7, 8, 9, 10, 11, 12, 13, 14, 15, 16, 17, 18, 19], [0, 6]), ([20, 19, 0, 1, 2, 3, 4, 5, 6, 7, 8, 9, 10, 11, 12, 13, 14, 15, 16, 17, 18, 19], [19, 20])])
def wringerlaw8_Freq.B5 : List Nat := [0, 0, 0, 6, 14, 30, 62, 0, 0, 256, 896, 1920, 3968, 0, 0, 24576, 57344, 122880, 253952, 524160, 1048575, 2097151]
theorem wringerlaw8_Freq.tab5 : rtab .any (opsOf Try.f15 5) = wringerlaw8_Freq.T5 := by kernel_rfl
theorem wringerlaw8_Freq.bits5 : waitsOk wringerlaw8_Freq.T5.2 wringerlaw8_Freq.B5 = true := by kernel_rfl
set_option maxHeartbeats 8000000 in
set_option maxRecDepth 100000 in
theorem wringerlaw8_Freq.calls (k : Nat) (A0 : Option Addr) (c0 : Nat) (l0 : List Int) (r : List Int) (w : World) (hr0 : Kd.C (Kd.int .u16) w A0 l0.length l0) (hc0 : l0.length ≤ c0) (h : wringerlaw8_Freq.f k l0 = some r) :
    Calls Try.prog 15 #[.slice A0 l0.length c0] w fun e w' => ∃ v0_ : Value, e = .returned (v0_) ∧ Kd.R (Kd.int .i64) 3 w' w.heap.size (fun _ => True) v0_ r ∧ Below w.heap.size w w' := by
  have HR0 := Aside0.mk hr0
  have HC0 := Aside0.mk hc0
  clear hr0 hc0
  have HB := Aside0.mk (Below.refl w.heap.size w)
  have H : (if 65 ≤ 35184372088832 then (wringerlaw8_Freq.l0 k l0 (List.replicate 65 0) 0) else (none)) = some r := h
  clear h
  by_cases c2 : 65 ≤ 35184372088832
  · rw [if_pos c2] at H
    have c2b0 := eq_true c2
    have c2b1 : decide (65 ≤ 35184372088832) = true := decide_eq_true c2
    clear c2
    obtain ⟨y177, hy177⟩ : ∃ y_ : List Int, y_ = (List.replicate 65 0) := ⟨_, rfl⟩
    replace H : (wringerlaw8_Freq.l0 k l0 y177 0) = some r := by first | (rw [hy177]; with_reducible exact H) | (have H2_ := (Option.bind_some _ _).symm.trans H; rw [hy177]; with_reducible exact H2_) | (have H2_ := (Option.bind_some _ _).symm.trans H; with_reducible exact H2_) | with_reducible exact H | (rw [hy177]; exact H) | exact H
    have Ny177 := Aside0.mk hy177
    clear hy177
    have H' := Aside0.mk H
    clear H
    go_enter Try.func15, Try.ntmps15
    go_wp2_with (first | ((with_reducible refine gate_dst (N := 5) rfl ?_); refine Kd.R_make (Kd.int .i64) _ 3 rfl (N := 5) rfl 22 _ _ rfl 65 rfl rfl Try.underlying22 (.int .i64 0) 8 info3 rfl (by decide) (by omega) 0 (ok := fun _ => True) (okp := fun _ => True) rfl (fun _ hk => hk) trivial (by omega) (by omega) (Below.refl _ _) (Nat.le_refl _) ?_; intro v178 w3 ho4 hb hg_ hnew_; clear hg_ hnew_; (first | rw [← Ny177.out] at ho4 | (simp only [Int.reduceToNat] at ho4; rw [← Ny177.out] at ho4)); have n0_ := Aside0.mk (Kd.R_lower ho4 (below_size (by repeat (first | (with_reducible first | exact HB.out | apply below_alloc | apply pw_below_drewN | apply below_drew1) | exact HB.out)))); have n1_ := Aside0.mk (below_step (by repeat (first | (with_reducible first | exact HB.out | apply below_alloc | apply pw_below_drewN | apply below_drew1) | exact HB.out)) hb); clear HB; have HO179 := n0_; have HB := n1_; clear n0_ n1_; clear hb ho4))
    go_loopg [4] k (fun kq v4 w' => ∃ (x3_1 : List Int) (x4_1 : Int), v4 = .int .i64 x4_1 ∧ Aside0 (wringerlaw8_Freq.l0 kq l0 x3_1 x4_1 = some r) ∧ Aside0 (kq ≤ k) ∧ Aside0 (Kd.R (Kd.int .i64) 3 w' w.heap.size (fun _ => True) v178 x3_1) ∧ Aside0 (Below w.heap.size w w'))
    case atStart => exact ⟨(y177), (0), (by first | rfl | (simp; done) | (simp [*]; done)), H', ⟨Nat.le_refl _⟩, ⟨by (with_reducible repeat (first | apply Kd.R_alloc | apply Kd.R_drewN | apply Kd.R_drew)); exact HO179.out⟩, ⟨by repeat (first | (with_reducible first | exact HB.out | apply below_alloc | apply pw_below_drewN | apply below_drew1) | exact HB.out)⟩⟩
    case round =>
      clear H'
      try clear c1
      try clear c2
      try clear c2b0
      try clear c2b1
      try clear p2
      obtain ⟨x3_1, x4_1, rfl, HA, HK1, HO_3, HB⟩ := hrel
      cases gk with
      | zero => exact absurd HA.out (by simp [wringerlaw8_Freq.l0])
      | succ k1 =>
        have H := HA.out
        clear HA
        simp only [wringerlaw8_Freq.l0] at H
        by_cases c5 : (wrap64 (x4_1 + 1)) < (l0.length : Int)
        · rw [if_pos c5] at H
          have c5b0 : decide ((wrap64 (x4_1 + 1)) < (l0.length : Int)) = true := decide_eq_true c5
          clear c5
          by_cases c6 : 0 ≤ x4_1
          · rw [if_pos c6] at H
            have c6b0 : decide (0 ≤ x4_1) = true := decide_eq_true c6
            clear c6
            by_cases c7 : x4_1 < (l0.length : Int)
            · rw [if_pos c7] at H
              have c7b0 : decide (x4_1 < (l0.length : Int)) = true := decide_eq_true c7
              clear c7
              obtain ⟨ji8, hji8⟩ : ∃ j_ : Int, (wrap64 (x4_1 + 1)) = j_ := ⟨_, rfl⟩
              replace H : (if 0 ≤ (ji8) then (if 0 ≤ (Int.tmod (IntKind.u16.wrap (Int.tdiv (rd l0 x4_1) 65)) 16) then (if 0 ≤ (Int.tmod (wrap64 (rd l0 x4_1)) 65) then (if (Int.tmod (wrap64 (rd l0 x4_1)) 65) < (x3_1.length : Int) then (wringerlaw8_Freq.l0 k1 l0 (x3_1.set ((Int.tmod (wrap64 (rd l0 x4_1)) 65) : Int).toNat (shr .i64 (wrap64 (rd l0 (ji8))) (Int.tmod (IntKind.u16.wrap (Int.tdiv (rd l0 x4_1) 65)) 16))) (wrap64 (x4_1 + 2))) else (none)) else (none)) else (none)) else (none)) = some r := by first | (rw [hji8] at H; exact H) | (simp only [hji8] at H ⊢; exact H)
              (try rw [hji8] at c5b0)
              have hji8w : (IntKind.i64.wrap (x4_1 + 1)) = ji8 := (i64_w _).trans hji8
              by_cases c9 : 0 ≤ (ji8)
              · rw [if_pos c9] at H
                have c9b0 : decide (0 ≤ (ji8)) = true := decide_eq_true c9
                clear c9
                obtain ⟨ji10, hji10⟩ : ∃ j_ : Int, (Int.tmod (IntKind.u16.wrap (Int.tdiv (rd l0 x4_1) 65)) 16) = j_ := ⟨_, rfl⟩
                replace H : (if 0 ≤ (ji10) then (if 0 ≤ (Int.tmod (wrap64 (rd l0 x4_1)) 65) then (if (Int.tmod (wrap64 (rd l0 x4_1)) 65) < (x3_1.length : Int) then (wringerlaw8_Freq.l0 k1 l0 (x3_1.set ((Int.tmod (wrap64 (rd l0 x4_1)) 65) : Int).toNat (shr .i64 (wrap64 (rd l0 (ji8))) (ji10))) (wrap64 (x4_1 + 2))) else (none)) else (none)) else (none)) = some r := by first | (rw [hji10] at H; exact H) | (simp only [hji10] at H ⊢; exact H)
                by_cases c11 : 0 ≤ (ji10)
                · rw [if_pos c11] at H
                  have c11b0 := eq_true c11
                  have c11b1 : decide (0 ≤ (ji10)) = true := decide_eq_true c11
                  clear c11
                  obtain ⟨ji12, hji12⟩ : ∃ j_ : Int, (shr .i64 (wrap64 (rd l0 (ji8))) (ji10)) = j_ := ⟨_, rfl⟩
                  replace H : (if 0 ≤ (Int.tmod (wrap64 (rd l0 x4_1)) 65) then (if (Int.tmod (wrap64 (rd l0 x4_1)) 65) < (x3_1.length : Int) then (wringerlaw8_Freq.l0 k1 l0 (x3_1.set ((Int.tmod (wrap64 (rd l0 x4_1)) 65) : Int).toNat (ji12)) (wrap64 (x4_1 + 2))) else (none)) else (none)) = some r := by first | (rw [hji12] at H; exact H) | (simp only [hji12] at H ⊢; exact H)
                  have hji12_ : ((wrap64 (rd l0 (ji8))) / 2 ^ min (ji10).toNat 64) = ji12 := hji12
                  have hji12z : (ji10) ≤ 64 → ((wrap64 (rd l0 (ji8))) / 2 ^ (ji10).toNat) = ji12 := shr_small hji12
                  obtain ⟨ji13, hji13⟩ : ∃ j_ : Int, (Int.tmod (wrap64 (rd l0 x4_1)) 65) = j_ := ⟨_, rfl⟩
                  replace H : (if 0 ≤ (ji13) then (if (ji13) < (x3_1.length : Int) then (wringerlaw8_Freq.l0 k1 l0 (x3_1.set ((ji13) : Int).toNat (ji12)) (wrap64 (x4_1 + 2))) else (none)) else (none)) = some r := by first | (rw [hji13] at H; exact H) | (simp only [hji13] at H ⊢; exact H)
                  by_cases c14 : 0 ≤ (ji13)
                  · rw [if_pos c14] at H
                    have c14b0 : decide (0 ≤ (ji13)) = true := decide_eq_true c14
                    clear c14
                    by_cases c15 : (ji13) < (x3_1.length : Int)
                    · rw [if_pos c15] at H
                      have c15b0 : decide ((ji13) < (x3_1.length : Int)) = true := decide_eq_true c15
                      clear c15
                      obtain ⟨y183, hy183⟩ : ∃ y_ : List Int, y_ = (x3_1.set ((ji13) : Int).toNat (ji12)) := ⟨_, rfl⟩
                      replace H : (wringerlaw8_Freq.l0 k1 l0 y183 (wrap64 (x4_1 + 2))) = some r := by first | (rw [hy183]; with_reducible exact H) | (have H2_ := (Option.bind_some _ _).symm.trans H; rw [hy183]; with_reducible exact H2_) | (have H2_ := (Option.bind_some _ _).symm.trans H; with_reducible exact H2_) | with_reducible exact H | (rw [hy183]; exact H) | exact H
                      have Ny183 := Aside0.mk hy183
                      clear hy183
                      have H' := Aside0.mk H
                      clear H
                      try go_wp2
                      have n0_ := Aside0.mk (Kd.R_drew HO_3.out)
                      have n1_ := Aside0.mk (below_drew1 HB.out)
                      clear HO_3
                      clear HB
                      have HO_3 := n0_
                      have HB := n1_
                      clear n0_ n1_
                      have p180 : 0 ≤ (x4_1 : Int) := of_decide_eq_true (by first | (with_reducible assumption) | assumption)
                      have q180 : x4_1 < (l0.length : Int) := of_decide_eq_true (by first | (with_reducible assumption) | assumption)
                      obtain ⟨ad180, e180, hx180_0⟩ := Kd.at_int HR0.out x4_1 p180 q180
                      have hw180_0 := hx180_0
                      cases e180
                      replace hx180_0 := (HB.out.cell (World.block_lt_of_cell? w _ hx180_0)).trans hx180_0
                      replace p180 := eq_true p180
                      replace q180 := eq_true q180
                      have p181 : 0 ≤ ((ji8) : Int) := of_decide_eq_true (by first | (with_reducible assumption) | assumption)
                      have q181 : (ji8) < (l0.length : Int) := of_decide_eq_true (by first | (with_reducible assumption) | assumption)
                      obtain ⟨ad181, e181, hx181_0⟩ := Kd.at_int HR0.out (ji8) p181 q181
                      have hw181_0 := hx181_0
                      obtain rfl : ad180 = ad181 := (by injection e181)
                      replace hx181_0 := (HB.out.cell (World.block_lt_of_cell? w _ hx181_0)).trans hx181_0
                      replace p181 := eq_true p181
                      replace q181 := eq_true q181
                      have p182 : 0 ≤ (x4_1 : Int) := of_decide_eq_true (by first | (with_reducible assumption) | assumption)
                      have q182 : x4_1 < (l0.length : Int) := of_decide_eq_true (by first | (with_reducible assumption) | assumption)
                      obtain ⟨ad182, e182, hx182_0⟩ := Kd.at_int HR0.out x4_1 p182 q182
                      have hw182_0 := hx182_0
                      obtain rfl : ad180 = ad182 := (by injection e182)
                      replace hx182_0 := (HB.out.cell (World.block_lt_of_cell? w _ hx182_0)).trans hx182_0
                      replace p182 := eq_true p182
                      replace q182 := eq_true q182
                      have p16 : 0 ≤ ((ji13) : Int) := of_decide_eq_true (by first | (with_reducible assumption) | assumption)
                      have q16 : ((ji13) : Int) < ((x3_1.length : Int) : Int) := of_decide_eq_true (by first | (with_reducible assumption) | assumption)
                      obtain ⟨go16, co16, eo16, gb16, gl16, cl16, HG16⟩ := Kd.R_form HO_3.out (by omega)
                      (first | cases eo16 | (injection eo16 with ea_ en_ ec_; (first | subst ea_ | (injection ea_ with ea_; subst ea_)); subst ec_; clear en_))
                      have GB16 := Aside0.mk gb16
                      have GG16 := Aside0.mk HG16
                      clear gb16 gl16 HG16
                      obtain ⟨hx16_0, hf16_0⟩ := Kd.R_celln 0 HO_3.out ((ji13) : Int) p16 q16
                      replace p16 := eq_true p16
                      replace q16 := eq_true q16
                      have HP18 := Kd.R_putn HO_3.out ((ji13) : Int) ji12
                      rw [← Ny183.out] at HP18
                      have HQ18 := Aside0.mk HP18
                      clear HP18
                      refine start_ (n := 22) (S := fun w' => w'.cell? (ad180.add (x4_1).toNat) = some (.int .u16 (rd l0 x4_1)) ∧ w'.cell? (ad180.add ((ji8)).toNat) = some (.int .u16 (rd l0 (ji8))) ∧ w'.cell? (ad180.add (x4_1).toNat) = some (.int .u16 (rd l0 x4_1))) (ds := [21]) #[false, false, false, false, false, false, false, false, false, false, false, false, false, false, false, false, false, false, false, false, false, false] (by kernel_rfl) rfl rfl ⟨((HB.out.cell (World.block_lt_of_cell? w _ hw180_0)).trans hw180_0), ((HB.out.cell (World.block_lt_of_cell? w _ hw181_0)).trans hw181_0), ((HB.out.cell (World.block_lt_of_cell? w _ hw182_0)).trans hw182_0)⟩ (fun hHeld => ?_); refine with_tabW wringerlaw8_Freq.tab5 wringerlaw8_Freq.bits5 (fun HT_ HW_ => ?_)
                      generalize wr.drew = w17 at HO_3 HB GG16 HQ18 hf16_0 hx16_0 hx180_0 hx181_0 hx182_0 hHeld ⊢
                      refine pure_ (i := 0) (N := some 13) (v := ?_) (a' := ?_) #[true, false, false, false, false, false, false, false, false, false, false, false, false, false, false, false, false, false, false, false, false, false] rfl rfl (any_of HT_.out (by kernel_rfl)) (fun _ _ _ h => h) (Or.inl ⟨by rfl, ?_⟩) ?_ ?_
                      rotate_left
                      · intro w'
                        go_simp
                        with_reducible rfl
                      rotate_left
                      · simp only [Act.put, List.setIfInBounds_toArray, List.set_cons_zero, List.set_cons_succ, i64_w, i32_w]
                        rfl
                      refine pure_ (i := 1) (N := some 14) (v := ?_) (a' := ?_) #[true, true, false, false, false, false, false, false, false, false, false, false, false, false, false, false, false, false, false, false, false, false] rfl rfl (any_of HT_.out (by kernel_rfl)) (fun _ _ _ h => h) (Or.inl ⟨by rfl, ?_⟩) ?_ ?_
                      rotate_left
                      · intro w'
                        go_simp
                        with_reducible rfl
                      rotate_left
                      · simp only [Act.put, List.setIfInBounds_toArray, List.set_cons_zero, List.set_cons_succ, i64_w, i32_w]
                        rfl
                      refine pure_ (i := 2) (N := some 15) (v := ?_) (a' := ?_) #[true, true, true, false, false, false, false, false, false, false, false, false, false, false, false, false, false, false, false, false, false, false] rfl rfl (any_of HT_.out (by kernel_rfl)) (fun _ _ _ h => h) (Or.inl ⟨by rfl, ?_⟩) ?_ ?_
                      rotate_left
                      · intro w'
                        go_simp
                        with_reducible rfl
                      rotate_left
                      · simp only [Act.put, List.setIfInBounds_toArray, List.set_cons_zero, List.set_cons_succ, i64_w, i32_w]
                        rfl
                      refine pure_ (i := 3) (N := some 16) (v := ?_) (a' := ?_) #[true, true, true, true, false, false, false, false, false, false, false, false, false, false, false, false, false, false, false, false, false, false] rfl rfl (any_of HT_.out (by kernel_rfl)) (fun _ _ _ h => h) (Or.inl ⟨by rfl, ?_⟩) ?_ ?_
                      rotate_left
                      · intro w'
                        go_simp
                        with_reducible rfl
                      rotate_left
                      · simp only [Act.put, List.setIfInBounds_toArray, List.set_cons_zero, List.set_cons_succ, i64_w, i32_w]
                        rfl
                      refine pure_ (i := 7) (N := some 20) (v := ?_) (a' := ?_) #[true, true, true, true, false, false, false, true, false, false, false, false, false, false, false, false, false, false, false, false, false, false] rfl rfl (any_of HT_.out (by kernel_rfl)) (fun _ _ _ h => h) (Or.inl ⟨by rfl, ?_⟩) ?_ ?_
                      rotate_left
                      · intro w'
                        go_simp
                        with_reducible rfl
                      rotate_left
                      · simp only [Act.put, List.setIfInBounds_toArray, List.set_cons_zero, List.set_cons_succ, i64_w, i32_w]
                        rfl
                      refine pure_ (i := 8) (N := some 21) (v := ?_) (a' := ?_) #[true, true, true, true, false, false, false, true, true, false, false, false, false, false, false, false, false, false, false, false, false, false] rfl rfl (any_of HT_.out (by kernel_rfl)) (fun _ _ _ h => h) (Or.inl ⟨by rfl, ?_⟩) ?_ ?_
                      rotate_left
                      · intro w'
                        go_simp
                        with_reducible rfl
                      rotate_left
                      · simp only [Act.put, List.setIfInBounds_toArray, List.set_cons_zero, List.set_cons_succ, i64_w, i32_w]
                        rfl
                      refine pure_ (i := 9) (N := some 22) (v := ?_) (a' := ?_) #[true, true, true, true, false, false, false, true, true, true, false, false, false, false, false, false, false, false, false, false, false, false] rfl rfl (any_of HT_.out (by kernel_rfl)) (fun _ _ _ h => h) (Or.inl ⟨by rfl, ?_⟩) ?_ ?_
                      rotate_left
                      · intro w'
                        go_simp
                        with_reducible rfl
                      rotate_left
                      · simp only [Act.put, List.setIfInBounds_toArray, List.set_cons_zero, List.set_cons_succ, i64_w, i32_w]
                        rfl
                      refine pure_ (i := 10) (N := some 23) (v := ?_) (a' := ?_) #[true, true, true, true, false, false, false, true, true, true, true, false, false, false, false, false, false, false, false, false, false, false] rfl rfl (any_of HT_.out (by kernel_rfl)) (fun _ _ _ h => h) (Or.inl ⟨by rfl, ?_⟩) ?_ ?_
                      rotate_left
                      · intro w'
                        go_simp
                        with_reducible rfl
                      rotate_left
                      · simp only [Act.put, List.setIfInBounds_toArray, List.set_cons_zero, List.set_cons_succ, i64_w, i32_w]
                        rfl
                      refine pure_ (i := 13) (N := some 26) (v := ?_) (a' := ?_) #[true, true, true, true, false, false, false, true, true, true, true, false, false, true, false, false, false, false, false, false, false, false] rfl rfl (any_of HT_.out (by kernel_rfl)) (fun _ _ _ h => h) (Or.inl ⟨by rfl, ?_⟩) ?_ ?_
                      rotate_left
                      · intro w'
                        go_simp
                        with_reducible rfl
                      rotate_left
                      · simp only [Act.put, List.setIfInBounds_toArray, List.set_cons_zero, List.set_cons_succ, i64_w, i32_w]
                        rfl
                      refine pure_ (i := 14) (N := some 27) (v := ?_) (a' := ?_) #[true, true, true, true, false, false, false, true, true, true, true, false, false, true, true, false, false, false, false, false, false, false] rfl rfl (any_of HT_.out (by kernel_rfl)) (fun _ _ _ h => h) (Or.inl ⟨by rfl, ?_⟩) ?_ ?_
                      rotate_left
                      · intro w'
                        go_simp
                        with_reducible rfl
                      rotate_left
                      · simp only [Act.put, List.setIfInBounds_toArray, List.set_cons_zero, List.set_cons_succ, i64_w, i32_w]
                        rfl
                      refine pure_ (i := 15) (N := some 28) (v := ?_) (a' := ?_) #[true, true, true, true, false, false, false, true, true, true, true, false, false, true, true, true, false, false, false, false, false, false] rfl rfl (any_of HT_.out (by kernel_rfl)) (fun _ _ _ h => h) (Or.inl ⟨by rfl, ?_⟩) ?_ ?_
                      rotate_left
                      · intro w'
                        go_simp
                        with_reducible rfl
                      rotate_left
                      · simp only [Act.put, List.setIfInBounds_toArray, List.set_cons_zero, List.set_cons_succ, i64_w, i32_w]
                        rfl
                      refine take_ (i := 4) (N := some 17) (v := ?_) (a' := ?_) #[true, true, true, true, true, false, false, true, true, true, true, false, false, true, true, true, false, false, false, false, false, false] rfl rfl (take_ofW HT_.out HW_.out (by kernel_rfl)) (fun _ _ _ h => h) (Or.inl ⟨by rfl, ?_⟩) hHeld ?_ ?_
                      rotate_left
                      · rintro w' ⟨s0, s1, s2⟩
                        go_simp
                        with_reducible rfl
                      rotate_left
                      · simp only [Act.put, List.setIfInBounds_toArray, List.set_cons_zero, List.set_cons_succ, i64_w, i32_w]
                        rfl
                      refine pure_ (i := 5) (N := some 18) (v := ?_) (a' := ?_) #[true, true, true, true, true, true, false, true, true, true, true, false, false, true, true, true, false, false, false, false, false, false] rfl rfl (any_of HT_.out (by kernel_rfl)) (fun _ _ _ h => h) (Or.inl ⟨by rfl, ?_⟩) ?_ ?_
                      rotate_left
                      · intro w'
                        go_simp
                        with_reducible rfl
                      rotate_left
                      · simp only [Act.put, List.setIfInBounds_toArray, List.set_cons_zero, List.set_cons_succ, i64_w, i32_w]
                        rfl
                      refine pure_ (i := 6) (N := some 19) (v := ?_) (a' := ?_) #[true, true, true, true, true, true, true, true, true, true, true, false, false, true, true, true, false, false, false, false, false, false] rfl rfl (any_of HT_.out (by kernel_rfl)) (fun _ _ _ h => h) (Or.inl ⟨by rfl, ?_⟩) ?_ ?_
                      rotate_left
                      · intro w'
                        go_simp
                        with_reducible rfl
                      rotate_left
                      · simp only [Act.put, List.setIfInBounds_toArray, List.set_cons_zero, List.set_cons_succ, i64_w, i32_w]
                        rfl
                      refine take_ (i := 11) (N := some 24) (v := ?_) (a' := ?_) #[true, true, true, true, true, true, true, true, true, true, true, true, false, true, true, true, false, false, false, false, false, false] rfl rfl (take_ofW HT_.out HW_.out (by kernel_rfl)) (fun _ _ _ h => h) (Or.inl ⟨by rfl, ?_⟩) hHeld ?_ ?_
                      rotate_left
                      · rintro w' ⟨s0, s1, s2⟩
                        go_simp
                        with_reducible rfl
                      rotate_left
                      · simp only [Act.put, List.setIfInBounds_toArray, List.set_cons_zero, List.set_cons_succ, i64_w, i32_w]
                        rfl
                      refine pure_ (i := 12) (N := some 25) (v := ?_) (a' := ?_) #[true, true, true, true, true, true, true, true, true, true, true, true, true, true, true, true, false, false, false, false, false, false] rfl rfl (any_of HT_.out (by kernel_rfl)) (fun _ _ _ h => h) (Or.inl ⟨by rfl, ?_⟩) ?_ ?_
                      rotate_left
                      · intro w'
                        go_simp
                        with_reducible rfl
                      rotate_left
                      · simp only [Act.put, List.setIfInBounds_toArray, List.set_cons_zero, List.set_cons_succ, i64_w, i32_w]
                        rfl
                      refine take_ (i := 16) (N := some 29) (v := ?_) (a' := ?_) #[true, true, true, true, true, true, true, true, true, true, true, true, true, true, true, true, true, false, false, false, false, false] rfl rfl (take_ofW HT_.out HW_.out (by kernel_rfl)) (fun _ _ _ h => h) (Or.inl ⟨by rfl, ?_⟩) hHeld ?_ ?_
                      rotate_left
                      · rintro w' ⟨s0, s1, s2⟩
                        go_simp
                        with_reducible rfl
                      rotate_left
                      · simp only [Act.put, List.setIfInBounds_toArray, List.set_cons_zero, List.set_cons_succ, i64_w, i32_w]
                        rfl
                      refine pure_ (i := 17) (N := some 30) (v := ?_) (a' := ?_) #[true, true, true, true, true, true, true, true, true, true, true, true, true, true, true, true, true, true, false, false, false, false] rfl rfl (any_of HT_.out (by kernel_rfl)) (fun _ _ _ h => h) (Or.inl ⟨by rfl, ?_⟩) ?_ ?_
                      rotate_left
                      · intro w'
                        go_simp
                        with_reducible rfl
                      rotate_left
                      · simp only [Act.put, List.setIfInBounds_toArray, List.set_cons_zero, List.set_cons_succ, i64_w, i32_w]
                        rfl
                      refine pure_ (i := 18) (N := some 31) (v := ?_) (a' := ?_) #[true, true, true, true, true, true, true, true, true, true, true, true, true, true, true, true, true, true, true, false, false, false] rfl rfl (any_of HT_.out (by kernel_rfl)) (fun _ _ _ h => h) (Or.inl ⟨by rfl, ?_⟩) ?_ ?_
                      rotate_left
                      · intro w'
                        go_simp
                        with_reducible rfl
                      rotate_left
                      · simp only [Act.put, List.setIfInBounds_toArray, List.set_cons_zero, List.set_cons_succ, i64_w, i32_w]
                        rfl
                      refine pure_ (i := 19) (N := some 32) (v := ?_) (a' := ?_) #[true, true, true, true, true, true, true, true, true, true, true, true, true, true, true, true, true, true, true, true, false, false] rfl rfl (any_of HT_.out (by kernel_rfl)) (fun _ _ _ h => h) (Or.inl ⟨by rfl, ?_⟩) ?_ ?_
                      rotate_left
                      · intro w'
                        go_simp
                        with_reducible rfl
                      rotate_left
                      · simp only [Act.put, List.setIfInBounds_toArray, List.set_cons_zero, List.set_cons_succ, i64_w, i32_w]
                        rfl
                      refine pure_ (i := 20) (N := some 33) (v := ?_) (a' := ?_) #[true, true, true, true, true, true, true, true, true, true, true, true, true, true, true, true, true, true, true, true, true, false] rfl rfl (any_of HT_.out (by kernel_rfl)) (fun _ _ _ h => h) (Or.inl ⟨by rfl, ?_⟩) ?_ ?_
                      rotate_left
                      · intro w'
                        go_simp
                        with_reducible rfl
                      rotate_left
                      · simp only [Act.put, List.setIfInBounds_toArray, List.set_cons_zero, List.set_cons_succ, i64_w, i32_w]
                        rfl
                      refine last_ (i := 21) (N := none) #[true, true, true, true, true, true, true, true, true, true, true, true, true, true, true, true, true, true, true, true, true, true] rfl rfl (one_of HT_.out (by kernel_rfl)) (by decide) (fun K hK => ?_)
                      refine skip_ (w1 := ?_) (by rfl) rfl ?_ ?_
                      rotate_left
                      · go_simp
                        rfl
                      refine hK.out _ _ ?_
                      clear hK K
                      refine done_ (done_of HT_.out (by kernel_rfl)) ?_
                      try go_wp2
                      go_roundg k1
                      case measure => have := HK1.out; omega
                      case rel => exact ⟨(y183), (wrap64 (x4_1 + 2)), (by first | rfl | (simp; done) | (simp [*]; done)), H', ⟨by have := HK1.out; omega⟩, ⟨by (with_reducible repeat (first | apply Kd.R_alloc | apply Kd.R_drewN | apply Kd.R_drew)); exact HQ18.out⟩, ⟨by repeat (first | (with_reducible first | exact HB.out | apply below_alloc | apply pw_below_drewN | apply below_drew1 | refine below_set ?_ GB16.out) | exact HB.out)⟩⟩
                    · rw [if_neg c15] at H
                      exact absurd H (by simp)
                  · rw [if_neg c14] at H
                    exact absurd H (by simp)
                · rw [if_neg c11] at H
                  exact absurd H (by simp)
              · rw [if_neg c9] at H
                exact absurd H (by simp)
            · rw [if_neg c7] at H
              exact absurd H (by simp)
          · rw [if_neg c6] at H
            exact absurd H (by simp)
        · rw [if_neg c5] at H
          have c5b0 : decide ((wrap64 (x4_1 + 1)) < (l0.length : Int)) = false := decide_eq_false c5
          clear c5
          obtain rfl := Option.some.inj H
          go_wp2
          go_ret
          exact ⟨_, by first | rfl | (simp [errW_none, errW_some] <;> rfl) | (simp [*, errW_none, errW_some] <;> rfl), by (with_reducible repeat (first | apply Kd.R_alloc | apply Kd.R_drewN | apply Kd.R_drew)); exact HO_3.out, by repeat (first | (with_reducible first | exact HB.out | apply below_alloc | apply pw_below_drewN | apply below_drew1) | exact HB.out)⟩
  · rw [if_neg c2] at H
    exact absurd H (by simp)

end Go.Proofs.Ytkplcibmhibjjaa.PA

-- ---- Uq
/- Frequencies by numbers: what they are good for. -/
namespace Go.Proofs.Ytkplcibmhibjjaa.PA
set_option linter.unusedVariables false
set_option linter.unusedSimpArgs false
open Go.RowKit Go.Proofs.YtkplcibmhibjjaaW.PrintWords Go.Proofs.YtkplcibmhibjjaaW.PrintLast Go.Proofs.YtkplcibmhibjjaaW.PrintMore Nl

/-- 65 numbers, none below nought, none above 65535. -/
structure FreqOk (f : List Int) : Prop where
  len : f.length = 65
  each : ∀ x ∈ f, 0 ≤ x ∧ x ≤ 65535
theorem mem_set_or {l : List Int} {i : Nat} {v x : Int} (h : x ∈ l.set i v) : x ∈ l ∨ x = v := List.mem_or_eq_of_mem_set h
theorem freqOk_set {f : List Int} (h : FreqOk f) (i : Nat) (v : Int) (h0 : 0 ≤ v) (h1 : v ≤ 65535) : FreqOk (f.set i v) :=
  ⟨by rw [List.length_set]; exact h.len, fun x hx => by
    rcases mem_set_or hx with hx | rfl
    · exact h.each x hx
    · exact ⟨h0, h1⟩⟩
theorem u16_at {ns : List Int} (h : ∀ x ∈ ns, (Lit.int .u16 x).wf = true) (i : Nat) (hi : i < ns.length) : ∃ v : Nat, ns.getD i 0 = (v : Int) ∧ v ≤ 65535 := by
  have hw := h _ (getD_mem hi)
  simp only [Lit.wf, Bool.and_eq_true, decide_eq_true_eq] at hw
  have h1 : IntKind.u16.min = 0 := rfl
  have h2 : IntKind.u16.max = 65535 := rfl
  exact ⟨(ns.getD i 0).toNat, by omega, by omega⟩
theorem u16_wrap (n : Nat) (h : n ≤ 65535) : IntKind.u16.wrap (n : Int) = (n : Int) := by
  simp [IntKind.wrap, IntKind.bits, IntKind.signed]; omega
theorem freq_l0 (ns : List Int) (hw : ∀ x ∈ ns, (Lit.int .u16 x).wf = true) (hl : ns.length < 1000000) : ∀ (d i : Nat) (f : List Int), i + d = ns.length + 1 → FreqOk f →
    ∃ g, Ev (fun k => wringerlaw8_Freq.l0 k ns f (i : Int)) g ∧ FreqOk g := by
  intro d
  induction d using Nat.strongRecOn with
  | _ d ih =>
    intro i f hi hf
    by_cases hlt : i + 1 < ns.length
    · obtain ⟨v, hv, hvb⟩ := u16_at hw i (by omega)
      obtain ⟨u, hu, hub⟩ := u16_at hw (i + 1) hlt
      have hfl := hf.len
      have e5 : u / 2 ^ (v / 65 % 16) ≤ u := Nat.div_le_self _ _
      obtain ⟨p, hp⟩ : ∃ p, p = u / 2 ^ (v / 65 % 16) := ⟨_, rfl⟩
      rw [← hp] at e5
      obtain ⟨g, hg, hgf⟩ := ih (d - 2) (by omega) (i + 2) (f.set (v % 65) (p : Int)) (by omega) (freqOk_set hf _ _ (by omega) (by omega))
      refine ⟨g, Ev.step (f := fun k => wringerlaw8_Freq.l0 k ns (f.set (v % 65) (p : Int)) ((i + 2 : Nat) : Int)) (fun k => ?_) hg, hgf⟩
      have c1 : ((i + 1 : Nat) : Int) < (ns.length : Int) := by omega
      have c2 : (0 : Int) ≤ (i : Int) := by omega
      have c3 : (i : Int) < (ns.length : Int) := by omega
      have c4 : (0 : Int) ≤ ((i + 1 : Nat) : Int) := by omega
      have c5 : (0 : Int) ≤ ((v / 65 % 16 : Nat) : Int) := Int.natCast_nonneg _
      have c6 : (0 : Int) ≤ ((v % 65 : Nat) : Int) := Int.natCast_nonneg _
      have c7 : ((v % 65 : Nat) : Int) < (f.length : Int) := by omega
      have w1 : wrap64 ((i : Int) + 1) = ((i + 1 : Nat) : Int) := by rw [w64 (by omega) (by omega)]; rfl
      have w2 : wrap64 ((i : Int) + 2) = ((i + 2 : Nat) : Int) := by clear w1; rw [w64 (by omega) (by omega)]; rfl
      have w3 : wrap64 (v : Int) = (v : Int) := by clear w1 w2; exact w64 (by omega) (by omega)
      have w4 : wrap64 (u : Int) = (u : Int) := by clear w1 w2 w3; exact w64 (by omega) (by omega)
      have w5 : IntKind.u16.wrap ((v / 65 : Nat) : Int) = ((v / 65 : Nat) : Int) := by clear w1 w2 w3 w4; exact u16_wrap _ (by omega)
      have e4 := shr_nat u (v / 65 % 16) (by clear w1 w2 w3 w4 w5; omega)
      rw [← hp] at e4
      have e1 : Int.tdiv (v : Int) 65 = ((v / 65 : Nat) : Int) := tdiv_nat v 65
      have e2 : Int.tmod (v : Int) 65 = ((v % 65 : Nat) : Int) := tmod_nat v 65
      have e3 : Int.tmod ((v / 65 : Nat) : Int) 16 = ((v / 65 % 16 : Nat) : Int) := tmod_nat _ 16
      simp only [wringerlaw8_Freq.l0]
      rw [w1, w2, rd_nat, rd_nat, hv, hu, w3, w4, e1, w5, e3, e2, e4]
      rw [if_pos c1, if_pos c2, if_pos c3, if_pos c4, if_pos c5, if_pos c6, if_pos c7, Int.toNat_natCast]
    · refine ⟨f, Ev.step (f := fun _ => some f) (fun k => ?_) (Ev.now _), hf⟩
      simp only [wringerlaw8_Freq.l0]
      rw [w64 (x := (i : Int) + 1) (by omega) (by omega), if_neg (by omega)]
theorem freq_is (ns : List Int) (hw : ∀ x ∈ ns, (Lit.int .u16 x).wf = true) (hl : ns.length < 1000000) : ∃ f, Ev (fun k => wringerlaw8_Freq.f k ns) f ∧ FreqOk f := by
  obtain ⟨g, hg, hgf⟩ := freq_l0 ns hw hl (ns.length + 1) 0 (List.replicate 65 0) (by omega) ⟨by simp, fun x hx => by rw [(List.mem_replicate.1 hx).2]; omega⟩
  refine ⟨g, ?_, hgf⟩
  unfold wringerlaw8_Freq.f
  exact Ev.ite_pos (by decide) hg

/-- One more of one class: then they may be asked. -/
theorem fr_more {f : List Int} (h : FreqOk f) (i : Nat) (hi : i < 65) : Fr (f.set i (f.getD i 0 + 1)) := by
  have hg := h.each _ (getD_mem (show i < f.length by rw [h.len]; exact hi))
  have hx : ∀ x ∈ f.set i (f.getD i 0 + 1), 0 ≤ x ∧ x ≤ 65536 := fun x hx => by
    rcases mem_set_or hx with hx | rfl
    · have := h.each x hx; omega
    · omega
  refine ⟨by rw [List.length_set]; exact h.len, fun x hm => (hx x hm).1, fun x hm => by have := (hx x hm).2; omega, ?_⟩
  have h1 := sum_bump f i 1 (by rw [h.len]; exact hi)
  unfold bump at h1
  rw [h1]
  have := sum_nonneg f fun x hx => (h.each x hx).1
  omega
end Go.Proofs.Ytkplcibmhibjjaa.PA
