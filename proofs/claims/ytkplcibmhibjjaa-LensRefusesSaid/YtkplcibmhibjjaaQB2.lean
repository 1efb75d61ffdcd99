/- Part B2 of what the layer's laws stand on: Lr, Lt, My, Ls, PAx13, PAx14, PAx15, PAx5, PAx7, PAx8, PAx9, Ue, Ug. Written by a program (merge.py) out of this session's own texts and of what the kit's print wrote over stand-ins (sp.py). Conditions: those that each theorem names. -/
import Derived.Test.YtkplcibmhibjjaaQB1
import Derived.OwnWalk
import Derived.Laws.BitsLemmas
-- ---- Lr
/- lens.Put: the bytes of lengths: what the call answers. Conditions: the list reads as the argument does. -/
namespace Go.Proofs.Ytkplcibmhibjjaa.PA
open Go.RowKit Go.Proofs.YtkplcibmhibjjaaW.PrintWords Go.Proofs.YtkplcibmhibjjaaW.PrintLast Go.Proofs.YtkplcibmhibjjaaW.PrintMore
open Mix Own Bits Lp Dp
set_option linter.unusedVariables false
set_option linter.unusedSimpArgs false
attribute [local go_sem] Own.max_int Own.min_int

theorem noughts_l0 (l : List Int) (hl : l.length < 1000000) : ∀ (d i : Nat), i + d = 16 → i ≤ l.length → (∀ q, q < i → l.getD q 0 = 0) →
    Ev (fun k => lens_noughts.l0 k l (i : Int)) ((i + runC d (l.drop i) : Nat) : Int) := by
  intro d
  induction d with
  | zero =>
    intro i hi hil h0
    refine Ev.step (f := fun _ => some (i : Int)) (fun k => by simp only [lens_noughts.l0]; rw [mn_min, if_neg (by omega)]) (Ev.ofSome ?_)
    simp [runC]
  | succ d ih =>
    intro i hi hil h0
    by_cases hlt : i < l.length
    · have hdr := dropG l i hlt
      by_cases hz : l.getD i 0 = 0
      · refine evq ?_ (Ev.step (f := fun k => lens_noughts.l0 k l ((i + 1 : Nat) : Int)) (fun k => ?_) (ih (i + 1) (by omega) (by omega) (fun q hq => by
          by_cases e : q = i
          · rw [e]; exact hz
          · exact h0 q (by omega))))
        · rw [hdr, hz]; simp only [runC]; rw [if_pos trivial]; congr 1; omega
        · simp only [lens_noughts.l0]
          rw [mn_min, if_pos (by omega), if_pos (by omega), if_pos (by omega), rd_nat, if_pos hz, w64 (by omega) (by omega)]; rfl
      · refine Ev.step (f := fun _ => some (i : Int)) (fun k => ?_) (Ev.ofSome ?_)
        · simp only [lens_noughts.l0]
          rw [mn_min, if_pos (by omega), if_pos (by omega), if_pos (by omega), rd_nat, if_neg hz]
        · rw [hdr]; simp only [runC]; rw [if_neg hz]; simp
    · refine Ev.step (f := fun _ => some (i : Int)) (fun k => by simp only [lens_noughts.l0]; rw [mn_min, if_neg (by omega)]) (Ev.ofSome ?_)
      rw [List.drop_eq_nil_of_le (by omega)]; simp [runC]
theorem noughts_is (l : List Int) (hl : l.length < 1000000) : Ev (fun k => lens_noughts.f k l) ((runC 16 l : Nat) : Int) := by
  unfold lens_noughts.f
  have := noughts_l0 l hl 16 0 (by omega) (by omega) (fun q h => by omega)
  rw [Nat.zero_add, List.drop_zero] at this
  exact this

def sliceLen : Value → Nat
  | .slice _ n _ => n
  | _ => 0
/-- The rest of a row from a place on, as Go cuts it. -/
theorem C_drop {k : IntKind} {w : World} {A : Option Addr} {n C q : Nat} {xs : List Int} (h : Kd.C (Kd.int k) w A n xs) (hC : n ≤ C) (hq : q ≤ n) :
    Kd.C (Kd.int k) w (if C = q then A else A.map fun x => x.add q) (n - q) (xs.drop q) := by
  have hl : xs.length = n := h.1
  refine ⟨by rw [List.length_drop, hl], by have := h.2.1; omega, fun h0 => ?_⟩
  have hr := rd_of_C h
  obtain ⟨x, rfl, _⟩ := hr.at (ints_at k xs 0 (by omega))
  rw [if_neg (by omega)]
  refine ⟨x.add q, rfl, fun i y hy => ?_⟩
  rw [List.getElem?_drop] at hy
  have hi : q + i < xs.length := (List.getElem?_eq_some_iff.1 hy).1
  obtain ⟨x2, hx2, hc⟩ := hr.at (ints_at k xs (q + i) hi)
  cases hx2
  have e : xs.getD (q + i) 0 = y := by rw [List.getD_eq_getElem?_getD, hy]; rfl
  rw [e] at hc
  refine ⟨[.int k y], rfl, rfl, fun j u hj => ?_⟩
  match j, hj with
  | 0, hj => simp at hj; subst hj; rw [Own.add_add]; simpa [Kd.int, Kd.scalar] using hc

set_option maxHeartbeats 4000000 in
theorem lput_calls (A0 : Option Addr) (c0 : Nat) (l : List Int) (w : World) (hr0 : Kd.C (Kd.int .i64) w A0 l.length l) (hc0 : l.length ≤ c0) :
    Calls Try.prog 10 #[.slice A0 l.length c0] w fun e w' => e = .returned (.string (putL l)) ∧ Below w.heap.size w w' := by
  obtain ⟨k, hk⟩ := (may_is l).rounds
  have hm := canon_May.calls k A0 c0 l _ w hr0 hc0 hk
  have hR := Own.rd_of_C hr0
  obtain ⟨n0, hn0⟩ : ∃ n0, n0 = l.length := ⟨_, rfl⟩
  cases hml : mayL l with
  | false =>
    rw [hml] at hm
    have HE : Kept (putL l = ⟨#[]⟩) := kept (by unfold putL; rw [hml]; rfl)
    rw [← hn0] at hm ⊢
    have HM := kept hm
    clear hr0 hc0 hk hm hR hml hn0
    go_enter Try.func10, Try.ntmps10
    go_wp2_with (first | (go_at_call 18; refine HM.out.mono ?_; rintro e w1 ⟨rfl, ⟨⟨nd, rfl⟩⟩⟩))
    go_ret
    exact ⟨by rw [HE.out]; rfl, (pw_below_drewN (Below.refl _ _) _)⟩
  | true =>
    rw [hml] at hm
    obtain ⟨h65, hrange⟩ := mayL_range hml
    have HE : Kept (putL l = textOf (pack (bitsN (nibL l)))) := kept (by unfold putL; rw [hml]; rfl)
    obtain ⟨B, hB⟩ : ∃ B, B = w.heap.size := ⟨_, rfl⟩
    rw [h65] at hm hr0 hc0 ⊢
    rw [← hB]
    have HB := kept hB
    have HM := kept hm
    have HR := kept hr0
    have HL := kept h65
    have HRg := kept hrange
    clear hr0 hk hm hR hml h65 hrange hB hn0
    go_enter Try.func10, Try.ntmps10
    go_wp2_with (first | (go_at_call 18; refine HM.out.mono ?_; rintro e w1 ⟨rfl, ⟨⟨nd, rfl⟩⟩⟩) | (go_at_call 20; refine (new_new B _ (by rw [HB.out]; simp)).mono ?_; rintro e wa ⟨pa, rfl, hWa, hba, hpa⟩; have HWa := kept hWa; have HBa : Kept (Below B w wa) := kept (by rw [HB.out]; exact (pw_below_drewN (Below.refl _ _) _).trans (hba.mono (by simp))); have HSa : Kept (B ≤ wa.heap.size) := kept (by have := HBa.out.size; rw [HB.out]; exact this); clear hWa hba hpa))
    go_loopw [5] (fun s5 wr => ∃ (A : Option Addr) (C : Nat) (t : List Int) (v : Value) (done : List Nat), s5 = .slice A t.length C ∧ Kd.C (Kd.int .i64) w A t.length t ∧ t.length ≤ C ∧ (∀ x ∈ t, 0 ≤ x ∧ x ≤ 15) ∧ NewW B wr pa v (bitsN done) ∧ Below B w wr ∧ B ≤ wr.heap.size ∧ done ++ nibL t = nibL l ∧ done.length + 2 * t.length ≤ 130) (fun s5 _ => sliceLen s5)
    case atStart => exact ⟨A0, c0, l, _, [], by rw [HL.out], by rw [HL.out]; exact HR.out, by rw [HL.out]; exact hc0, HRg.out, HWa.out, HBa.out, HSa.out, rfl, by rw [HL.out]; simp⟩
    case round =>
      obtain ⟨A, C, t, v, done, rfl, hR, hC, hrg, hW, hb, hs, hd, hdl⟩ := hrel
      obtain ⟨wq, rfl⟩ : ∃ wq, wq = wr := ⟨wr, rfl⟩
      have HW := kept hW
      have HBl := kept hb
      have HS := kept hs
      have HD := kept hd
      have hbl := length_bitsN done
      have hbl2 : (bitsN done).length < 1000000000000 := by omega
      have HBL := kept hbl2
      clear hW hb hs hd hbl hbl2 HWa HBa HSa
      cases t with
      | nil =>
        have HN : Kept (nibL l = done) := kept (by
          have h := HD.out
          rw [nibL_nil, List.append_nil] at h
          exact h.symm)
        have hby := bytes_calls pa v _ wq HW.out.is
        rw [← HN.out, ← HE.out] at hby
        have HBy := kept hby
        simp only [List.length_nil]
        clear hby hR hC hrg hdl
        go_wp2_with (first | (go_at_call 23; refine HBy.out.mono ?_; rintro e w' ⟨rfl, rfl⟩))
        go_ret
        exact ⟨rfl, HBl.out⟩
      | cons x t =>
        have hx := hrg x (by simp)
        obtain ⟨y, rfl⟩ : ∃ y : Nat, x = (y : Int) := ⟨x.toNat, by omega⟩
        have hy15 : y ≤ 15 := by omega
        have hrd := rd_of_C hR
        obtain ⟨ad, rfl, hcw⟩ := hrd.at (Own.ints_at .i64 ((y : Int) :: t) 0 (by simp))
        rw [show ad.add 0 = ad by unfold Addr.add; simp] at hcw
        have hxB : ad.block < B := by rw [HB.out]; exact World.block_lt_of_cell? w _ hcw
        have hc := (HBl.out.cell hxB).trans hcw
        simp only [List.getD_cons_zero] at hc
        obtain ⟨kn, hkn⟩ := (noughts_is ((y : Int) :: t) (by simp at hdl ⊢; omega)).rounds
        have hcn := lens_noughts.calls kn (some ad) C ((y : Int) :: t) _ wq (Kd.C_below hR (by rw [← HB.out]; exact HBl.out)) hC hkn
        have HRt := kept hR
        have hC2 : t.length + 1 ≤ C := hC
        have HRg2 := kept hrg
        have hdl2 : done.length + 2 * (t.length + 1) ≤ 130 := hdl
        simp only [List.length_cons] at hcn ⊢
        clear hR hC hrg hrd hkn hcw hdl hx
        by_cases hy0 : y = 0
        · subst hy0
          have hR1 : 1 ≤ runC 16 ((0 : Int) :: t) := runC_pos 15 t
          have hR2 := runC_le 16 ((0 : Int) :: t)
          have hnz := nibL_zero t
          obtain ⟨r, hr⟩ : ∃ r, runC 16 ((0 : Int) :: t) = r + 1 := ⟨runC 16 ((0 : Int) :: t) - 1, by omega⟩
          rw [show (((0 : Nat) : Int) :: t) = (0 : Int) :: t from rfl] at hcn HRt HRg2 HD
          rw [hr] at hcn hR2 hnz
          obtain ⟨hr16, hrt⟩ := hR2
          simp only [List.length_cons] at hrt
          have HNz := kept hnz
          have HCn := kept hcn
          have HPut := kept (put_new B pa v (bitsN done) 0 4 wq HS.out HW.out HBL.out (by decide) (by decide) (by decide))
          have hnb : Kept (done ++ [0] ++ [r] ++ nibL (((0 : Int) :: t).drop (r + 1)) = nibL l) := kept (by
            have h := HD.out
            rw [HNz.out, Nat.add_sub_cancel] at h
            rw [← h]; simp)
          have HDr := kept (by have h := C_drop HRt.out hC2 (show r + 1 ≤ t.length + 1 by omega); exact h)
          have HPut := kept (fun w1 (hW1 : NewW B w1 pa v (bitsN done)) (hB1 : B ≤ w1.heap.size) => put_new B pa v (bitsN done) 0 4 w1 hB1 hW1 HBL.out (by decide) (by decide) (by decide))
          have hbl3 := length_bitsN (done ++ [0])
          have hbl4 : (bitsN (done ++ [0])).length < 1000000000000 := by rw [hbl3]; simp; omega
          have HPut2 := kept (fun v2 w1 (hW1 : NewW B w1 pa v2 (bitsN (done ++ [0]))) (hB1 : B ≤ w1.heap.size) => put_new B pa v2 (bitsN (done ++ [0])) r 4 w1 hB1 hW1 hbl4 (by omega) (by decide) (by decide))
          clear hcn hnz hr hR1 hbl3 hbl4
          go_wp2_with fail
          refine HCn.out.mono ?_
          rintro e w2 ⟨rfl, hb2⟩
          have HW2 := kept (HW.out.later hb2)
          have HB2 := kept (HBl.out.trans (hb2.mono HS.out))
          have HS2 := kept (Nat.le_trans HS.out hb2.size)
          clear hb2 hc
          have trz : (((r : Int) + 1) == 0) = false := by rw [beq_eq_false_iff_ne]; omega
          go_wp2_with fail
          refine (HPut.out _ HW2.out HS2.out).mono ?_
          rw [clamp4]
          rintro e w3 ⟨rfl, v3, hW3, hb3, hc3, hg3⟩
          have HW3 : Kept (NewW B w3 pa v3 (bitsN (done ++ [0]))) := kept (by rw [bitsN_append, bitsN_cons]; simpa [bitsN] using hW3)
          have HB3 := kept (HB2.out.trans hb3)
          have HS3 := kept (Nat.le_trans HS2.out hb3.size)
          clear hW3 hb3 hc3 hg3
          go_wp2_with fail
          refine (HPut2.out v3 _ HW3.out HS3.out).mono ?_
          rw [clamp4]
          rintro e w4 ⟨rfl, v4, hW4, hb4, hc4, hg4⟩
          have HW4 := kept hW4
          have HB4 := kept (HB3.out.trans hb4)
          have HS4 := kept (Nat.le_trans HS3.out hb4.size)
          clear hW4 hb4 hc4 hg4
          have hrC : r + 1 ≤ C := by omega
          go_wp2_with fail
          go_roundw
          case rel =>
            refine ⟨_, _, t.drop r, v4, done ++ [0] ++ [r], by rw [List.length_drop], ?_, ?_, ?_, ?_, ?_, ?_, ?_, ?_⟩
            · have h := HDr.out
              simpa [Addr.add] using h
            · rw [List.length_drop]; omega
            · exact fun x hx => HRg2.out x (List.mem_cons_of_mem _ (List.mem_of_mem_drop hx))
            · rw [bitsN_append (done ++ [0])]; simpa [bitsN] using HW4.out
            · exact HB4.out
            · exact HS4.out
            · simpa using hnb.out
            · simp; omega
          case measure => simp [sliceLen]; omega
        · have hyz : (y : Int) ≠ 0 := by omega
          have hr0 : runC 16 ((y : Int) :: t) = 0 := by simp only [runC]; rw [if_neg hyz]
          rw [hr0] at hcn
          have hnb : Kept (done ++ [y] ++ nibL t = nibL l) := kept (by
            have h := HD.out
            rw [nibL_pos _ _ hyz, Int.toNat_natCast] at h
            rw [← h]; simp)
          have HCn := kept hcn
          have HDr := kept (by have h := C_drop HRt.out hC2 (show 1 ≤ t.length + 1 by omega); exact h)
          have HPut := kept (fun w1 (hW1 : NewW B w1 pa v (bitsN done)) (hB1 : B ≤ w1.heap.size) => put_new B pa v (bitsN done) y 4 w1 hB1 hW1 HBL.out (by omega) (by decide) (by decide))
          clear hcn hr0
          go_wp2_with (first | (go_at_call 22; refine HCn.out.mono ?_; rintro e w2 ⟨rfl, hb2⟩; have hc2 := (hb2.cell (by have := HS.out; omega)).trans hc; have HW2 := kept (HW.out.later hb2); have HB2 := kept (HBl.out.trans (hb2.mono HS.out)); have HS2 := kept (Nat.le_trans HS.out hb2.size); clear hb2 hc) | (go_at_call 21; refine (HPut.out _ HW2.out HS2.out).mono ?_; rw [clamp4]; rintro e w3 ⟨rfl, v3, hW3, hb3, hc3, hg3⟩; have HW3 := kept hW3; have HB3 := kept (HB2.out.trans hb3); have HS3 := kept (Nat.le_trans HS2.out hb3.size); clear hW3 hb3 hc3 hg3))
          go_roundw
          case rel =>
            refine ⟨_, _, t, v3, done ++ [y], rfl, ?_, ?_, ?_, ?_, ?_, ?_, ?_, ?_⟩
            · have h := HDr.out
              simpa [Addr.add] using h
            · omega
            · exact fun x hx => HRg2.out x (List.mem_cons_of_mem _ hx)
            · rw [bitsN_append, bitsN_cons]; simpa [bitsN] using HW3.out
            · exact HB3.out
            · exact HS3.out
            · exact hnb.out
            · simp; omega
          case measure => simp [sliceLen]
end Go.Proofs.Ytkplcibmhibjjaa.PA

-- ---- Lt
/- Four bits at a place of bytes. No program in sight. -/
namespace Go.Proofs.Ytkplcibmhibjjaa.Lp
set_option linter.unusedSimpArgs false
set_option linter.unusedVariables false
open Dp Bits

theorem size_extract (s : ByteArray) (m : Nat) (h : m ≤ s.size) : (s.extract m s.size).size = s.size - m := by
  simp [ByteArray.size_extract]
theorem byteS_extract (s : ByteArray) (m i : Nat) (h : m + i < s.size) : byteS (s.extract m s.size) i = byteS s (m + i) := by
  unfold byteS
  congr 1
  simp only [List.getD_eq_getElem?_getD, Array.getElem?_toList, ByteArray.data_extract]
  rw [Array.getElem?_extract]
  have e : s.data.size = s.size := rfl
  simp only [e]
  rw [if_pos (by omega)]
theorem nibAt_extract (s : ByteArray) (m h : Nat) (hh : m + h / 2 < s.size) : nibAt (s.extract m s.size) h = nibAt s (2 * m + h) := by
  unfold nibAt
  rw [byteS_extract s m _ hh, show (2 * m + h) / 2 = m + h / 2 by omega, show (2 * m + h) % 2 = h % 2 by omega]
theorem parse_extract (s : ByteArray) (m : Nat) (hm : m ≤ s.size) : ∀ (f h : Nat) (acc : List Int), parse s f (2 * m + h) acc = (parse (s.extract m s.size) f h acc).map fun q => (q.1, 2 * m + q.2) := by
  intro f
  induction f with
  | zero => intro h acc; rfl
  | succ f ih =>
    intro h acc
    have hsz := size_extract s m hm
    simp only [parse]
    by_cases h65 : 65 ≤ acc.length
    · rw [if_pos h65, if_pos h65]; rfl
    · rw [if_neg h65, if_neg h65, hsz]
      by_cases h1 : s.size ≤ (2 * m + h) / 2
      · rw [if_pos h1, if_pos (show s.size - m ≤ h / 2 by omega)]; rfl
      · rw [if_neg h1, if_neg (show ¬ s.size - m ≤ h / 2 by omega), nibAt_extract s m h (by omega)]
        by_cases h2 : 0 < nibAt s (2 * m + h)
        · rw [if_pos h2, if_pos h2, show 2 * m + h + 1 = 2 * m + (h + 1) by omega, ih]
        · rw [if_neg h2, if_neg h2]
          by_cases h3 : s.size ≤ (2 * m + h + 1) / 2
          · rw [if_pos h3, if_pos (show s.size - m ≤ (h + 1) / 2 by omega)]; rfl
          · rw [if_neg h3, if_neg (show ¬ s.size - m ≤ (h + 1) / 2 by omega), nibAt_extract s m (h + 1) (by omega), show 2 * m + h + 2 = 2 * m + (h + 2) by omega, ih, show 2 * m + h + 1 = 2 * m + (h + 1) by omega]
/-- Four bits are got. -/
theorem ofBits_four (s : ByteArray) (h : Nat) (hh : h / 2 < s.size) : ofBits (((bitsS s).drop (4 * h)).take 4) = nibAt s h := by
  apply Nat.eq_of_testBit_eq
  intro i
  rw [testBit_ofBits, List.getD_eq_getElem?_getD, List.getElem?_take]
  unfold nibAt
  rw [show 16 = 2 ^ 4 from rfl, Nat.testBit_mod_two_pow, Nat.testBit_div_two_pow]
  by_cases hi : i < 4
  · rw [if_pos hi, List.getElem?_drop, ← List.getD_eq_getElem?_getD, getD_bitsS]
    have e1 : (4 * h + i) / 8 = h / 2 := by omega
    have e2 : (4 * h + i) % 8 = i + h % 2 * 4 := by omega
    have e3 : 4 * h + i < 8 * s.size := by omega
    simp only [e3, hi, decide_true, Bool.true_and, bitS, e1, e2]
  · rw [if_neg hi]; simp [hi]
theorem getS_four (s : ByteArray) (h : Nat) : getS s (4 * h) 4 = if s.size ≤ h / 2 then (0, 2, 4 * h) else (nibAt s h, 0, 4 * (h + 1)) := by
  unfold getS
  rw [if_neg (by omega)]
  by_cases hh : s.size ≤ h / 2
  · rw [if_pos (by omega), if_pos hh]
  · rw [if_neg (by omega), if_neg hh]
    have := ofBits_four s h (by omega)
    rw [show (4 : Int).toNat = 4 from rfl, this]
    congr 1
end Go.Proofs.Ytkplcibmhibjjaa.Lp

-- ---- My
/- Several rows of one-cell elements that a call owns side by side: each in a block of its own. No program in sight. -/
namespace Go.Proofs.Ytkplcibmhibjjaa.Own
set_option linter.unusedSimpArgs false
set_option linter.unusedVariables false
open Go Go.RowKit

/-- In no block both. -/
def Dj (u v : Value) : Prop := ∀ b, u.ownBlock = some b → v.ownBlock ≠ some b
theorem Dj.symm {u v : Value} (h : Dj u v) : Dj v u := fun b h1 h2 => h b h2 h1
/-- These rows, each alone in its block, all from block B on. -/
structure Many (B : Nat) (w : World) (e : TypeId) (R : List (Value × List Value)) : Prop where
  own : ∀ (i : Nat) v xs, R[i]? = some (v, xs) → Owns w e v xs
  new : ∀ (i : Nat) v xs, R[i]? = some (v, xs) → ∀ b, v.ownBlock = some b → B ≤ b
  sep : ∀ (i j : Nat) a xs b ys, i ≠ j → R[i]? = some (a, xs) → R[j]? = some (b, ys) → Dj a b

theorem Many.nil (B : Nat) (w : World) (e : TypeId) : Many B w e [] := ⟨fun i v xs h => by simp at h, fun i v xs h => by simp at h, fun i j a xs b ys _ h => by simp at h⟩
theorem Many.chg {B : Nat} {w w' : World} {S : Nat → Prop} {e : TypeId} {R : List (Value × List Value)} (h : Many B w e R) (hc : Chg S w w') (hn : ∀ (i : Nat) v xs, R[i]? = some (v, xs) → ∀ g, v.ownBlock = some g → ¬ S g) : Many B w' e R :=
  ⟨fun i v xs hi => (h.own i v xs hi).chg hc (hn i v xs hi), h.new, h.sep⟩
theorem Many.later {B : Nat} {w w' : World} {e : TypeId} {R : List (Value × List Value)} (h : Many B w e R) (hb : Below w.heap.size w w') : Many B w' e R :=
  ⟨fun i v xs hi => (h.own i v xs hi).keep fun g hg hl => hb.block g hl, h.new, h.sep⟩
/-- One row has turned. -/
theorem Many.set {B : Nat} {w w' : World} {e : TypeId} {R : List (Value × List Value)} (h : Many B w e R) (i : Nat) {v v' : Value} {xs xs' : List Value} (hi : R[i]? = some (v, xs)) (hc : Chg (fun k => some k = v.ownBlock) w w')
    (ho : Owns w' e v' xs') (hn : ∀ g, v'.ownBlock = some g → some g = v.ownBlock ∨ w.heap.size ≤ g) (hB : B ≤ w.heap.size) : Many B w' e (R.set i (v', xs')) := by
  have hil : i < R.length := (List.getElem?_eq_some_iff.1 hi).1
  refine ⟨fun j u ys hj => ?_, fun j u ys hj b hb => ?_, fun j k a ys b zs hjk hj hk => ?_⟩
  · by_cases e1 : j = i
    · subst e1
      rw [List.getElem?_set_self hil, Option.some.injEq, Prod.mk.injEq] at hj
      obtain ⟨rfl, rfl⟩ := hj; exact ho
    · rw [List.getElem?_set_ne (fun e => e1 e.symm)] at hj
      exact (h.own j u ys hj).chg hc fun g hg hs => h.sep j i u ys v xs e1 hj hi g hg hs.symm
  · by_cases e1 : j = i
    · subst e1
      rw [List.getElem?_set_self hil, Option.some.injEq, Prod.mk.injEq] at hj
      obtain ⟨rfl, rfl⟩ := hj
      rcases hn b hb with h1 | h1
      · exact h.new j v xs hi b h1.symm
      · omega
    · rw [List.getElem?_set_ne (fun e => e1 e.symm)] at hj; exact h.new j u ys hj b hb
  · have other : ∀ (m : Nat) (u : Value) (us : List Value), m ≠ i → R[m]? = some (u, us) → Dj u v' := fun m u us hm hmu g hg hv => by
      rcases hn g hv with h1 | h1
      · exact h.sep m i u us v xs hm hmu hi g hg h1.symm
      · have := (h.own m u us hmu).lt g hg; omega
    by_cases e1 : j = i
    · subst e1
      have e2 : k ≠ j := fun e => hjk e.symm
      rw [List.getElem?_set_self hil, Option.some.injEq, Prod.mk.injEq] at hj
      rw [List.getElem?_set_ne (fun e => e2 e.symm)] at hk
      obtain ⟨rfl, rfl⟩ := hj
      exact (other k b zs e2 hk).symm
    · rw [List.getElem?_set_ne (fun e => e1 e.symm)] at hj
      by_cases e2 : k = i
      · subst e2
        rw [List.getElem?_set_self hil, Option.some.injEq, Prod.mk.injEq] at hk
        obtain ⟨rfl, rfl⟩ := hk
        exact other j a ys e1 hj
      · rw [List.getElem?_set_ne (fun e => e2 e.symm)] at hk
        exact h.sep j k a ys b zs hjk hj hk
/-- A new row. -/
theorem Many.add {B : Nat} {w w' : World} {e : TypeId} {R : List (Value × List Value)} (h : Many B w e R) (hb : Below w.heap.size w w') {v : Value} {xs : List Value} (ho : Owns w' e v xs) (hn : ∀ g, v.ownBlock = some g → w.heap.size ≤ g) (hB : B ≤ w.heap.size) : Many B w' e (R ++ [(v, xs)]) := by
  have h' := h.later hb
  have last : ∀ (j : Nat) u ys, (R ++ [(v, xs)])[j]? = some (u, ys) → R[j]? = some (u, ys) ∨ (j = R.length ∧ u = v ∧ ys = xs) := fun j u ys hj => by
    rcases Nat.lt_trichotomy j R.length with h1 | h1 | h1
    · rw [List.getElem?_append_left h1] at hj; exact .inl hj
    · subst h1
      rw [List.getElem?_append_right (Nat.le_refl _)] at hj
      simp at hj; exact .inr ⟨rfl, hj.1.symm, hj.2.symm⟩
    · rw [List.getElem?_eq_none (by simp; omega)] at hj; cases hj
  have oth : ∀ (j : Nat) u ys, R[j]? = some (u, ys) → Dj u v := fun j u ys hj g hg hv => by
    have := (h.own j u ys hj).lt g hg; have := hn g hv; omega
  refine ⟨fun j u ys hj => ?_, fun j u ys hj b hb => ?_, fun j k a ys b zs hjk hj hk => ?_⟩
  · rcases last j u ys hj with h1 | ⟨_, rfl, rfl⟩
    · exact h'.own j u ys h1
    · exact ho
  · rcases last j u ys hj with h1 | ⟨_, rfl, rfl⟩
    · exact h'.new j u ys h1 b hb
    · have := hn b hb; omega
  · rcases last j a ys hj with h1 | ⟨rfl, rfl, rfl⟩
    · rcases last k b zs hk with h2 | ⟨rfl, rfl, rfl⟩
      · exact h'.sep j k a ys b zs hjk h1 h2
      · exact oth j a ys h1
    · rcases last k b zs hk with h2 | ⟨rfl, rfl, rfl⟩
      · exact (oth k b zs h2).symm
      · exact absurd rfl hjk
/-- A block of another type stays. -/
theorem Many.other {B : Nat} {w w' : World} {e t : TypeId} {R : List (Value × List Value)} (h : Many B w e R) (i : Nat) {v : Value} {xs : List Value} (hi : R[i]? = some (v, xs)) (hc : Chg (fun k => some k = v.ownBlock) w w') {p : Nat} {cs : Array Value} (hp : Blk w p cs t) (hne : e ≠ t) : Blk w' p cs t :=
  hc.keep hp fun hs => (h.own i v xs hi).ne hp hne hs.symm
/-- A block of another type is written. -/
theorem Many.setBlk {B : Nat} {w : World} {e t : TypeId} {R : List (Value × List Value)} (h : Many B w e R) {p : Nat} {cs : Array Value} (hp : Blk w p cs t) (hne : e ≠ t) (j : Nat) (u : Value) : Many B (w.setCell ⟨p, j, none⟩ u) e R :=
  h.chg (Chg.setCell w _ _) fun i v xs hi g hg hs => (h.own i v xs hi).ne hp hne (by rw [hg]; exact congrArg some hs)
theorem Many.below {B : Nat} {w w' : World} {e : TypeId} {R : List (Value × List Value)} (h : Many B w e R) (i : Nat) {v : Value} {xs : List Value} (hi : R[i]? = some (v, xs)) (hc : Chg (fun k => some k = v.ownBlock) w w') (hB : B ≤ w.heap.size) : Below B w w' :=
  hc.below hB fun k hk hs => by have := h.new i v xs hi k hs.symm; omega
/-- One cell of a row is written. -/
theorem Many.store {B : Nat} {w : World} {e : TypeId} {R : List (Value × List Value)} (h : Many B w e R) (i : Nat) {g n cap : Nat} {xs : List Value} (hi : R[i]? = some (.slice (some ⟨g, 0, none⟩) n cap, xs)) (j : Nat) (u : Value) (hB : B ≤ w.heap.size) :
    Many B (w.setCell ⟨g, j, none⟩ u) e (R.set i (.slice (some ⟨g, 0, none⟩) n cap, xs.set j u)) :=
  h.set i hi (by have := Chg.setCell w ⟨g, j, none⟩ u; exact this.mono fun k _ hk => by rw [hk]; rfl) ((h.own i _ _ hi).store j u) (fun b hb => .inl hb.symm) hB
end Go.Proofs.Ytkplcibmhibjjaa.Own
namespace Go.Proofs.Ytkplcibmhibjjaa
open Go.RowKit Own
theorem sliceI {w : World} {e : TypeId} {k : IntKind} {v : Value} {xs : List Int} (h : Owns w e v (ints k xs)) : ∃ a c, v = .slice a xs.length c := by
  obtain ⟨a, c, h, _⟩ := h.slice
  exact ⟨a, c, by rw [h, length_ints]⟩
theorem rowI {w : World} {e : TypeId} {k : IntKind} {v : Value} {xs : List Int} (h : Owns w e v (ints k xs)) (hx : xs ≠ []) : ∃ g c, v = .slice (some ⟨g, 0, none⟩) xs.length c ∧ xs.length ≤ c ∧ g < w.heap.size := by
  obtain ⟨g, c, h1, h2, h3⟩ := h.row (by intro e; exact hx (by have := congrArg List.length e; rw [length_ints] at this; exact List.length_eq_zero_iff.1 this))
  rw [length_ints] at h1 h2
  exact ⟨g, c, h1, h2, h3⟩
theorem ints_set (k : IntKind) (l : List Int) (i : Nat) (v : Int) : ints k (l.set i v) = (ints k l).set i (.int k v) := by simp [ints, List.map_set]
end Go.Proofs.Ytkplcibmhibjjaa

-- ---- Ls
/- lens.Get: the lengths that stand at a place: what the call answers. Conditions: the text is not longer than a thousand million bytes. -/
namespace Go.Proofs.Ytkplcibmhibjjaa.PA
open Go.RowKit Go.Proofs.YtkplcibmhibjjaaW.PrintWords Go.Proofs.YtkplcibmhibjjaaW.PrintLast Go.Proofs.YtkplcibmhibjjaaW.PrintMore
open Mix Own Bits Lp Dp
set_option linter.unusedVariables false
set_option linter.unusedSimpArgs false
attribute [local go_sem] Own.max_int Own.min_int

theorem infoIntL : (Try.prog.info? 3).map (fun i => (i.zero, i.size, i.bytes)) = some (some (.int .i64 0), 1, 8) := by kernel_rfl
theorem info_partsL {i : Option TypeInfo} {z : Value} {s b : Nat} (h : i.map (fun i => (i.zero, i.size, i.bytes)) = some (some z, s, b)) : ∃ i0, i = some i0 ∧ i0.zero = some z ∧ i0.size = s ∧ i0.bytes = b := by
  cases i with
  | none => simp at h
  | some i => simp at h; exact ⟨i, rfl, h.1, h.2.1, h.2.2⟩

set_option maxHeartbeats 2000000 in
theorem lget_arg (s : ByteArray) (a : Int) (w : World) (hs : s.size ≤ 1000000000) (ha : a < 0 ∨ (s.size : Int) < a) :
    Calls Try.prog 8 #[.string s, .int .i64 a] w fun e w' => e = .returned (.tuple #[.slice none 0 0, .int .i64 0, .int .i64 1]) ∧ w = w' := by
  by_cases h0 : a < 0
  · have t1 : decide (a < 0) = true := decide_eq_true h0
    clear ha
    go_enter Try.func8, Try.ntmps8
    go_wp2_with fail
    go_ret3
    exact ⟨rfl, rfl⟩
  · have t1 : decide (a < 0) = false := decide_eq_false h0
    have h1 : (s.size : Int) < a := by omega
    have t2 : decide ((s.size : Int) < a) = true := decide_eq_true h1
    clear ha
    go_enter Try.func8, Try.ntmps8
    go_wp2_with fail
    go_ret3
    exact ⟨rfl, rfl⟩

/-- On the way: the reader at p, the lengths at v. -/
structure StG (B : Nat) (w wr : World) (p : Nat) (s : ByteArray) (h : Nat) (v : Value) (acc : List Int) : Prop where
  rd : IsRd wr p s (4 * h)
  pB : B ≤ p
  own : Owns wr 3 v (ints .i64 acc)
  new : ∀ g, v.ownBlock = some g → B ≤ g
  low : Below B w wr
  sz : B ≤ wr.heap.size

theorem StG.got {B : Nat} {w wr w' : World} {p : Nat} {s : ByteArray} {h h' : Nat} {v : Value} {acc : List Int} (hS : StG B w wr p s h v acc) (h1 : IsRd w' p s (4 * h')) (h2 : Below B wr w') (h3 : Chg (fun b => b = p) wr w') : StG B w w' p s h' v acc :=
  ⟨h1, hS.pB, hS.own.chg h3 fun g hg e => by subst e; exact hS.own.ne hS.rd (by decide) hg, hS.new, hS.low.trans h2, Nat.le_trans hS.sz h2.size⟩
theorem StG.app {B : Nat} {w wr w' : World} {p : Nat} {s : ByteArray} {h : Nat} {v v' : Value} {acc acc' : List Int} (hS : StG B w wr p s h v acc) (ho : Owns w' 3 v' (ints .i64 acc')) (hc : Chg (fun k => some k = v.ownBlock) wr w') (hn : ∀ g, v'.ownBlock = some g → some g = v.ownBlock ∨ wr.heap.size ≤ g) : StG B w w' p s h v' acc' := by
  have hb : Below B wr w' := hc.below hS.sz fun k hk e => by have := hS.new k e.symm; omega
  exact ⟨hc.keep hS.rd fun e => hS.own.ne hS.rd (by decide) e.symm, hS.pB, ho, fun g hg => by
    rcases hn g hg with h | h
    · exact hS.new g h.symm
    · have := hS.sz; omega, hS.low.trans hb, Nat.le_trans hS.sz hb.size⟩

def sLen : Value → Nat
  | .slice _ n _ => n
  | _ => 0

set_option maxHeartbeats 1000000 in
theorem lget_calls (s : ByteArray) (m : Nat) (w : World) (hs : s.size ≤ 1000000000) (hm : m ≤ s.size) :
    Calls Try.prog 8 #[.string s, .int .i64 (m : Int)] w fun e w' => ∃ v, e = .returned (.tuple #[v, .int .i64 (getL s m).2.1, .int .i64 (getL s m).2.2]) ∧ Owns w' 3 v (ints .i64 (getL s m).1) ∧ (∀ g, v.ownBlock = some g → w.heap.size ≤ g) ∧ Below w.heap.size w w' := by
  obtain ⟨i0, hi, hz0, hz1, hz2⟩ := info_partsL infoIntL
  obtain ⟨B, hB⟩ : ∃ B, B = w.heap.size := ⟨_, rfl⟩
  obtain ⟨z, hz⟩ : ∃ z, z = s.extract m s.size := ⟨_, rfl⟩
  have hzs : z.size = s.size - m := by rw [hz]; exact size_extract s m hm
  have t1 : decide ((m : Int) < 0) = false := decide_eq_false (by omega)
  have t2 : decide ((s.size : Int) < (m : Int)) = false := decide_eq_false (by omega)
  have HB := kept hB
  have HZ := kept hz
  rw [← hB]
  clear hB hz
  go_enter Try.func8, Try.ntmps8
  go_wp2_with fail
  rw [← HZ.out]
  refine (from_calls z w).mono ?_
  rintro e w1 ⟨p, rfl, hR, hb, hp⟩
  have HS : Kept (StG B w w1 p z 0 (.slice none 0 0) []) := kept ⟨hR, by rw [HB.out]; exact hp, Owns.nil _ _, fun g hg => by simp [Value.ownBlock] at hg, by rw [HB.out]; exact hb, by rw [HB.out]; exact hb.size⟩
  clear hR hb hp
  go_wp2_with fail
  go_loopw [4, 8] (fun s4 s8 wr => ∃ (v : Value) (acc : List Int) (h f : Nat), s4 = v ∧ s8 = .int .i64 (h : Int) ∧ StG B w wr p z h v acc ∧ parse z 66 0 [] = parse z f h acc ∧ 66 ≤ f + acc.length ∧ 1 ≤ f ∧ acc.length ≤ 80 ∧ h ≤ 2 * z.size ∧ (∀ x ∈ acc, 0 ≤ x ∧ x ≤ 15)) (fun s4 _ _ => 65 - sLen s4)
  case atStart => exact ⟨_, [], 0, 66, rfl, rfl, HS.out, rfl, by simp, by omega, by simp, by omega, fun x hx => by cases hx⟩
  case round =>
    obtain ⟨v, acc, h, f, rfl, rfl, hst, hpa, hf, hf1, hal, hh, hrg⟩ := hrel
    obtain ⟨av, cv, hv⟩ := sliceI hst.own
    subst hv
    obtain ⟨wq, rfl⟩ : ∃ wq, wq = wr := ⟨wr, rfl⟩
    by_cases h65 : acc.length < 65
    · obtain ⟨f, rfl⟩ : ∃ f', f = f' + 1 := ⟨f - 1, by omega⟩
      have hpe : parse z (f + 1) h acc = if z.size ≤ h / 2 then none else if 0 < nibAt z h then parse z f (h + 1) (acc ++ [(nibAt z h : Int)]) else if z.size ≤ (h + 1) / 2 then none else parse z f (h + 2) (acc ++ List.replicate (nibAt z (h + 1) + 1) 0) := by
        simp only [parse]; rw [if_neg (by omega)]
      have hget := get_new B p z (4 * h) 4 wq hst.sz hst.pB hst.rd (by omega) (by omega)
      rw [getS_four] at hget
      have HSt := kept hst
      have HAcc := kept hrg
      have HHs := kept hzs
      clear hst hrg HS
      by_cases hend : z.size ≤ h / 2
      · rw [if_pos hend] at hget hpe
        have hnone : parse s 66 (2 * m) [] = none := by
          have := parse_extract s m hm 66 0 []
          rw [Nat.add_zero, ← HZ.out, hpa, hpe] at this; exact this
        have HE : Kept (getL s (m : Int) = ([], 0, 2)) := kept (by unfold getL; rw [if_neg (by omega), Int.toNat_natCast, hnone])
        have HGet := kept hget
        clear hget hpe hpa hnone
        go_wp2_with (first | (go_at_call 17; refine HGet.out.mono ?_; rintro e w3 ⟨rfl, hR3, hb3, hc3⟩; have HB3 := kept (HSt.out.low.trans hb3); clear hR3 hb3 hc3))
        go_ret3
        exact ⟨_, by rw [HE.out]; rfl, by rw [HE.out]; exact Owns.nil _ _, fun g hg => by simp [Value.ownBlock] at hg, HB3.out⟩
      · rw [if_neg hend] at hget hpe
        obtain ⟨n, hn⟩ : ∃ n, n = nibAt z h := ⟨_, rfl⟩
        have hn16 : n < 16 := by rw [hn]; exact nibAt_lt z h
        rw [← hn] at hget hpe
        have HGet := kept hget
        clear hget
        by_cases hn0 : 0 < n
        · rw [if_pos hn0] at hpe
          have HPa : Kept (parse z 66 0 [] = parse z f (h + 1) (acc ++ List.replicate (0 + 1) (n : Int))) := kept (by rw [hpa, hpe]; rfl)
          have HRg : Kept (∀ x ∈ acc ++ List.replicate (0 + 1) (n : Int), 0 ≤ x ∧ x ≤ 15) := kept (fun x hx => by
            rcases List.mem_append.1 hx with hx | hx
            · exact HAcc.out x hx
            · have := (List.mem_replicate.1 hx).2; omega)
          have tn : ((n : Int) == 0) = false := by rw [beq_eq_false_iff_ne]; omega
          clear hpe hpa hn
          go_wp2_with fail
          refine HGet.out.mono ?_
          rintro e w3 ⟨rfl, hR3, hb3, hc3⟩
          have HS3 := kept (HSt.out.got hR3 hb3 hc3)
          clear hR3 hb3 hc3
          go_wp2_with fail
          go_loopw [4, 50] (fun s4 s50 wx => ∃ (vj : Value) (j : Nat), s4 = vj ∧ s50 = .int .u64 (j : Int) ∧ j ≤ 0 + 1 ∧ StG B w wx p z (h + 1) vj (acc ++ List.replicate j (n : Int))) (fun _ s50 _ => 0 + 1 - (intOf s50).toNat)
          case atStart => exact ⟨_, 0, rfl, rfl, by omega, by simpa using HS3.out⟩
          case round =>
            obtain ⟨_, j, rfl, rfl, hj, hst⟩ := hrel
            obtain ⟨aj, cj, hvj⟩ := sliceI hst.own
            subst hvj
            have hlv : (acc ++ List.replicate j (n : Int)).length = acc.length + j := by simp
            rw [hlv] at hst ⊢
            by_cases hjq : j < 0 + 1
            · have HSj := kept hst
              have hlj : (acc ++ List.replicate j (n : Int)).length ≤ 97 := by simp; omega
              have HLj := kept hlj
              clear hst hlj
              go_wp2_with (first | (at_builtin; go_loud (refine wpList_app1 rfl _ _ 22 rfl 3 i0 (.int .i64 0) 8 Try.underlying22 hi hz0 hz1 hz2 rfl (.slice aj (acc.length + j) cj) _ (.int .i64 (n : Int)) rfl HSj.out.own rfl rfl ?_ ?_ ?_)))
              · have := HLj.out; simp only [length_ints, maxLen]; omega
              · have := HLj.out; simp only [length_ints]; omega
              intro v5 w5 O5 C5 F5
              have e5 : ints .i64 (acc ++ List.replicate j (n : Int)) ++ [.int .i64 (n : Int)] = ints .i64 (acc ++ List.replicate (j + 1) (n : Int)) := by simp [ints, List.replicate_succ', ← List.append_assoc]
              rw [e5] at O5
              have HS5 := kept (HSj.out.app O5 C5 F5)
              clear O5 C5 F5 e5
              go_wp2_with fail
              go_roundw
              case rel => exact ⟨v5, j + 1, rfl, by go_num, by omega, HS5.out⟩
              case measure => simp [intOf]; omega
            · have hje : j = 0 + 1 := by omega
              subst hje
              have HSj := kept hst
              clear hst hjq
              go_wp2_with fail
              go_roundw
              case rel => exact ⟨_, _, h + 1, f, rfl, by go_num, HSj.out, HPa.out, by simp; omega, by omega, by simp; omega, by omega, HRg.out⟩
              case measure => simp [sLen]; omega
        · have hnz : n = 0 := by omega
          subst hnz
          rw [if_neg hn0] at hpe
          have HPe := kept hpe
          have HPa0 := kept hpa
          clear hpe hpa hn hn0
          go_wp2_with fail
          refine HGet.out.mono ?_
          rintro e w2 ⟨rfl, hR2, hb2, hc2⟩
          have HS2 := kept (HSt.out.got hR2 hb2 hc2)
          have hget2 := get_new B p z (4 * (h + 1)) 4 w2 HS2.out.sz HS2.out.pB HS2.out.rd (by omega) (by omega)
          rw [getS_four] at hget2
          have hpe := HPe.out
          have hpa := HPa0.out
          clear hR2 hb2 hc2
          by_cases hend2 : z.size ≤ (h + 1) / 2
          · rw [if_pos hend2] at hget2 hpe
            have hnone : parse s 66 (2 * m) [] = none := by
              have := parse_extract s m hm 66 0 []
              rw [Nat.add_zero, ← HZ.out, hpa, hpe] at this; exact this
            have HE : Kept (getL s (m : Int) = ([], 0, 2)) := kept (by unfold getL; rw [if_neg (by omega), Int.toNat_natCast, hnone])
            have HGet2 := kept hget2
            clear hget2 hpe hpa hnone
            go_wp2_with fail
            refine HGet2.out.mono ?_
            rintro e w3 ⟨rfl, hR3, hb3, hc3⟩
            have HB3 := kept (HS2.out.low.trans hb3)
            clear hR3 hb3 hc3
            go_wp2_with fail
            go_ret3
            exact ⟨_, by rw [HE.out]; rfl, by rw [HE.out]; exact Owns.nil _ _, fun g hg => by simp [Value.ownBlock] at hg, HB3.out⟩
          · rw [if_neg hend2] at hget2 hpe
            obtain ⟨q, hq⟩ : ∃ q, q = nibAt z (h + 1) := ⟨_, rfl⟩
            have hq16 : q < 16 := by rw [hq]; exact nibAt_lt z (h + 1)
            rw [← hq] at hget2 hpe
            have HPa : Kept (parse z 66 0 [] = parse z f (h + 2) (acc ++ List.replicate (q + 1) 0)) := kept (by rw [hpa, hpe])
            have HRg : Kept (∀ x ∈ acc ++ List.replicate (q + 1) 0, 0 ≤ x ∧ x ≤ 15) := kept (fun x hx => by
              rcases List.mem_append.1 hx with hx | hx
              · exact HAcc.out x hx
              · have := (List.mem_replicate.1 hx).2; omega)
            have HGet2 := kept hget2
            clear hget2 hpe hpa hq
            go_wp2_with fail
            refine HGet2.out.mono ?_
            rintro e w3 ⟨rfl, hR3, hb3, hc3⟩
            have HS3 := kept (HS2.out.got hR3 hb3 hc3)
            clear hR3 hb3 hc3
            go_wp2_with fail
            go_loopw [4, 50] (fun s4 s50 wx => ∃ (vj : Value) (j : Nat), s4 = vj ∧ s50 = .int .u64 (j : Int) ∧ j ≤ q + 1 ∧ StG B w wx p z (h + 1 + 1) vj (acc ++ List.replicate j 0)) (fun _ s50 _ => q + 1 - (intOf s50).toNat)
            case atStart => exact ⟨_, 0, rfl, rfl, by omega, by simpa using HS3.out⟩
            case round =>
              obtain ⟨_, j, rfl, rfl, hj, hst⟩ := hrel
              obtain ⟨aj, cj, hvj⟩ := sliceI hst.own
              subst hvj
              have hlv : (acc ++ List.replicate j (0 : Int)).length = acc.length + j := by simp
              rw [hlv] at hst ⊢
              by_cases hjq : j < q + 1
              · have HSj := kept hst
                have hlj : (acc ++ List.replicate j 0).length ≤ 97 := by simp; omega
                have HLj := kept hlj
                clear hst hlj
                go_wp2_with (first | (at_builtin; go_loud (refine wpList_app1 rfl _ _ 22 rfl 3 i0 (.int .i64 0) 8 Try.underlying22 hi hz0 hz1 hz2 rfl (.slice aj (acc.length + j) cj) _ (.int .i64 0) rfl HSj.out.own rfl rfl ?_ ?_ ?_)))
                · have := HLj.out; simp only [length_ints, maxLen]; omega
                · have := HLj.out; simp only [length_ints]; omega
                intro v5 w5 O5 C5 F5
                have e5 : ints .i64 (acc ++ List.replicate j 0) ++ [.int .i64 0] = ints .i64 (acc ++ List.replicate (j + 1) 0) := by simp [ints, List.replicate_succ', ← List.append_assoc]
                rw [e5] at O5
                have HS5 := kept (HSj.out.app O5 C5 F5)
                clear O5 C5 F5 e5
                go_wp2_with fail
                go_roundw
                case rel => exact ⟨v5, j + 1, rfl, by go_num, by omega, HS5.out⟩
                case measure => simp [intOf]; omega
              · have hje : j = q + 1 := by omega
                subst hje
                have HSj := kept hst
                clear hst hjq
                go_wp2_with fail
                go_roundw
                case rel => exact ⟨_, _, h + 1 + 1, f, rfl, by go_num, HSj.out, HPa.out, by simp; omega, by omega, by simp; omega, by omega, HRg.out⟩
                case measure => simp [sLen]; omega
    · have hpe : parse z f h acc = some (acc, h) := by
        obtain ⟨f, rfl⟩ : ∃ f', f = f' + 1 := ⟨f - 1, by omega⟩
        simp only [parse]; rw [if_pos (by omega)]
      have hsome : parse s 66 (2 * m) [] = some (acc, 2 * m + h) := by
        have := parse_extract s m hm 66 0 []
        rw [Nat.add_zero, ← HZ.out, hpa, hpe] at this; exact this
      have hcv : acc.length ≤ cv := by
        obtain ⟨a2, c2, hv2, h1, h2, _⟩ := hst.own.rd
        simp only [Value.slice.injEq, length_ints] at hv2 h1
        obtain ⟨_, _, rfl⟩ := hv2; exact h1
      have hCn : ∀ n : Lat wq, Kd.C (Kd.int .i64) n.w av acc.length acc := fun n => C_of_rd (hst.own.rd.later n.below)
      obtain ⟨k, hk⟩ := (may_is acc).rounds
      have hMay : ∀ n : Lat wq, Calls Try.prog 18 #[.slice av acc.length cv] n.w fun e w' => e = .returned (.bool (mayL acc)) ∧ Below n.w.heap.size n.w w' := fun n =>
        (canon_May.calls k av cv acc _ n.w (hCn n) hcv hk).mono fun e w' ⟨he, hd⟩ => ⟨he, hd.below⟩
      have hPut : ∀ n : Lat wq, Calls Try.prog 10 #[.slice av acc.length cv] n.w fun e w' => e = .returned (.string (putL acc)) ∧ Below n.w.heap.size n.w w' := fun n =>
        lput_calls av cv acc n.w (hCn n) hcv
      have HSome := kept hsome
      have HMay := kept hMay
      have HPut := kept hPut
      have HSt := kept hst
      clear hpe hpa hsome hCn hMay hPut hst hk hcv
      go_upto_region 21 with fail
      by_cases hgt : 65 < acc.length
      · have tg : decide (65 < (acc.length : Int)) = true := decide_eq_true (by omega)
        refine wp_region_quietL (by kernel_rfl) (by kernel_rfl) ?_
        repeat (go_big_quiet_step (fail))
        refine wpQuiet_nil ?_
        intro nq
        have HE : Kept (getL s (m : Int) = ([], 0, 3)) := kept (by unfold getL; rw [if_neg (by omega), Int.toNat_natCast, HSome.out]; simp only; rw [if_neg (by omega)])
        go_wp2_with fail
        go_ret3
        exact ⟨_, by rw [HE.out]; rfl, by rw [HE.out]; exact Owns.nil _ _, fun g hg => by simp [Value.ownBlock] at hg, HSt.out.low.trans (nq.below.mono HSt.out.sz)⟩
      · have hl65 : acc.length = 65 := by omega
        have tg : decide (65 < (acc.length : Int)) = false := decide_eq_false (by omega)
        have HL65 := kept hl65
        clear hl65
        cases hml : mayL acc with
        | false =>
          rw [hml] at HMay
          have HE : Kept (getL s (m : Int) = ([], 0, 3)) := kept (by unfold getL; rw [if_neg (by omega), Int.toNat_natCast, HSome.out]; simp only; rw [if_neg (by rw [hml]; simp)])
          clear hml
          refine wp_region_quietL (by kernel_rfl) (by kernel_rfl) ?_
          repeat (go_big_quiet_step (first | (go_at_call 18; exact lat_call (HMay.out _))))
          refine wpQuiet_nil ?_
          intro nq
          go_wp2_with fail
          go_ret3
          exact ⟨_, by rw [HE.out]; rfl, by rw [HE.out]; exact Owns.nil _ _, fun g hg => by simp [Value.ownBlock] at hg, HSt.out.low.trans (nq.below.mono HSt.out.sz)⟩
        | true =>
          rw [hml] at HMay
          obtain ⟨T, hT⟩ : ∃ T, T = putL acc := ⟨_, rfl⟩
          rw [← hT] at HPut
          have HML := kept hml
          have HT := kept hT
          clear hml hT
          refine wp_region_quietL (by kernel_rfl) (by kernel_rfl) ?_
          repeat (go_big_quiet_step (first | (go_at_call 18; exact lat_call (HMay.out _)) | (go_at_call 10; exact lat_call (HPut.out _))))
          refine wpQuiet_nil ?_
          intro nq
          have hix : (2 * m + h + 1) / 2 = m + (h + 1) / 2 := by omega
          by_cases heq : T.toList = (s.extract m (m + (h + 1) / 2)).toList
          · have te : (T.toList == (s.extract m (m + (h + 1) / 2)).toList) = true := by rw [beq_iff_eq]; exact heq
            have HE : Kept (getL s (m : Int) = (acc, ((m + (h + 1) / 2 : Nat) : Int), 0)) := kept (by
              unfold getL; rw [if_neg (by omega), Int.toNat_natCast, HSome.out]; simp only
              rw [hix, if_pos ⟨HL65.out, HML.out, by rw [← HT.out]; exact heq⟩])
            have HTe := kept te
            clear hix heq te
            rw [HTe.out]
            go_wp2_with fail
            go_ret3
            have hl := HSt.out.own.keep (w' := nq.w) fun g _ hg => nq.below.block g hg
            exact ⟨_, by rw [HE.out]; rfl, by rw [HE.out]; exact hl, HSt.out.new, HSt.out.low.trans (nq.below.mono HSt.out.sz)⟩
          · have te : (T.toList == (s.extract m (m + (h + 1) / 2)).toList) = false := by rw [beq_eq_false_iff_ne]; exact heq
            have HE : Kept (getL s (m : Int) = ([], 0, 3)) := kept (by
              unfold getL; rw [if_neg (by omega), Int.toNat_natCast, HSome.out]; simp only
              rw [hix, if_neg (fun h => heq (by rw [HT.out]; exact h.2.2))])
            have HTe := kept te
            clear hix heq te
            rw [HTe.out]
            go_wp2_with fail
            go_ret3
            exact ⟨_, by rw [HE.out]; rfl, by rw [HE.out]; exact Owns.nil _ _, fun g hg => by simp [Value.ownBlock] at hg, HSt.out.low.trans (nq.below.mono HSt.out.sz)⟩
end Go.Proofs.Ytkplcibmhibjjaa.PA

-- ---- PAx13
/- The document's bytes of lengths: what the call answers, for every list. Conditions: none but a slice's. -/
namespace Go.Proofs.Ytkplcibmhibjjaa.PA
open Go.RowKit Go.Proofs.YtkplcibmhibjjaaW.PrintWords Go.Proofs.YtkplcibmhibjjaaW.PrintLast Go.Proofs.YtkplcibmhibjjaaW.PrintMore
set_option linter.unusedVariables false
set_option linter.unusedSimpArgs false

def wringerref7_PutLens.f (l0 : List Int) : Option (ByteArray) := some (Lp.putL l0)
theorem wringerref7_PutLens.calls (A0 : Option Addr) (c0 : Nat) (l0 : List Int) (r : ByteArray) (w : World) (hr0 : Kd.C (Kd.int .i64) w A0 l0.length l0) (hc0 : l0.length ≤ c0) (h : wringerref7_PutLens.f l0 = some r) :
    Calls Try.prog 11 #[.slice A0 l0.length c0] w fun e w' => e = .returned (.string r) ∧ Below w.heap.size w w' := by
  unfold wringerref7_PutLens.f at h
  cases h
  exact rputlens_calls A0 c0 l0 w hr0 hc0
end Go.Proofs.Ytkplcibmhibjjaa.PA

-- ---- PAx14

namespace Go.Proofs.Ytkplcibmhibjjaa.PA
open Go.RowKit Go.Proofs.YtkplcibmhibjjaaW.PrintWords Go.Proofs.YtkplcibmhibjjaaW.PrintLast Go.Proofs.YtkplcibmhibjjaaW.PrintMore
attribute [local go_sem] max2_int min2_int max_two min_two max_three min_three max_four min_four   -- for this text's walks alone
set_option linter.unusedVariables false
set_option linter.unusedSimpArgs false

/-! ### wringerref7_GetLens: function 9 -/
mutual
def wringerref7_GetLens.j0 : Nat → ByteArray → Int → Bool → Option (List Int × Int × Int)
  | 0, _, _, _ => none
  | k + 1, x0, x1, x16 => if x16 = true then (some (([] : List Int), 0, 1)) else (wringerref7_GetLens.l0 k x0 x1 ([] : List Int) (wrap64 (2 * x1)))
def wringerref7_GetLens.l0 : Nat → ByteArray → Int → List Int → Int → Option (List Int × Int × Int)
  | 0, _, _, _, _ => none
  | k + 1, x0, x1, x5, x6 => if (x5.length : Int) < 65 then (if (wrap64 (Int.tdiv x6 2)) ≥ (x0.size : Int) then (some (([] : List Int), 0, 2)) else (if 0 ≤ (wrap64 (Int.tdiv x6 2)) then (if (wrap64 (Int.tdiv x6 2)) < (x0.size : Int) then (if 0 ≤ (wrap64 ((Int.tmod x6 2) * 4)) then (if (Go.bits .and .i64 (shr .i64 (wrap64 (bt x0 (wrap64 (Int.tdiv x6 2)))) (wrap64 ((Int.tmod x6 2) * 4))) 15) > 0 then (if x5.length < 17592186044416 then (wringerref7_GetLens.l0 k x0 x1 (x5 ++ [Go.bits .and .i64 (shr .i64 (wrap64 (bt x0 (wrap64 (Int.tdiv x6 2)))) (wrap64 ((Int.tmod x6 2) * 4))) 15]) (wrap64 (x6 + 1))) else (none)) else (if (wrap64 (Int.tdiv (wrap64 (x6 + 1)) 2)) ≥ (x0.size : Int) then (some (([] : List Int), 0, 2)) else (if 0 ≤ (wrap64 (Int.tdiv (wrap64 (x6 + 1)) 2)) then (if (wrap64 (Int.tdiv (wrap64 (x6 + 1)) 2)) < (x0.size : Int) then (if 0 ≤ (wrap64 ((Int.tmod (wrap64 (x6 + 1)) 2) * 4)) then (if 0 ≤ (wrap64 ((Go.bits .and .i64 (shr .i64 (wrap64 (bt x0 (wrap64 (Int.tdiv (wrap64 (x6 + 1)) 2)))) (wrap64 ((Int.tmod (wrap64 (x6 + 1)) 2) * 4))) 15) + 1)) then (if x5.length + (wrap64 ((Go.bits .and .i64 (shr .i64 (wrap64 (bt x0 (wrap64 (Int.tdiv (wrap64 (x6 + 1)) 2)))) (wrap64 ((Int.tmod (wrap64 (x6 + 1)) 2) * 4))) 15) + 1) : Int).toNat < 17592186044416 then (wringerref7_GetLens.l0 k x0 x1 (x5 ++ List.replicate (wrap64 ((Go.bits .and .i64 (shr .i64 (wrap64 (bt x0 (wrap64 (Int.tdiv (wrap64 (x6 + 1)) 2)))) (wrap64 ((Int.tmod (wrap64 (x6 + 1)) 2) * 4))) 15) + 1) : Int).toNat 0) (wrap64 ((wrap64 (x6 + 1)) + 1))) else (none)) else (none)) else (none)) else (none)) else (none)))) else (none)) else (none)) else (none))) else (if (x5.length : Int) = 65 then ((wringerref7_MayLens.f k x5).bind fun t144 => (if t144 = true then ((wringerref7_PutLens.f x5).bind fun t145 => (if 0 ≤ x1 then (if x1 ≤ (wrap64 (Int.tdiv (wrap64 (x6 + 1)) 2)) then (if (wrap64 (Int.tdiv (wrap64 (x6 + 1)) 2)) ≤ (x0.size : Int) then (if t145.toList = (x0.extract (x1 : Int).toNat ((wrap64 (Int.tdiv (wrap64 (x6 + 1)) 2)) : Int).toNat).toList then (some (x5, wrap64 (Int.tdiv (wrap64 (x6 + 1)) 2), 0)) else (some (([] : List Int), 0, 3))) else (none)) else (none)) else (none))) else (some (([] : List Int), 0, 3)))) else (some (([] : List Int), 0, 3)))
end
def wringerref7_GetLens.f (k : Nat) (a0 : ByteArray) (a1 : Int) : Option (List Int × Int × Int) := if a1 < 0 then (wringerref7_GetLens.j0 k a0 a1 true) else (wringerref7_GetLens.j0 k a0 a1 (decide (a1 > (a0.size : Int))))
theorem wringerref7_GetLens.mono_l : ∀ k, (∀ y0 y1 y2, LeO (wringerref7_GetLens.j0 k y0 y1 y2) (wringerref7_GetLens.j0 (k + 1) y0 y1 y2)) ∧ (∀ y0 y1 y2 y3, LeO (wringerref7_GetLens.l0 k y0 y1 y2 y3) (wringerref7_GetLens.l0 (k + 1) y0 y1 y2 y3))
  | 0 => ⟨fun _ _ _ r h => by simp [wringerref7_GetLens.j0] at h, fun _ _ _ _ r h => by simp [wringerref7_GetLens.l0] at h⟩
  | k + 1 => by
    obtain ⟨ih0, ih1⟩ := wringerref7_GetLens.mono_l k
    refine ⟨?_, ?_⟩
    · intro y0 y1 y2
      unfold wringerref7_GetLens.j0
      repeat' first
      | (with_reducible exact ih0 _ _ _)
      | (with_reducible exact ih1 _ _ _ _)
      | (with_reducible exact wringerref7_MayLens.mono _ _)
      | (with_reducible exact LeO.refl _)
      | (with_reducible exact LeO.none _)
      | (with_reducible refine LeO.ite ?_ ?_)
      | (with_reducible refine LeO.bind ?_ (fun _ => ?_))
      | exact ih0 _ _ _
      | exact ih1 _ _ _ _
      | exact wringerref7_MayLens.mono _ _
      | exact LeO.none _
      | refine LeO.ite ?_ ?_
      | refine LeO.bind ?_ (fun _ => ?_)
    · intro y0 y1 y2 y3
      unfold wringerref7_GetLens.l0
      repeat' first
      | (with_reducible exact ih0 _ _ _)
      | (with_reducible exact ih1 _ _ _ _)
      | (with_reducible exact wringerref7_MayLens.mono _ _)
      | (with_reducible exact LeO.refl _)
      | (with_reducible exact LeO.none _)
      | (with_reducible refine LeO.ite ?_ ?_)
      | (with_reducible refine LeO.bind ?_ (fun _ => ?_))
      | exact ih0 _ _ _
      | exact ih1 _ _ _ _
      | exact wringerref7_MayLens.mono _ _
      | exact LeO.none _
      | refine LeO.ite ?_ ?_
      | refine LeO.bind ?_ (fun _ => ?_)
theorem wringerref7_GetLens.mono : ∀ a0 a1 k, LeO (wringerref7_GetLens.f k a0 a1) (wringerref7_GetLens.f (k + 1) a0 a1) := by
  intro a0 a1 k
  obtain ⟨ih0, ih1⟩ := wringerref7_GetLens.mono_l k
  unfold wringerref7_GetLens.f
  repeat' first
      | (with_reducible exact ih0 _ _ _)
      | (with_reducible exact ih1 _ _ _ _)
      | (with_reducible exact wringerref7_MayLens.mono _ _)
      | (with_reducible exact LeO.refl _)
      | (with_reducible exact LeO.none _)
      | (with_reducible refine LeO.ite ?_ ?_)
      | (with_reducible refine LeO.bind ?_ (fun _ => ?_))
      | exact ih0 _ _ _
      | exact ih1 _ _ _ _
      | exact wringerref7_MayLens.mono _ _
      | exact LeO.none _
      | refine LeO.ite ?_ ?_
      | refine LeO.bind ?_ (fun _ => ?_)
def wringerref7_GetLens.T18 : Bool × List (List Nat × List Nat) := (true, [([], []), ([0], [0]), ([1], [1]), ([2], [2]), ([3], [3]), ([4, 3, 3], [3, 4]), ([5, 3], [3, 5]), ([3, 6], [3, 6]), ([7, 5], [7]), ([8], [8]), ([9, 8, 8], [8, 9]), ([8], [8]), ([8], [8]), ([8], [8]), ([11, 12, 13, 8], [8, 11, 12, 13]), ([10, 14, 8], [8, 10, 14]), ([8, 15], [8, 15])])
def wringerref7_GetLens.B18 : List Nat := [0, 1, 3, 7, 15, 31, 63, 127, 255, 511, 1023, 511, 511, 511, 14847, 32767, 65535]
theorem wringerref7_GetLens.tab18 : rtab .any (opsOf Try.f9 18) = wringerref7_GetLens.T18 := by kernel_rfl
theorem wringerref7_GetLens.bits18 : waitsOk wringerref7_GetLens.T18.2 wringerref7_GetLens.B18 = true := by kernel_rfl
set_option maxHeartbeats 8000000 in
set_option maxRecDepth 100000 in
theorem wringerref7_GetLens.calls (k : Nat) (a0 : ByteArray) (a1 : Int) (r1 : List Int) (r2 : Int) (r3 : Int) (w : World) (h : wringerref7_GetLens.f k a0 a1 = some (r1, r2, r3)) :
    Calls Try.prog 9 #[.string a0, .int .i64 a1] w fun e w' => ∃ v0_ : Value, e = .returned (.agg #[v0_, .int .i64 r2, .int .i64 r3]) ∧ Kd.R (Kd.int .i64) 3 w' w.heap.size (fun _ => True) v0_ r1 ∧ Below w.heap.size w w' := by
  have hu28 := Try.underlying28
  have HB := Aside0.mk (Below.refl w.heap.size w)
  have H : (if a1 < 0 then (wringerref7_GetLens.j0 k a0 a1 true) else (wringerref7_GetLens.j0 k a0 a1 (decide (a1 > (a0.size : Int))))) = some (r1, r2, r3) := h
  clear h
  have HC3 := Aside0.mk H
  clear H
  go_enter Try.func9, Try.ntmps9
  go_upto_region 1 with (first | ((with_reducible refine gate_dst (N := 4) rfl ?_); (try (refine gate_guard (by rfl) ?_; dsimp only)); refine box_event ?hg (N := 4) ?hd (cs := #[.slice none 0 0, .int .i64 0, .int .i64 0]) (t := 28) ?hr ?_; (case hd => rfl); (case hg => rfl); (case hr => first | (go_simp; done) | (go_simp; rfl)); intro gb137 hg w4 hbox hb; have n0_ := Aside0.mk (below_step (by repeat (first | (with_reducible first | exact HB.out | apply below_alloc | apply pw_below_drewN | apply below_drew1) | exact HB.out)) hb); have n1_ := Aside0.mk (hbox); have n2_ := Aside0.mk ((by rw [hg]; exact (below_size (by repeat (first | (with_reducible first | exact HB.out | apply below_alloc | apply pw_below_drewN | apply below_drew1) | exact HB.out))) : w.heap.size ≤ gb137)); have n3_ := Aside0.mk ((by rw [hg]; exact (below_size (by repeat (first | (with_reducible first | exact HB.out | apply below_alloc | apply pw_below_drewN | apply below_drew1) | exact HB.out))) : w.heap.size ≤ gb137)); clear HB; have HB := n0_; have BK137 := n1_; have GW137 := n2_; have GE137 := n3_; clear n0_ n1_ n2_ n3_; clear hb hbox hg))
  (try simp only [Act.put, List.setIfInBounds_toArray, List.set_cons_zero, List.set_cons_succ])
  go_cut [16] (fun v16 wc => ∃ (kq : Nat) (x16_2 : Bool), v16 = .bool x16_2 ∧ Aside0 (wringerref7_GetLens.j0 kq a0 a1 x16_2 = some (r1, r2, r3)) ∧ Aside0 (kq ≤ k) ∧ Aside0 (wc.heap[gb137]? = some (.cells #[(.slice none 0 0), .int .i64 0, .int .i64 0] 28 (0, 0))) ∧ Aside0 (Below w.heap.size w wc))
  case first =>
    have H := HC3.out
    clear HC3
    by_cases c5 : a1 < 0
    · rw [if_pos c5] at H
      have c5b0 : decide (a1 < 0) = true := decide_eq_true c5
      clear c5
      (first | rw [c5b0] | (simp only [i64_w, i32_w]; rw [c5b0]) | skip)
      have H' := Aside0.mk H
      clear H
      go_wp2
      go_meet
      case rel => exact ⟨_, (true), (by first | rfl | (simp; done) | (simp [*]; done)), H', ⟨by first | omega | exact Nat.le_refl _⟩, ⟨by (with_reducible repeat (first | refine blk_drewN ?_ _ | refine blk_drew ?_ | refine blk_alloc ?_ _)); exact BK137.out⟩, ⟨by repeat (first | (with_reducible first | exact HB.out | apply below_alloc | apply pw_below_drewN | apply below_drew1 | refine below_set ?_ GE137.out) | exact HB.out)⟩⟩
    · rw [if_neg c5] at H
      have c5b0 : decide (a1 < 0) = false := decide_eq_false c5
      clear c5
      (first | rw [c5b0] | (simp only [i64_w, i32_w]; rw [c5b0]) | skip)
      have H' := Aside0.mk H
      clear H
      go_wp2
      go_meet
      case rel => exact ⟨_, (decide (a1 > (a0.size : Int))), (by first | rfl | (simp; done) | (simp [*]; done)), H', ⟨by first | omega | exact Nat.le_refl _⟩, ⟨by (with_reducible repeat (first | refine blk_drewN ?_ _ | refine blk_drew ?_ | refine blk_alloc ?_ _)); exact BK137.out⟩, ⟨by repeat (first | (with_reducible first | exact HB.out | apply below_alloc | apply pw_below_drewN | apply below_drew1 | refine below_set ?_ GE137.out) | exact HB.out)⟩⟩
  case rest =>
    clear HC3
    try clear p2
    try clear c5
    try clear c5b0
    obtain ⟨kq, x16_2, rfl, HA, HJ2, BK137, HB⟩ := hcut
    cases kq with
    | zero => exact absurd HA.out (by simp [wringerref7_GetLens.j0])
    | succ kj2 =>
      have H := HA.out
      clear HA
      simp only [wringerref7_GetLens.j0] at H
      by_cases c6 : x16_2 = true
      · subst c6
        have H1 : (some (([] : List Int), 0, 1)) = some (r1, r2, r3) := by rw [if_pos rfl] at H; exact H
        clear H
        have H := H1
        clear H1
        simp only [Option.some.injEq, Prod.mk.injEq] at H
        obtain ⟨rfl, rfl, rfl⟩ := H
        have hcz7_0 : wc.cell? ⟨gb137, 0, none⟩ = some (.slice none 0 0) := (blk_cell BK137.out 0).trans rfl
        have hcz7_1 : wc.cell? ⟨gb137, 1, none⟩ = some (.int .i64 0) := (blk_cell BK137.out 1).trans rfl
        have hcz7_2 : wc.cell? ⟨gb137, 2, none⟩ = some (.int .i64 0) := (blk_cell BK137.out 2).trans rfl
        have hfz7_0 := blk_frozen BK137.out 0
        have hfz7_1 := blk_frozen BK137.out 1
        have hfz7_2 := blk_frozen BK137.out 2
        go_wp2
        refine bodyPost_ret (results_cell_row rfl _ _ gb137 28 #[.slice none 0 0, .int .i64 0, .int .i64 1] (0, 0) _ rfl (by (with_reducible repeat (first | refine blk_drewN ?_ _ | refine blk_drew ?_ | refine blk_alloc ?_ _)); refine blk_put (cs := #[.slice none 0 0, .int .i64 0, .int .i64 0]) ?_ 2 _ rfl; (with_reducible repeat (first | refine blk_drewN ?_ _ | refine blk_drew ?_ | refine blk_alloc ?_ _)); refine blk_put (cs := #[.slice none 0 0, .int .i64 0, .int .i64 0]) ?_ 1 _ rfl; (with_reducible repeat (first | refine blk_drewN ?_ _ | refine blk_drew ?_ | refine blk_alloc ?_ _)); refine blk_put (cs := #[.slice none 0 0, .int .i64 0, .int .i64 0]) ?_ 0 _ rfl; (with_reducible repeat (first | refine blk_drewN ?_ _ | refine blk_drew ?_ | refine blk_alloc ?_ _)); exact BK137.out) Try.underlying28 rfl (by kernel_rfl)) rfl ?_
        exact ⟨_, by first | rfl | (simp [errW_none, errW_some] <;> rfl) | (simp [*, errW_none, errW_some] <;> rfl), by first | exact Kd.R_nil _ _ _ _ _ | exact Kd.N_nil _ _ _ _ _ | exact Kd.V_nil _ _ _ _ _ | exact Kd.Q_nil _ _ _ _ _ | exact Kd.S_nil _ _ _ _ _, by repeat (first | (with_reducible first | exact HB.out | apply below_alloc | apply pw_below_drewN | apply below_drew1 | refine below_set ?_ GE137.out) | exact HB.out)⟩
      · replace c6 := Bool.eq_false_iff.mpr c6
        subst c6
        have H1 : (wringerref7_GetLens.l0 kj2 a0 a1 ([] : List Int) (wrap64 (2 * a1))) = some (r1, r2, r3) := by rw [if_neg (show ¬ (false = true) by decide)] at H; exact H
        clear H
        have H := H1
        clear H1
        have H' := Aside0.mk H
        clear H
        go_wp2
        go_loopg [5, 6] kj2 (fun kq v5 v6 w' => ∃ (x5_2 : List Int) (x6_2 : Int) (x138001_2 : Int) (x138002_2 : Int), v6 = .int .i64 x6_2 ∧ Aside0 (wringerref7_GetLens.l0 kq a0 a1 x5_2 x6_2 = some (r1, r2, r3)) ∧ Aside0 (kq ≤ kj2) ∧ Aside0 (Kd.R (Kd.int .i64) 3 w' w.heap.size (fun _ => True) v5 x5_2) ∧ Aside0 (w'.heap[gb137]? = some (.cells #[(.slice none 0 0), .int .i64 x138001_2, .int .i64 x138002_2] 28 (0, 0))) ∧ Aside0 (Below w.heap.size w w'))
        case atStart => exact ⟨(([] : List Int)), (wrap64 (2 * a1)), (0), (0), (by first | rfl | (simp; done) | (simp [*]; done)), H', ⟨Nat.le_refl _⟩, ⟨by first | exact Kd.R_nil _ _ _ _ _ | exact Kd.N_nil _ _ _ _ _ | exact Kd.V_nil _ _ _ _ _ | exact Kd.Q_nil _ _ _ _ _ | exact Kd.S_nil _ _ _ _ _⟩, ⟨by (with_reducible repeat (first | refine blk_drewN ?_ _ | refine blk_drew ?_ | refine blk_alloc ?_ _)); exact BK137.out⟩, ⟨by repeat (first | (with_reducible first | exact HB.out | apply below_alloc | apply pw_below_drewN | apply below_drew1 | refine below_set ?_ GE137.out) | exact HB.out)⟩⟩
        case round =>
          clear H'
          try clear p2
          try clear c5
          try clear c5b0
          try clear c6
          try clear p6
          try clear hcz7_0
          try clear hcz7_1
          try clear hcz7_2
          try clear hfz7_0
          try clear hfz7_1
          try clear hfz7_2
          try clear p2
          obtain ⟨x5_2, x6_2, x138001_2, x138002_2, rfl, HA, HK2, HO_5, BK137, HB⟩ := hrel
          cases gk with
          | zero => exact absurd HA.out (by simp [wringerref7_GetLens.l0])
          | succ k2 =>
            have H := HA.out
            clear HA
            simp only [wringerref7_GetLens.l0] at H
            by_cases c8 : (x5_2.length : Int) < 65
            · rw [if_pos c8] at H
              have c8b0 : decide ((x5_2.length : Int) < 65) = true := decide_eq_true c8
              have c8b1 : decide (x5_2.length < 65) = true := decide_eq_true (by omega)
              clear c8
              by_cases c9 : (wrap64 (Int.tdiv x6_2 2)) ≥ (a0.size : Int)
              · rw [if_pos c9] at H
                have c9b0 : decide ((a0.size : Int) ≤ (wrap64 (Int.tdiv x6_2 2))) = true := decide_eq_true c9
                clear c9
                simp only [Option.some.injEq, Prod.mk.injEq] at H
                obtain ⟨rfl, rfl, rfl⟩ := H
                obtain ⟨Ao10, co10, eo10⟩ := Kd.R_slice HO_5.out
                subst eo10
                have hcz11_0 : wr.cell? ⟨gb137, 0, none⟩ = some (.slice none 0 0) := (blk_cell BK137.out 0).trans rfl
                have hcz11_1 : wr.cell? ⟨gb137, 1, none⟩ = some (.int .i64 x138001_2) := (blk_cell BK137.out 1).trans rfl
                have hcz11_2 : wr.cell? ⟨gb137, 2, none⟩ = some (.int .i64 x138002_2) := (blk_cell BK137.out 2).trans rfl
                have hfz11_0 := blk_frozen BK137.out 0
                have hfz11_1 := blk_frozen BK137.out 1
                have hfz11_2 := blk_frozen BK137.out 2
                go_wp2
                refine bodyPost_ret (results_cell_row rfl _ _ gb137 28 #[.slice none 0 0, .int .i64 0, .int .i64 2] (0, 0) _ rfl (by (with_reducible repeat (first | refine blk_drewN ?_ _ | refine blk_drew ?_ | refine blk_alloc ?_ _)); refine blk_put (cs := #[.slice none 0 0, .int .i64 0, .int .i64 x138002_2]) ?_ 2 _ rfl; (with_reducible repeat (first | refine blk_drewN ?_ _ | refine blk_drew ?_ | refine blk_alloc ?_ _)); refine blk_put (cs := #[.slice none 0 0, .int .i64 x138001_2, .int .i64 x138002_2]) ?_ 1 _ rfl; (with_reducible repeat (first | refine blk_drewN ?_ _ | refine blk_drew ?_ | refine blk_alloc ?_ _)); refine blk_put (cs := #[.slice none 0 0, .int .i64 x138001_2, .int .i64 x138002_2]) ?_ 0 _ rfl; (with_reducible repeat (first | refine blk_drewN ?_ _ | refine blk_drew ?_ | refine blk_alloc ?_ _)); exact BK137.out) Try.underlying28 rfl (by kernel_rfl)) rfl ?_
                exact ⟨_, by first | rfl | (simp [errW_none, errW_some] <;> rfl) | (simp [*, errW_none, errW_some] <;> rfl), by first | exact Kd.R_nil _ _ _ _ _ | exact Kd.N_nil _ _ _ _ _ | exact Kd.V_nil _ _ _ _ _ | exact Kd.Q_nil _ _ _ _ _ | exact Kd.S_nil _ _ _ _ _, by repeat (first | (with_reducible first | exact HB.out | apply below_alloc | apply pw_below_drewN | apply below_drew1 | refine below_set ?_ GE137.out) | exact HB.out)⟩
              · rw [if_neg c9] at H
                have c9b0 : decide ((a0.size : Int) ≤ (wrap64 (Int.tdiv x6_2 2))) = false := decide_eq_false c9
                clear c9
                obtain ⟨ji12, hji12⟩ : ∃ j_ : Int, (wrap64 (Int.tdiv x6_2 2)) = j_ := ⟨_, rfl⟩
                replace H : (if 0 ≤ (ji12) then (if (ji12) < (a0.size : Int) then (if 0 ≤ (wrap64 ((Int.tmod x6_2 2) * 4)) then (if (Go.bits .and .i64 (shr .i64 (wrap64 (bt a0 (ji12))) (wrap64 ((Int.tmod x6_2 2) * 4))) 15) > 0 then (if x5_2.length < 17592186044416 then (wringerref7_GetLens.l0 k2 a0 a1 (x5_2 ++ [Go.bits .and .i64 (shr .i64 (wrap64 (bt a0 (ji12))) (wrap64 ((Int.tmod x6_2 2) * 4))) 15]) (wrap64 (x6_2 + 1))) else (none)) else (if (wrap64 (Int.tdiv (wrap64 (x6_2 + 1)) 2)) ≥ (a0.size : Int) then (some (([] : List Int), 0, 2)) else (if 0 ≤ (wrap64 (Int.tdiv (wrap64 (x6_2 + 1)) 2)) then (if (wrap64 (Int.tdiv (wrap64 (x6_2 + 1)) 2)) < (a0.size : Int) then (if 0 ≤ (wrap64 ((Int.tmod (wrap64 (x6_2 + 1)) 2) * 4)) then (if 0 ≤ (wrap64 ((Go.bits .and .i64 (shr .i64 (wrap64 (bt a0 (wrap64 (Int.tdiv (wrap64 (x6_2 + 1)) 2)))) (wrap64 ((Int.tmod (wrap64 (x6_2 + 1)) 2) * 4))) 15) + 1)) then (if x5_2.length + (wrap64 ((Go.bits .and .i64 (shr .i64 (wrap64 (bt a0 (wrap64 (Int.tdiv (wrap64 (x6_2 + 1)) 2)))) (wrap64 ((Int.tmod (wrap64 (x6_2 + 1)) 2) * 4))) 15) + 1) : Int).toNat < 17592186044416 then (wringerref7_GetLens.l0 k2 a0 a1 (x5_2 ++ List.replicate (wrap64 ((Go.bits .and .i64 (shr .i64 (wrap64 (bt a0 (wrap64 (Int.tdiv (wrap64 (x6_2 + 1)) 2)))) (wrap64 ((Int.tmod (wrap64 (x6_2 + 1)) 2) * 4))) 15) + 1) : Int).toNat 0) (wrap64 ((wrap64 (x6_2 + 1)) + 1))) else (none)) else (none)) else (none)) else (none)) else (none)))) else (none)) else (none)) else (none)) = some (r1, r2, r3) := by first | (rw [hji12] at H; exact H) | (simp only [hji12] at H ⊢; exact H)
                (try rw [hji12] at c9b0)
                have hji12w : (IntKind.i64.wrap (Int.tdiv x6_2 2)) = ji12 := (i64_w _).trans hji12
                by_cases c13 : 0 ≤ (ji12)
                · rw [if_pos c13] at H
                  have c13b0 : decide (0 ≤ (ji12)) = true := decide_eq_true c13
                  clear c13
                  by_cases c14 : (ji12) < (a0.size : Int)
                  · rw [if_pos c14] at H
                    have c14b0 : decide ((ji12) < (a0.size : Int)) = true := decide_eq_true c14
                    clear c14
                    obtain ⟨ji16, hji16⟩ : ∃ j_ : Int, (wrap64 ((Int.tmod x6_2 2) * 4)) = j_ := ⟨_, rfl⟩
                    replace H : (if 0 ≤ (ji16) then (if (Go.bits .and .i64 (shr .i64 (wrap64 (bt a0 (ji12))) (ji16)) 15) > 0 then (if x5_2.length < 17592186044416 then (wringerref7_GetLens.l0 k2 a0 a1 (x5_2 ++ [Go.bits .and .i64 (shr .i64 (wrap64 (bt a0 (ji12))) (ji16)) 15]) (wrap64 (x6_2 + 1))) else (none)) else (if (wrap64 (Int.tdiv (wrap64 (x6_2 + 1)) 2)) ≥ (a0.size : Int) then (some (([] : List Int), 0, 2)) else (if 0 ≤ (wrap64 (Int.tdiv (wrap64 (x6_2 + 1)) 2)) then (if (wrap64 (Int.tdiv (wrap64 (x6_2 + 1)) 2)) < (a0.size : Int) then (if 0 ≤ (wrap64 ((Int.tmod (wrap64 (x6_2 + 1)) 2) * 4)) then (if 0 ≤ (wrap64 ((Go.bits .and .i64 (shr .i64 (wrap64 (bt a0 (wrap64 (Int.tdiv (wrap64 (x6_2 + 1)) 2)))) (wrap64 ((Int.tmod (wrap64 (x6_2 + 1)) 2) * 4))) 15) + 1)) then (if x5_2.length + (wrap64 ((Go.bits .and .i64 (shr .i64 (wrap64 (bt a0 (wrap64 (Int.tdiv (wrap64 (x6_2 + 1)) 2)))) (wrap64 ((Int.tmod (wrap64 (x6_2 + 1)) 2) * 4))) 15) + 1) : Int).toNat < 17592186044416 then (wringerref7_GetLens.l0 k2 a0 a1 (x5_2 ++ List.replicate (wrap64 ((Go.bits .and .i64 (shr .i64 (wrap64 (bt a0 (wrap64 (Int.tdiv (wrap64 (x6_2 + 1)) 2)))) (wrap64 ((Int.tmod (wrap64 (x6_2 + 1)) 2) * 4))) 15) + 1) : Int).toNat 0) (wrap64 ((wrap64 (x6_2 + 1)) + 1))) else (none)) else (none)) else (none)) else (none)) else (none)))) else (none)) = some (r1, r2, r3) := by first | (rw [hji16] at H; exact H) | (simp only [hji16] at H ⊢; exact H)
                    have hji16w : (IntKind.i64.wrap ((Int.tmod x6_2 2) * 4)) = ji16 := (i64_w _).trans hji16
                    by_cases c17 : 0 ≤ (ji16)
                    · rw [if_pos c17] at H
                      have c17b0 := eq_true c17
                      have c17b1 : decide (0 ≤ (ji16)) = true := decide_eq_true c17
                      clear c17
                      obtain ⟨ji18, hji18⟩ : ∃ j_ : Int, (shr .i64 (wrap64 (bt a0 (ji12))) (ji16)) = j_ := ⟨_, rfl⟩
                      replace H : (if (Go.bits .and .i64 (ji18) 15) > 0 then (if x5_2.length < 17592186044416 then (wringerref7_GetLens.l0 k2 a0 a1 (x5_2 ++ [Go.bits .and .i64 (ji18) 15]) (wrap64 (x6_2 + 1))) else (none)) else (if (wrap64 (Int.tdiv (wrap64 (x6_2 + 1)) 2)) ≥ (a0.size : Int) then (some (([] : List Int), 0, 2)) else (if 0 ≤ (wrap64 (Int.tdiv (wrap64 (x6_2 + 1)) 2)) then (if (wrap64 (Int.tdiv (wrap64 (x6_2 + 1)) 2)) < (a0.size : Int) then (if 0 ≤ (wrap64 ((Int.tmod (wrap64 (x6_2 + 1)) 2) * 4)) then (if 0 ≤ (wrap64 ((Go.bits .and .i64 (shr .i64 (wrap64 (bt a0 (wrap64 (Int.tdiv (wrap64 (x6_2 + 1)) 2)))) (wrap64 ((Int.tmod (wrap64 (x6_2 + 1)) 2) * 4))) 15) + 1)) then (if x5_2.length + (wrap64 ((Go.bits .and .i64 (shr .i64 (wrap64 (bt a0 (wrap64 (Int.tdiv (wrap64 (x6_2 + 1)) 2)))) (wrap64 ((Int.tmod (wrap64 (x6_2 + 1)) 2) * 4))) 15) + 1) : Int).toNat < 17592186044416 then (wringerref7_GetLens.l0 k2 a0 a1 (x5_2 ++ List.replicate (wrap64 ((Go.bits .and .i64 (shr .i64 (wrap64 (bt a0 (wrap64 (Int.tdiv (wrap64 (x6_2 + 1)) 2)))) (wrap64 ((Int.tmod (wrap64 (x6_2 + 1)) 2) * 4))) 15) + 1) : Int).toNat 0) (wrap64 ((wrap64 (x6_2 + 1)) + 1))) else (none)) else (none)) else (none)) else (none)) else (none)))) = some (r1, r2, r3) := by first | (rw [hji18] at H; exact H) | (simp only [hji18] at H ⊢; exact H)
                      have hji18_ : ((wrap64 (bt a0 (ji12))) / 2 ^ min (ji16).toNat 64) = ji18 := hji18
                      have hji18z : (ji16) ≤ 64 → ((wrap64 (bt a0 (ji12))) / 2 ^ (ji16).toNat) = ji18 := shr_small hji18
                      by_cases c19 : (Go.bits .and .i64 (ji18) 15) > 0
                      · rw [if_pos c19] at H
                        have c19b0 : decide (0 < (Go.bits .and .i64 (ji18) 15)) = true := decide_eq_true c19
                        clear c19
                        by_cases c20 : x5_2.length < 17592186044416
                        · rw [if_pos c20] at H
                          have LMc20 := Aside0.mk c20
                          clear c20
                          obtain ⟨y138, hy138⟩ : ∃ y_ : List Int, y_ = (x5_2 ++ [Go.bits .and .i64 (ji18) 15]) := ⟨_, rfl⟩
                          replace H : (wringerref7_GetLens.l0 k2 a0 a1 y138 (wrap64 (x6_2 + 1))) = some (r1, r2, r3) := by first | (rw [hy138]; with_reducible exact H) | (have H2_ := (Option.bind_some _ _).symm.trans H; rw [hy138]; with_reducible exact H2_) | (have H2_ := (Option.bind_some _ _).symm.trans H; with_reducible exact H2_) | with_reducible exact H | (rw [hy138]; exact H) | exact H
                          have Ny138 := Aside0.mk hy138
                          clear hy138
                          have H' := Aside0.mk H
                          clear H
                          obtain ⟨Ao21, co21, eo21⟩ := Kd.R_slice HO_5.out
                          subst eo21
                          have p15 : 0 ≤ ((ji12) : Int) := of_decide_eq_true (by first | (with_reducible assumption) | assumption)
                          have q15 : (ji12) < (a0.size : Int) := of_decide_eq_true (by first | (with_reducible assumption) | assumption)
                          have hx15 := bt_at a0 (ji12)
                          replace p15 := eq_true p15
                          replace q15 := eq_true q15
                          go_wp2_with (first | ((with_reducible refine gate_builtin (b := .append) (xs := #[.tmp 43, .tmp 45]) rfl ?_); (try (refine gate_guard (by rfl) ?_; dsimp only)); at_builtin; refine Kd.R_append (Kd.int .i64) (w0 := w) w.heap.size rfl (.tmp 43) (.tmp 45) 22 3 (.int .i64 0) 8 rfl Try.underlying22 info3 rfl (by decide) (by omega) (.slice Ao21 x5_2.length co21) x5_2 (Go.bits .and .i64 (ji18) 15) [.int .i64 (Go.bits .and .i64 (ji18) 15)] (fun _ => True) (fun _ => False) rfl rfl ?aP (fun _ hk => hk.elim) ?aF ?aO ?aB ?aS ?aL ?_; (case aP => exact rfl); (case aB => exact (by repeat (first | (with_reducible first | exact HB.out | apply below_alloc | apply pw_below_drewN | apply below_drew1 | refine below_set ?_ GE137.out) | exact HB.out))); (case aF => exact (fun _ _ => trivial)); (case aO => exact (by (with_reducible repeat (first | apply Kd.R_alloc | apply Kd.R_drewN | apply Kd.R_drew)); exact HO_5.out)); (case aS => exact (below_size (by repeat (first | (with_reducible first | exact HB.out | apply below_alloc | apply pw_below_drewN | apply below_drew1 | refine below_set ?_ GE137.out) | exact HB.out)))); (case aL => have := LMc20.out; omega); intro v139 w22 ho hb hg hat; rw [← Ny138.out] at ho; have n0_ := Aside0.mk (blk_grown (g := gb137) (o := .cells #[.slice none 0 0, .int .i64 x138001_2, .int .i64 x138002_2] 28 (0, 0)) (by (with_reducible repeat (first | refine blk_drewN ?_ _ | refine blk_drew ?_ | refine blk_alloc ?_ _)); exact BK137.out) hg (Kd.R_ne HO_5.out BK137.out (by decide))); have n1_ := Aside0.mk (hb); have n2_ := Aside0.mk (ho); clear BK137; clear HB; clear HO_5; have BK137 := n0_; have HB := n1_; have HO140 := n2_; clear n0_ n1_ n2_; clear ho hb hg hat))
                          go_roundg k2
                          case measure => have := HJ2.out; have := HK2.out; omega
                          case rel => exact ⟨(y138), (wrap64 (x6_2 + 1)), (x138001_2), (x138002_2), (by first | rfl | (simp; done) | (simp [*]; done)), H', ⟨by have := HJ2.out; have := HK2.out; omega⟩, ⟨by (with_reducible repeat (first | apply Kd.R_alloc | apply Kd.R_drewN | apply Kd.R_drew)); exact HO140.out⟩, ⟨by (with_reducible repeat (first | refine blk_drewN ?_ _ | refine blk_drew ?_ | refine blk_alloc ?_ _)); exact BK137.out⟩, ⟨by repeat (first | (with_reducible first | exact HB.out | apply below_alloc | apply pw_below_drewN | apply below_drew1 | refine below_set ?_ GE137.out) | exact HB.out)⟩⟩
                        · rw [if_neg c20] at H
                          exact absurd H (by simp)
                      · rw [if_neg c19] at H
                        have c19b0 : decide (0 < (Go.bits .and .i64 (ji18) 15)) = false := decide_eq_false c19
                        clear c19
                        by_cases c23 : (wrap64 (Int.tdiv (wrap64 (x6_2 + 1)) 2)) ≥ (a0.size : Int)
                        · rw [if_pos c23] at H
                          have c23b0 : decide ((a0.size : Int) ≤ (wrap64 (Int.tdiv (wrap64 (x6_2 + 1)) 2))) = true := decide_eq_true c23
                          clear c23
                          simp only [Option.some.injEq, Prod.mk.injEq] at H
                          obtain ⟨rfl, rfl, rfl⟩ := H
                          obtain ⟨Ao24, co24, eo24⟩ := Kd.R_slice HO_5.out
                          subst eo24
                          have p15 : 0 ≤ ((ji12) : Int) := of_decide_eq_true (by first | (with_reducible assumption) | assumption)
                          have q15 : (ji12) < (a0.size : Int) := of_decide_eq_true (by first | (with_reducible assumption) | assumption)
                          have hx15 := bt_at a0 (ji12)
                          replace p15 := eq_true p15
                          replace q15 := eq_true q15
                          have hcz25_0 : wr.cell? ⟨gb137, 0, none⟩ = some (.slice none 0 0) := (blk_cell BK137.out 0).trans rfl
                          have hcz25_1 : wr.cell? ⟨gb137, 1, none⟩ = some (.int .i64 x138001_2) := (blk_cell BK137.out 1).trans rfl
                          have hcz25_2 : wr.cell? ⟨gb137, 2, none⟩ = some (.int .i64 x138002_2) := (blk_cell BK137.out 2).trans rfl
                          have hfz25_0 := blk_frozen BK137.out 0
                          have hfz25_1 := blk_frozen BK137.out 1
                          have hfz25_2 := blk_frozen BK137.out 2
                          go_wp2
                          refine bodyPost_ret (results_cell_row rfl _ _ gb137 28 #[.slice none 0 0, .int .i64 0, .int .i64 2] (0, 0) _ rfl (by (with_reducible repeat (first | refine blk_drewN ?_ _ | refine blk_drew ?_ | refine blk_alloc ?_ _)); refine blk_put (cs := #[.slice none 0 0, .int .i64 0, .int .i64 x138002_2]) ?_ 2 _ rfl; (with_reducible repeat (first | refine blk_drewN ?_ _ | refine blk_drew ?_ | refine blk_alloc ?_ _)); refine blk_put (cs := #[.slice none 0 0, .int .i64 x138001_2, .int .i64 x138002_2]) ?_ 1 _ rfl; (with_reducible repeat (first | refine blk_drewN ?_ _ | refine blk_drew ?_ | refine blk_alloc ?_ _)); refine blk_put (cs := #[.slice none 0 0, .int .i64 x138001_2, .int .i64 x138002_2]) ?_ 0 _ rfl; (with_reducible repeat (first | refine blk_drewN ?_ _ | refine blk_drew ?_ | refine blk_alloc ?_ _)); exact BK137.out) Try.underlying28 rfl (by kernel_rfl)) rfl ?_
                          exact ⟨_, by first | rfl | (simp [errW_none, errW_some] <;> rfl) | (simp only [← hji12, ← hji16, ← hji18]; first | rfl | (simp [errW_none, errW_some] <;> rfl)) | (simp [*, errW_none, errW_some] <;> rfl), by first | exact Kd.R_nil _ _ _ _ _ | exact Kd.N_nil _ _ _ _ _ | exact Kd.V_nil _ _ _ _ _ | exact Kd.Q_nil _ _ _ _ _ | exact Kd.S_nil _ _ _ _ _, by repeat (first | (with_reducible first | exact HB.out | apply below_alloc | apply pw_below_drewN | apply below_drew1 | refine below_set ?_ GE137.out) | exact HB.out)⟩
                        · rw [if_neg c23] at H
                          have c23b0 : decide ((a0.size : Int) ≤ (wrap64 (Int.tdiv (wrap64 (x6_2 + 1)) 2))) = false := decide_eq_false c23
                          clear c23
                          obtain ⟨ji26, hji26⟩ : ∃ j_ : Int, (wrap64 (Int.tdiv (wrap64 (x6_2 + 1)) 2)) = j_ := ⟨_, rfl⟩
                          replace H : (if 0 ≤ (ji26) then (if (ji26) < (a0.size : Int) then (if 0 ≤ (wrap64 ((Int.tmod (wrap64 (x6_2 + 1)) 2) * 4)) then (if 0 ≤ (wrap64 ((Go.bits .and .i64 (shr .i64 (wrap64 (bt a0 (ji26))) (wrap64 ((Int.tmod (wrap64 (x6_2 + 1)) 2) * 4))) 15) + 1)) then (if x5_2.length + (wrap64 ((Go.bits .and .i64 (shr .i64 (wrap64 (bt a0 (ji26))) (wrap64 ((Int.tmod (wrap64 (x6_2 + 1)) 2) * 4))) 15) + 1) : Int).toNat < 17592186044416 then (wringerref7_GetLens.l0 k2 a0 a1 (x5_2 ++ List.replicate (wrap64 ((Go.bits .and .i64 (shr .i64 (wrap64 (bt a0 (ji26))) (wrap64 ((Int.tmod (wrap64 (x6_2 + 1)) 2) * 4))) 15) + 1) : Int).toNat 0) (wrap64 ((wrap64 (x6_2 + 1)) + 1))) else (none)) else (none)) else (none)) else (none)) else (none)) = some (r1, r2, r3) := by first | (rw [hji26] at H; exact H) | (simp only [hji26] at H ⊢; exact H)
                          (try rw [hji26] at c23b0)
                          have hji26w : (IntKind.i64.wrap (Int.tdiv (wrap64 (x6_2 + 1)) 2)) = ji26 := (i64_w _).trans hji26
                          by_cases c27 : 0 ≤ (ji26)
                          · rw [if_pos c27] at H
                            have c27b0 : decide (0 ≤ (ji26)) = true := decide_eq_true c27
                            clear c27
                            by_cases c28 : (ji26) < (a0.size : Int)
                            · rw [if_pos c28] at H
                              have c28b0 : decide ((ji26) < (a0.size : Int)) = true := decide_eq_true c28
                              clear c28
                              obtain ⟨ji30, hji30⟩ : ∃ j_ : Int, (wrap64 ((Int.tmod (wrap64 (x6_2 + 1)) 2) * 4)) = j_ := ⟨_, rfl⟩
                              replace H : (if 0 ≤ (ji30) then (if 0 ≤ (wrap64 ((Go.bits .and .i64 (shr .i64 (wrap64 (bt a0 (ji26))) (ji30)) 15) + 1)) then (if x5_2.length + (wrap64 ((Go.bits .and .i64 (shr .i64 (wrap64 (bt a0 (ji26))) (ji30)) 15) + 1) : Int).toNat < 17592186044416 then (wringerref7_GetLens.l0 k2 a0 a1 (x5_2 ++ List.replicate (wrap64 ((Go.bits .and .i64 (shr .i64 (wrap64 (bt a0 (ji26))) (ji30)) 15) + 1) : Int).toNat 0) (wrap64 ((wrap64 (x6_2 + 1)) + 1))) else (none)) else (none)) else (none)) = some (r1, r2, r3) := by first | (rw [hji30] at H; exact H) | (simp only [hji30] at H ⊢; exact H)
                              have hji30w : (IntKind.i64.wrap ((Int.tmod (wrap64 (x6_2 + 1)) 2) * 4)) = ji30 := (i64_w _).trans hji30
                              by_cases c31 : 0 ≤ (ji30)
                              · rw [if_pos c31] at H
                                have c31b0 := eq_true c31
                                have c31b1 : decide (0 ≤ (ji30)) = true := decide_eq_true c31
                                clear c31
                                obtain ⟨ji32, hji32⟩ : ∃ j_ : Int, (shr .i64 (wrap64 (bt a0 (ji26))) (ji30)) = j_ := ⟨_, rfl⟩
                                replace H : (if 0 ≤ (wrap64 ((Go.bits .and .i64 (ji32) 15) + 1)) then (if x5_2.length + (wrap64 ((Go.bits .and .i64 (ji32) 15) + 1) : Int).toNat < 17592186044416 then (wringerref7_GetLens.l0 k2 a0 a1 (x5_2 ++ List.replicate (wrap64 ((Go.bits .and .i64 (ji32) 15) + 1) : Int).toNat 0) (wrap64 ((wrap64 (x6_2 + 1)) + 1))) else (none)) else (none)) = some (r1, r2, r3) := by first | (rw [hji32] at H; exact H) | (simp only [hji32] at H ⊢; exact H)
                                have hji32_ : ((wrap64 (bt a0 (ji26))) / 2 ^ min (ji30).toNat 64) = ji32 := hji32
                                have hji32z : (ji30) ≤ 64 → ((wrap64 (bt a0 (ji26))) / 2 ^ (ji30).toNat) = ji32 := shr_small hji32
                                obtain ⟨ji33, hji33⟩ : ∃ j_ : Int, (wrap64 ((Go.bits .and .i64 (ji32) 15) + 1)) = j_ := ⟨_, rfl⟩
                                replace H : (if 0 ≤ (ji33) then (if x5_2.length + (ji33 : Int).toNat < 17592186044416 then (wringerref7_GetLens.l0 k2 a0 a1 (x5_2 ++ List.replicate (ji33 : Int).toNat 0) (wrap64 ((wrap64 (x6_2 + 1)) + 1))) else (none)) else (none)) = some (r1, r2, r3) := by first | (rw [hji33] at H; exact H) | (simp only [hji33] at H ⊢; exact H)
                                have hji33w : (IntKind.i64.wrap ((Go.bits .and .i64 (ji32) 15) + 1)) = ji33 := (i64_w _).trans hji33
                                by_cases c34 : 0 ≤ (ji33)
                                · rw [if_pos c34] at H
                                  have c34b0 := eq_true c34
                                  have c34b1 : decide (0 ≤ (ji33)) = true := decide_eq_true c34
                                  clear c34
                                  by_cases c35 : x5_2.length + (ji33 : Int).toNat < 17592186044416
                                  · rw [if_pos c35] at H
                                    have LMc35 := Aside0.mk c35
                                    clear c35
                                    obtain ⟨y141, hy141⟩ : ∃ y_ : List Int, y_ = (x5_2 ++ List.replicate (ji33 : Int).toNat 0) := ⟨_, rfl⟩
                                    replace H : (wringerref7_GetLens.l0 k2 a0 a1 y141 (wrap64 ((wrap64 (x6_2 + 1)) + 1))) = some (r1, r2, r3) := by first | (rw [hy141]; with_reducible exact H) | (have H2_ := (Option.bind_some _ _).symm.trans H; rw [hy141]; with_reducible exact H2_) | (have H2_ := (Option.bind_some _ _).symm.trans H; with_reducible exact H2_) | with_reducible exact H | (rw [hy141]; exact H) | exact H
                                    have Ny141 := Aside0.mk hy141
                                    clear hy141
                                    have H' := Aside0.mk H
                                    clear H
                                    obtain ⟨Ao36, co36, eo36⟩ := Kd.R_slice HO_5.out
                                    subst eo36
                                    have p15 : 0 ≤ ((ji12) : Int) := of_decide_eq_true (by first | (with_reducible assumption) | assumption)
                                    have q15 : (ji12) < (a0.size : Int) := of_decide_eq_true (by first | (with_reducible assumption) | assumption)
                                    have hx15 := bt_at a0 (ji12)
                                    replace p15 := eq_true p15
                                    replace q15 := eq_true q15
                                    have p29 : 0 ≤ ((ji26) : Int) := of_decide_eq_true (by first | (with_reducible assumption) | assumption)
                                    have q29 : (ji26) < (a0.size : Int) := of_decide_eq_true (by first | (with_reducible assumption) | assumption)
                                    have hx29 := bt_at a0 (ji26)
                                    replace p29 := eq_true p29
                                    replace q29 := eq_true q29
                                    go_wp2_with (first | (at_builtin; refine Kd.R_append_zeros (Kd.int .i64) (w0 := w) w.heap.size rfl (.tmp 65) (.tmp 67) 22 3 3 (.int .i64 0) 8 rfl Try.underlying22 Try.underlying3 info3 rfl (by decide) (by omega) (.slice Ao36 x5_2.length co36) x5_2 0 (ji33 : Int) (fun _ => True) rfl rfl rfl ?aF ?aO (of_decide_eq_true (by first | (with_reducible assumption) | assumption)) ?aB ?aS ?aL ?_; (case aB => exact (by repeat (first | (with_reducible first | exact HB.out | apply below_alloc | apply pw_below_drewN | apply below_drew1 | refine below_set ?_ GE137.out) | exact HB.out))); (case aF => exact (fun _ _ => trivial)); (case aO => exact (by (with_reducible repeat (first | apply Kd.R_alloc | apply Kd.R_drewN | apply Kd.R_drew)); exact HO_5.out)); (case aS => exact (below_size (by repeat (first | (with_reducible first | exact HB.out | apply below_alloc | apply pw_below_drewN | apply below_drew1 | refine below_set ?_ GE137.out) | exact HB.out)))); (case aL => have := LMc35.out; omega); intro v142 w37 ho hb hg hat; rw [← Ny141.out] at ho; have n0_ := Aside0.mk (blk_grown (g := gb137) (o := .cells #[.slice none 0 0, .int .i64 x138001_2, .int .i64 x138002_2] 28 (0, 0)) (by (with_reducible repeat (first | refine blk_drewN ?_ _ | refine blk_drew ?_ | refine blk_alloc ?_ _)); exact BK137.out) hg (Kd.R_ne HO_5.out BK137.out (by decide))); have n1_ := Aside0.mk (hb); have n2_ := Aside0.mk (ho); clear BK137; clear HB; clear HO_5; have BK137 := n0_; have HB := n1_; have HO143 := n2_; clear n0_ n1_ n2_; clear ho hb hg hat))
                                    go_roundg k2
                                    case measure => have := HJ2.out; have := HK2.out; omega
                                    case rel => exact ⟨(y141), (wrap64 ((wrap64 (x6_2 + 1)) + 1)), (x138001_2), (x138002_2), (by first | rfl | (simp; done) | (simp [*]; done)), H', ⟨by have := HJ2.out; have := HK2.out; omega⟩, ⟨by (with_reducible repeat (first | apply Kd.R_alloc | apply Kd.R_drewN | apply Kd.R_drew)); exact HO143.out⟩, ⟨by (with_reducible repeat (first | refine blk_drewN ?_ _ | refine blk_drew ?_ | refine blk_alloc ?_ _)); exact BK137.out⟩, ⟨by repeat (first | (with_reducible first | exact HB.out | apply below_alloc | apply pw_below_drewN | apply below_drew1 | refine below_set ?_ GE137.out) | exact HB.out)⟩⟩
                                  · rw [if_neg c35] at H
                                    exact absurd H (by simp)
                                · rw [if_neg c34] at H
                                  exact absurd H (by simp)
                              · rw [if_neg c31] at H
                                exact absurd H (by simp)
                            · rw [if_neg c28] at H
                              exact absurd H (by simp)
                          · rw [if_neg c27] at H
                            exact absurd H (by simp)
                    · rw [if_neg c17] at H
                      exact absurd H (by simp)
                  · rw [if_neg c14] at H
                    exact absurd H (by simp)
                · rw [if_neg c13] at H
                  exact absurd H (by simp)
            · rw [if_neg c8] at H
              have c8b0 : decide ((x5_2.length : Int) < 65) = false := decide_eq_false c8
              have c8b1 : decide (x5_2.length < 65) = false := decide_eq_false (by omega)
              clear c8
              by_cases c38 : (x5_2.length : Int) = 65
              · rw [if_pos c38] at H
                have c38b0 : ((x5_2.length : Int) == 65) = true := beq_iff_eq.mpr c38
                have c38b1 : ((x5_2.length : Int) != 65) = false := bne_eq_false_iff_eq.mpr c38
                clear c38
                replace H := Option.bind_eq_some_iff.mp H
                obtain ⟨t144, A390, H⟩ := H
                replace H : (if t144 = true then ((wringerref7_PutLens.f x5_2).bind fun t145 => (if 0 ≤ a1 then (if a1 ≤ (wrap64 (Int.tdiv (wrap64 (x6_2 + 1)) 2)) then (if (wrap64 (Int.tdiv (wrap64 (x6_2 + 1)) 2)) ≤ (a0.size : Int) then (if t145.toList = (a0.extract (a1 : Int).toNat ((wrap64 (Int.tdiv (wrap64 (x6_2 + 1)) 2)) : Int).toNat).toList then (some (x5_2, wrap64 (Int.tdiv (wrap64 (x6_2 + 1)) 2), 0)) else (some (([] : List Int), 0, 3))) else (none)) else (none)) else (none))) else (some (([] : List Int), 0, 3))) = some (r1, r2, r3) := H
                have A39 := Aside0.mk A390
                clear A390
                by_cases c40 : t144 = true
                · subst c40
                  have H1 : ((wringerref7_PutLens.f x5_2).bind fun t145 => (if 0 ≤ a1 then (if a1 ≤ (wrap64 (Int.tdiv (wrap64 (x6_2 + 1)) 2)) then (if (wrap64 (Int.tdiv (wrap64 (x6_2 + 1)) 2)) ≤ (a0.size : Int) then (if t145.toList = (a0.extract (a1 : Int).toNat ((wrap64 (Int.tdiv (wrap64 (x6_2 + 1)) 2)) : Int).toNat).toList then (some (x5_2, wrap64 (Int.tdiv (wrap64 (x6_2 + 1)) 2), 0)) else (some (([] : List Int), 0, 3))) else (none)) else (none)) else (none))) = some (r1, r2, r3) := by rw [if_pos rfl] at H; exact H
                  clear H
                  have H := H1
                  clear H1
                  replace H := Option.bind_eq_some_iff.mp H
                  obtain ⟨t145, A410, H⟩ := H
                  replace H : (if 0 ≤ a1 then (if a1 ≤ (wrap64 (Int.tdiv (wrap64 (x6_2 + 1)) 2)) then (if (wrap64 (Int.tdiv (wrap64 (x6_2 + 1)) 2)) ≤ (a0.size : Int) then (if t145.toList = (a0.extract (a1 : Int).toNat ((wrap64 (Int.tdiv (wrap64 (x6_2 + 1)) 2)) : Int).toNat).toList then (some (x5_2, wrap64 (Int.tdiv (wrap64 (x6_2 + 1)) 2), 0)) else (some (([] : List Int), 0, 3))) else (none)) else (none)) else (none)) = some (r1, r2, r3) := H
                  have A41 := Aside0.mk A410
                  clear A410
                  by_cases c42 : 0 ≤ a1
                  · rw [if_pos c42] at H
                    have c42b0 := eq_true c42
                    have c42b1 : decide (0 ≤ a1) = true := decide_eq_true c42
                    clear c42
                    by_cases c43 : a1 ≤ (wrap64 (Int.tdiv (wrap64 (x6_2 + 1)) 2))
                    · rw [if_pos c43] at H
                      have c43b0 := eq_true c43
                      have c43b1 : decide (a1 ≤ (wrap64 (Int.tdiv (wrap64 (x6_2 + 1)) 2))) = true := decide_eq_true c43
                      by_cases c44 : (wrap64 (Int.tdiv (wrap64 (x6_2 + 1)) 2)) ≤ (a0.size : Int)
                      · rw [if_pos c44] at H
                        have c44b0 := eq_true c44
                        have c44b1 : decide ((wrap64 (Int.tdiv (wrap64 (x6_2 + 1)) 2)) ≤ (a0.size : Int)) = true := decide_eq_true c44
                        by_cases c45 : t145.toList = (a0.extract (a1 : Int).toNat ((wrap64 (Int.tdiv (wrap64 (x6_2 + 1)) 2)) : Int).toNat).toList
                        · rw [if_pos c45] at H
                          have c45b0 : (t145.toList == (a0.extract (a1 : Int).toNat ((wrap64 (Int.tdiv (wrap64 (x6_2 + 1)) 2)) : Int).toNat).toList) = true := beq_iff_eq.mpr c45
                          have c45b1 : (t145.toList != (a0.extract (a1 : Int).toNat ((wrap64 (Int.tdiv (wrap64 (x6_2 + 1)) 2)) : Int).toNat).toList) = false := bne_eq_false_iff_eq.mpr c45
                          clear c45
                          simp only [Option.some.injEq, Prod.mk.injEq] at H
                          obtain ⟨rfl, rfl, rfl⟩ := H
                          obtain ⟨Ao46, co46, eo46⟩ := Kd.R_slice HO_5.out
                          subst eo46
                          try go_wp2
                          have n0_ := Aside0.mk (Kd.R_drew HO_5.out)
                          have n1_ := Aside0.mk (blk_drew BK137.out)
                          have n2_ := Aside0.mk (below_drew1 HB.out)
                          clear HO_5
                          clear BK137
                          clear HB
                          have HO_5 := n0_
                          have BK137 := n1_
                          have HB := n2_
                          clear n0_ n1_ n2_
                          refine start_ (n := 17) (S := fun w' => True) (ds := []) #[false, false, false, false, false, false, false, false, false, false, false, false, false, false, false, false, false] (by kernel_rfl) rfl rfl trivial (fun hHeld => ?_); refine with_tabW wringerref7_GetLens.tab18 wringerref7_GetLens.bits18 (fun HT_ HW_ => ?_)
                          generalize wr.drew = w47 at HO_5 BK137 HB hHeld ⊢
                          refine pure_ (i := 0) (N := some 72) (v := ?_) (a' := ?_) #[true, false, false, false, false, false, false, false, false, false, false, false, false, false, false, false, false] rfl rfl (any_of HT_.out (by kernel_rfl)) (fun _ _ _ h => h) (Or.inl ⟨by rfl, ?_⟩) ?_ ?_
                          rotate_left
                          · intro w'
                            go_simp
                            with_reducible rfl
                          rotate_left
                          · simp only [Act.put, List.setIfInBounds_toArray, List.set_cons_zero, List.set_cons_succ, i64_w, i32_w]
                            rfl
                          refine pure_ (i := 1) (N := some 73) (v := ?_) (a' := ?_) #[true, true, false, false, false, false, false, false, false, false, false, false, false, false, false, false, false] rfl rfl (any_of HT_.out (by kernel_rfl)) (fun _ _ _ h => h) (Or.inl ⟨by rfl, ?_⟩) ?_ ?_
                          rotate_left
                          · intro w'
                            go_simp
                            with_reducible rfl
                          rotate_left
                          · simp only [Act.put, List.setIfInBounds_toArray, List.set_cons_zero, List.set_cons_succ, i64_w, i32_w]
                            rfl
                          refine pure_ (i := 2) (N := some 74) (v := ?_) (a' := ?_) #[true, true, true, false, false, false, false, false, false, false, false, false, false, false, false, false, false] rfl rfl (any_of HT_.out (by kernel_rfl)) (fun _ _ _ h => h) (Or.inl ⟨by rfl, ?_⟩) ?_ ?_
                          rotate_left
                          · intro w'
                            go_simp
                            with_reducible rfl
                          rotate_left
                          · simp only [Act.put, List.setIfInBounds_toArray, List.set_cons_zero, List.set_cons_succ, i64_w, i32_w]
                            rfl
                          refine pure_ (i := 3) (N := some 75) (v := ?_) (a' := ?_) #[true, true, true, true, false, false, false, false, false, false, false, false, false, false, false, false, false] rfl rfl (any_of HT_.out (by kernel_rfl)) (fun _ _ _ h => h) (Or.inl ⟨by rfl, ?_⟩) ?_ ?_
                          rotate_left
                          · intro w'
                            go_simp
                            with_reducible rfl
                          rotate_left
                          · simp only [Act.put, List.setIfInBounds_toArray, List.set_cons_zero, List.set_cons_succ, i64_w, i32_w]
                            rfl
                          refine pure_ (i := 4) (N := some 76) (v := ?_) (a' := ?_) #[true, true, true, true, true, false, false, false, false, false, false, false, false, false, false, false, false] rfl rfl (any_of HT_.out (by kernel_rfl)) (fun _ _ _ h => h) (Or.inl ⟨by rfl, ?_⟩) ?_ ?_
                          rotate_left
                          · intro w'
                            go_simp
                            with_reducible rfl
                          rotate_left
                          · simp only [Act.put, List.setIfInBounds_toArray, List.set_cons_zero, List.set_cons_succ, i64_w, i32_w]
                            rfl
                          refine one_ (i := 5) (N := some 77) #[true, true, true, true, true, true, false, false, false, false, false, false, false, false, false, false, false] rfl rfl (one_of HT_.out (by kernel_rfl)) (by decide) (fun K hK => ?_)
                          refine goes_ Try.func19 (by kernel_rfl) rfl #[.slice Ao46 x5_2.length co46] (by rfl) rfl rfl (by (try simp only [List.map_toArray, List.map_cons, List.map_nil]); first | done | rfl | (simp only [List.length_drop, List.length_take]; rfl)) ?_
                          with_reducible refine (wringerref7_MayLens.calls k2 _ _ x5_2 true _ ?side1 ?side2 A39.out).mono ?_
                          (case side1 => repeat (first | exact (Kd.R_reads' HO_5.out).2.2 | (with_reducible refine Kd.C_alloc ?_ _) | (with_reducible refine Kd.C_drewN ?_ _) | (with_reducible refine Kd.C_drew ?_)))
                          (case side2 => exact (Kd.R_reads' HO_5.out).2.1)
                          rintro e w' ⟨rfl, ⟨nd, rfl⟩⟩
                          refine ⟨_, rfl, ?_⟩
                          refine hK.out _ _ trivial (fun hHeld => ?_)
                          clear hK K
                          refine norm_ (a' := ?_) ?_ ?_
                          rotate_left
                          · show Act.put _ (some 77) _ = _
                            simp only [Act.put, List.setIfInBounds_toArray, List.set_cons_zero, List.set_cons_succ, i64_w, i32_w]
                            rfl
                          refine pure_ (i := 6) (N := some 78) (v := ?_) (a' := ?_) #[true, true, true, true, true, true, true, false, false, false, false, false, false, false, false, false, false] rfl rfl (any_of HT_.out (by kernel_rfl)) (fun _ _ _ h => h) (Or.inl ⟨by rfl, ?_⟩) ?_ ?_
                          rotate_left
                          · intro w'
                            go_simp
                            with_reducible rfl
                          rotate_left
                          · simp only [Act.put, List.setIfInBounds_toArray, List.set_cons_zero, List.set_cons_succ, i64_w, i32_w]
                            rfl
                          refine pure_ (i := 7) (N := some 79) (v := ?_) (a' := ?_) #[true, true, true, true, true, true, true, true, false, false, false, false, false, false, false, false, false] rfl rfl (any_of HT_.out (by kernel_rfl)) (fun _ _ _ h => h) (Or.inl ⟨by rfl, ?_⟩) ?_ ?_
                          rotate_left
                          · intro w'
                            go_simp
                            with_reducible rfl
                          rotate_left
                          · simp only [Act.put, List.setIfInBounds_toArray, List.set_cons_zero, List.set_cons_succ, i64_w, i32_w]
                            rfl
                          refine pure_ (i := 8) (N := some 80) (v := ?_) (a' := ?_) #[true, true, true, true, true, true, true, true, true, false, false, false, false, false, false, false, false] rfl rfl (any_of HT_.out (by kernel_rfl)) (fun _ _ _ h => h) (Or.inl ⟨by rfl, ?_⟩) ?_ ?_
                          rotate_left
                          · intro w'
                            go_simp
                            with_reducible rfl
                          rotate_left
                          · simp only [Act.put, List.setIfInBounds_toArray, List.set_cons_zero, List.set_cons_succ, i64_w, i32_w]
                            rfl
                          refine pure_ (i := 9) (N := some 81) (v := ?_) (a' := ?_) #[true, true, true, true, true, true, true, true, true, true, false, false, false, false, false, false, false] rfl rfl (any_of HT_.out (by kernel_rfl)) (fun _ _ _ h => h) (Or.inl ⟨by rfl, ?_⟩) ?_ ?_
                          rotate_left
                          · intro w'
                            go_simp
                            with_reducible rfl
                          rotate_left
                          · simp only [Act.put, List.setIfInBounds_toArray, List.set_cons_zero, List.set_cons_succ, i64_w, i32_w]
                            rfl
                          refine pure_ (i := 11) (N := some 83) (v := ?_) (a' := ?_) #[true, true, true, true, true, true, true, true, true, true, false, true, false, false, false, false, false] rfl rfl (any_of HT_.out (by kernel_rfl)) (fun _ _ _ h => h) (Or.inl ⟨by rfl, ?_⟩) ?_ ?_
                          rotate_left
                          · intro w'
                            go_simp
                            with_reducible rfl
                          rotate_left
                          · simp only [Act.put, List.setIfInBounds_toArray, List.set_cons_zero, List.set_cons_succ, i64_w, i32_w]
                            rfl
                          refine pure_ (i := 12) (N := some 84) (v := ?_) (a' := ?_) #[true, true, true, true, true, true, true, true, true, true, false, true, true, false, false, false, false] rfl rfl (any_of HT_.out (by kernel_rfl)) (fun _ _ _ h => h) (Or.inl ⟨by rfl, ?_⟩) ?_ ?_
                          rotate_left
                          · intro w'
                            go_simp
                            with_reducible rfl
                          rotate_left
                          · simp only [Act.put, List.setIfInBounds_toArray, List.set_cons_zero, List.set_cons_succ, i64_w, i32_w]
                            rfl
                          refine pure_ (i := 13) (N := some 85) (v := ?_) (a' := ?_) #[true, true, true, true, true, true, true, true, true, true, false, true, true, true, false, false, false] rfl rfl (any_of HT_.out (by kernel_rfl)) (fun _ _ _ h => h) (Or.inl ⟨by rfl, ?_⟩) ?_ ?_
                          rotate_left
                          · intro w'
                            go_simp
                            with_reducible rfl
                          rotate_left
                          · simp only [Act.put, List.setIfInBounds_toArray, List.set_cons_zero, List.set_cons_succ, i64_w, i32_w]
                            rfl
                          refine pure_ (i := 14) (N := some 86) (v := ?_) (a' := ?_) #[true, true, true, true, true, true, true, true, true, true, false, true, true, true, true, false, false] rfl rfl (any_of HT_.out (by kernel_rfl)) (fun _ _ _ h => h) (Or.inl ⟨by rfl, ?_⟩) ?_ ?_
                          rotate_left
                          · intro w'
                            go_simp
                            with_reducible rfl
                          rotate_left
                          · simp only [Act.put, List.setIfInBounds_toArray, List.set_cons_zero, List.set_cons_succ, i64_w, i32_w]
                            rfl
                          refine one_ (i := 10) (N := some 82) #[true, true, true, true, true, true, true, true, true, true, true, true, true, true, true, false, false] rfl rfl (one_of HT_.out (by kernel_rfl)) (by decide) (fun K hK => ?_)
                          refine goes_ Try.func11 (by kernel_rfl) rfl #[.slice Ao46 x5_2.length co46] (by rfl) rfl rfl (by (try simp only [List.map_toArray, List.map_cons, List.map_nil]); first | done | rfl | (simp only [List.length_drop, List.length_take]; rfl)) ?_
                          with_reducible refine (wringerref7_PutLens.calls _ _ x5_2 t145 _ ?side1 ?side2 A41.out).mono ?_
                          (case side1 => repeat (first | exact (Kd.R_reads' HO_5.out).2.2 | (with_reducible refine Kd.C_alloc ?_ _) | (with_reducible refine Kd.C_drewN ?_ _) | (with_reducible refine Kd.C_drew ?_)))
                          (case side2 => exact (Kd.R_reads' HO_5.out).2.1)
                          rintro e w48 ⟨rfl, hb⟩
                          refine ⟨_, rfl, ?_⟩
                          have n0_ := Aside0.mk (Kd.R_below (by (with_reducible repeat (first | apply Kd.R_alloc | apply Kd.R_drewN | apply Kd.R_drew)); exact HO_5.out) hb)
                          have n1_ := Aside0.mk (blk_below (g := gb137) (o := .cells #[.slice none 0 0, .int .i64 x138001_2, .int .i64 x138002_2] 28 (0, 0)) (by (with_reducible repeat (first | refine blk_drewN ?_ _ | refine blk_drew ?_ | refine blk_alloc ?_ _)); exact BK137.out) hb)
                          have n2_ := Aside0.mk (below_step (by repeat (first | (with_reducible first | exact HB.out | apply below_alloc | apply pw_below_drewN | apply below_drew1 | refine below_set ?_ GE137.out) | exact HB.out)) hb)
                          clear HO_5
                          clear BK137
                          clear HB
                          have HO_5 := n0_
                          have BK137 := n1_
                          have HB := n2_
                          clear n0_ n1_ n2_
                          (try clear hb)
                          (try clear hb2)
                          (try clear hk)
                          (try clear hi)
                          refine hK.out _ _ trivial (fun hHeld => ?_)
                          clear hK K
                          refine norm_ (a' := ?_) ?_ ?_
                          rotate_left
                          · show Act.put _ (some 82) _ = _
                            simp only [Act.put, List.setIfInBounds_toArray, List.set_cons_zero, List.set_cons_succ, i64_w, i32_w]
                            rfl
                          refine pure_ (i := 15) (N := some 87) (v := ?_) (a' := ?_) #[true, true, true, true, true, true, true, true, true, true, true, true, true, true, true, true, false] rfl rfl (any_of HT_.out (by kernel_rfl)) (fun _ _ _ h => h) (Or.inl ⟨by rfl, ?_⟩) ?_ ?_
                          rotate_left
                          · intro w'
                            go_simp
                            with_reducible rfl
                          rotate_left
                          · simp only [Act.put, List.setIfInBounds_toArray, List.set_cons_zero, List.set_cons_succ, i64_w, i32_w]
                            rfl
                          refine pure_ (i := 16) (N := some 88) (v := ?_) (a' := ?_) #[true, true, true, true, true, true, true, true, true, true, true, true, true, true, true, true, true] rfl rfl (any_of HT_.out (by kernel_rfl)) (fun _ _ _ h => h) (Or.inl ⟨by rfl, ?_⟩) ?_ ?_
                          rotate_left
                          · intro w'
                            go_simp
                            with_reducible rfl
                          rotate_left
                          · simp only [Act.put, List.setIfInBounds_toArray, List.set_cons_zero, List.set_cons_succ, i64_w, i32_w]
                            rfl
                          refine done_ (done_of HT_.out (by kernel_rfl)) ?_
                          have hcz49_0 : w48.cell? ⟨gb137, 0, none⟩ = some (.slice none 0 0) := (blk_cell BK137.out 0).trans rfl
                          have hcz49_1 : w48.cell? ⟨gb137, 1, none⟩ = some (.int .i64 x138001_2) := (blk_cell BK137.out 1).trans rfl
                          have hcz49_2 : w48.cell? ⟨gb137, 2, none⟩ = some (.int .i64 x138002_2) := (blk_cell BK137.out 2).trans rfl
                          have hfz49_0 := blk_frozen BK137.out 0
                          have hfz49_1 := blk_frozen BK137.out 1
                          have hfz49_2 := blk_frozen BK137.out 2
                          try go_wp2
                          refine bodyPost_ret (results_cell_row rfl _ _ gb137 28 #[.slice Ao46 x5_2.length co46, .int .i64 (wrap64 (Int.tdiv (wrap64 (x6_2 + 1)) 2)), .int .i64 0] (0, 0) _ rfl (by (with_reducible repeat (first | refine blk_drewN ?_ _ | refine blk_drew ?_ | refine blk_alloc ?_ _)); refine blk_put (cs := #[.slice Ao46 x5_2.length co46, .int .i64 (wrap64 (Int.tdiv (wrap64 (x6_2 + 1)) 2)), .int .i64 x138002_2]) ?_ 2 _ rfl; (with_reducible repeat (first | refine blk_drewN ?_ _ | refine blk_drew ?_ | refine blk_alloc ?_ _)); refine blk_put (cs := #[.slice Ao46 x5_2.length co46, .int .i64 x138001_2, .int .i64 x138002_2]) ?_ 1 _ rfl; (with_reducible repeat (first | refine blk_drewN ?_ _ | refine blk_drew ?_ | refine blk_alloc ?_ _)); refine blk_put (cs := #[.slice none 0 0, .int .i64 x138001_2, .int .i64 x138002_2]) ?_ 0 _ rfl; (with_reducible repeat (first | refine blk_drewN ?_ _ | refine blk_drew ?_ | refine blk_alloc ?_ _)); exact BK137.out) Try.underlying28 rfl (by kernel_rfl)) rfl ?_
                          exact ⟨_, by first | rfl | (simp [errW_none, errW_some] <;> rfl) | (simp [*, errW_none, errW_some] <;> rfl), by (with_reducible repeat (first | apply Kd.R_alloc | apply Kd.R_drewN | apply Kd.R_drew)); exact Kd.R_mono (Kd.R_far (p := ⟨gb137, 2, none⟩) (Kd.R_far (p := ⟨gb137, 1, none⟩) (Kd.R_far (p := ⟨gb137, 0, none⟩) (Kd.R_types HO_5.out BK137.out (by decide)) (fun _ hk => hk.2) (.slice Ao46 x5_2.length co46)) (fun _ hk => hk.2) (.int .i64 (wrap64 (Int.tdiv (wrap64 (x6_2 + 1)) 2)))) (fun _ hk => hk.2) (.int .i64 0)) (fun _ hk => trivial), by repeat (first | (with_reducible first | exact HB.out | apply below_alloc | apply pw_below_drewN | apply below_drew1 | refine below_set ?_ GE137.out) | exact HB.out)⟩
                        · rw [if_neg c45] at H
                          have c45b0 : (t145.toList == (a0.extract (a1 : Int).toNat ((wrap64 (Int.tdiv (wrap64 (x6_2 + 1)) 2)) : Int).toNat).toList) = false := beq_eq_false_iff_ne.mpr c45
                          have c45b1 : (t145.toList != (a0.extract (a1 : Int).toNat ((wrap64 (Int.tdiv (wrap64 (x6_2 + 1)) 2)) : Int).toNat).toList) = true := bne_iff_ne.mpr c45
                          simp only [Option.some.injEq, Prod.mk.injEq] at H
                          obtain ⟨rfl, rfl, rfl⟩ := H
                          obtain ⟨Ao50, co50, eo50⟩ := Kd.R_slice HO_5.out
                          subst eo50
                          try go_wp2
                          have n0_ := Aside0.mk (Kd.R_drew HO_5.out)
                          have n1_ := Aside0.mk (blk_drew BK137.out)
                          have n2_ := Aside0.mk (below_drew1 HB.out)
                          clear HO_5
                          clear BK137
                          clear HB
                          have HO_5 := n0_
                          have BK137 := n1_
                          have HB := n2_
                          clear n0_ n1_ n2_
                          refine start_ (n := 17) (S := fun w' => True) (ds := []) #[false, false, false, false, false, false, false, false, false, false, false, false, false, false, false, false, false] (by kernel_rfl) rfl rfl trivial (fun hHeld => ?_); refine with_tabW wringerref7_GetLens.tab18 wringerref7_GetLens.bits18 (fun HT_ HW_ => ?_)
                          generalize wr.drew = w51 at HO_5 BK137 HB hHeld ⊢
                          refine pure_ (i := 0) (N := some 72) (v := ?_) (a' := ?_) #[true, false, false, false, false, false, false, false, false, false, false, false, false, false, false, false, false] rfl rfl (any_of HT_.out (by kernel_rfl)) (fun _ _ _ h => h) (Or.inl ⟨by rfl, ?_⟩) ?_ ?_
                          rotate_left
                          · intro w'
                            go_simp
                            with_reducible rfl
                          rotate_left
                          · simp only [Act.put, List.setIfInBounds_toArray, List.set_cons_zero, List.set_cons_succ, i64_w, i32_w]
                            rfl
                          refine pure_ (i := 1) (N := some 73) (v := ?_) (a' := ?_) #[true, true, false, false, false, false, false, false, false, false, false, false, false, false, false, false, false] rfl rfl (any_of HT_.out (by kernel_rfl)) (fun _ _ _ h => h) (Or.inl ⟨by rfl, ?_⟩) ?_ ?_
                          rotate_left
                          · intro w'
                            go_simp
                            with_reducible rfl
                          rotate_left
                          · simp only [Act.put, List.setIfInBounds_toArray, List.set_cons_zero, List.set_cons_succ, i64_w, i32_w]
                            rfl
                          refine pure_ (i := 2) (N := some 74) (v := ?_) (a' := ?_) #[true, true, true, false, false, false, false, false, false, false, false, false, false, false, false, false, false] rfl rfl (any_of HT_.out (by kernel_rfl)) (fun _ _ _ h => h) (Or.inl ⟨by rfl, ?_⟩) ?_ ?_
                          rotate_left
                          · intro w'
                            go_simp
                            with_reducible rfl
                          rotate_left
                          · simp only [Act.put, List.setIfInBounds_toArray, List.set_cons_zero, List.set_cons_succ, i64_w, i32_w]
                            rfl
                          refine pure_ (i := 3) (N := some 75) (v := ?_) (a' := ?_) #[true, true, true, true, false, false, false, false, false, false, false, false, false, false, false, false, false] rfl rfl (any_of HT_.out (by kernel_rfl)) (fun _ _ _ h => h) (Or.inl ⟨by rfl, ?_⟩) ?_ ?_
                          rotate_left
                          · intro w'
                            go_simp
                            with_reducible rfl
                          rotate_left
                          · simp only [Act.put, List.setIfInBounds_toArray, List.set_cons_zero, List.set_cons_succ, i64_w, i32_w]
                            rfl
                          refine pure_ (i := 4) (N := some 76) (v := ?_) (a' := ?_) #[true, true, true, true, true, false, false, false, false, false, false, false, false, false, false, false, false] rfl rfl (any_of HT_.out (by kernel_rfl)) (fun _ _ _ h => h) (Or.inl ⟨by rfl, ?_⟩) ?_ ?_
                          rotate_left
                          · intro w'
                            go_simp
                            with_reducible rfl
                          rotate_left
                          · simp only [Act.put, List.setIfInBounds_toArray, List.set_cons_zero, List.set_cons_succ, i64_w, i32_w]
                            rfl
                          refine one_ (i := 5) (N := some 77) #[true, true, true, true, true, true, false, false, false, false, false, false, false, false, false, false, false] rfl rfl (one_of HT_.out (by kernel_rfl)) (by decide) (fun K hK => ?_)
                          refine goes_ Try.func19 (by kernel_rfl) rfl #[.slice Ao50 x5_2.length co50] (by rfl) rfl rfl (by (try simp only [List.map_toArray, List.map_cons, List.map_nil]); first | done | rfl | (simp only [List.length_drop, List.length_take]; rfl)) ?_
                          with_reducible refine (wringerref7_MayLens.calls k2 _ _ x5_2 true _ ?side1 ?side2 A39.out).mono ?_
                          (case side1 => repeat (first | exact (Kd.R_reads' HO_5.out).2.2 | (with_reducible refine Kd.C_alloc ?_ _) | (with_reducible refine Kd.C_drewN ?_ _) | (with_reducible refine Kd.C_drew ?_)))
                          (case side2 => exact (Kd.R_reads' HO_5.out).2.1)
                          rintro e w' ⟨rfl, ⟨nd, rfl⟩⟩
                          refine ⟨_, rfl, ?_⟩
                          refine hK.out _ _ trivial (fun hHeld => ?_)
                          clear hK K
                          refine norm_ (a' := ?_) ?_ ?_
                          rotate_left
                          · show Act.put _ (some 77) _ = _
                            simp only [Act.put, List.setIfInBounds_toArray, List.set_cons_zero, List.set_cons_succ, i64_w, i32_w]
                            rfl
                          refine pure_ (i := 6) (N := some 78) (v := ?_) (a' := ?_) #[true, true, true, true, true, true, true, false, false, false, false, false, false, false, false, false, false] rfl rfl (any_of HT_.out (by kernel_rfl)) (fun _ _ _ h => h) (Or.inl ⟨by rfl, ?_⟩) ?_ ?_
                          rotate_left
                          · intro w'
                            go_simp
                            with_reducible rfl
                          rotate_left
                          · simp only [Act.put, List.setIfInBounds_toArray, List.set_cons_zero, List.set_cons_succ, i64_w, i32_w]
                            rfl
                          refine pure_ (i := 7) (N := some 79) (v := ?_) (a' := ?_) #[true, true, true, true, true, true, true, true, false, false, false, false, false, false, false, false, false] rfl rfl (any_of HT_.out (by kernel_rfl)) (fun _ _ _ h => h) (Or.inl ⟨by rfl, ?_⟩) ?_ ?_
                          rotate_left
                          · intro w'
                            go_simp
                            with_reducible rfl
                          rotate_left
                          · simp only [Act.put, List.setIfInBounds_toArray, List.set_cons_zero, List.set_cons_succ, i64_w, i32_w]
                            rfl
                          refine pure_ (i := 8) (N := some 80) (v := ?_) (a' := ?_) #[true, true, true, true, true, true, true, true, true, false, false, false, false, false, false, false, false] rfl rfl (any_of HT_.out (by kernel_rfl)) (fun _ _ _ h => h) (Or.inl ⟨by rfl, ?_⟩) ?_ ?_
                          rotate_left
                          · intro w'
                            go_simp
                            with_reducible rfl
                          rotate_left
                          · simp only [Act.put, List.setIfInBounds_toArray, List.set_cons_zero, List.set_cons_succ, i64_w, i32_w]
                            rfl
                          refine pure_ (i := 9) (N := some 81) (v := ?_) (a' := ?_) #[true, true, true, true, true, true, true, true, true, true, false, false, false, false, false, false, false] rfl rfl (any_of HT_.out (by kernel_rfl)) (fun _ _ _ h => h) (Or.inl ⟨by rfl, ?_⟩) ?_ ?_
                          rotate_left
                          · intro w'
                            go_simp
                            with_reducible rfl
                          rotate_left
                          · simp only [Act.put, List.setIfInBounds_toArray, List.set_cons_zero, List.set_cons_succ, i64_w, i32_w]
                            rfl
                          refine pure_ (i := 11) (N := some 83) (v := ?_) (a' := ?_) #[true, true, true, true, true, true, true, true, true, true, false, true, false, false, false, false, false] rfl rfl (any_of HT_.out (by kernel_rfl)) (fun _ _ _ h => h) (Or.inl ⟨by rfl, ?_⟩) ?_ ?_
                          rotate_left
                          · intro w'
                            go_simp
                            with_reducible rfl
                          rotate_left
                          · simp only [Act.put, List.setIfInBounds_toArray, List.set_cons_zero, List.set_cons_succ, i64_w, i32_w]
                            rfl
                          refine pure_ (i := 12) (N := some 84) (v := ?_) (a' := ?_) #[true, true, true, true, true, true, true, true, true, true, false, true, true, false, false, false, false] rfl rfl (any_of HT_.out (by kernel_rfl)) (fun _ _ _ h => h) (Or.inl ⟨by rfl, ?_⟩) ?_ ?_
                          rotate_left
                          · intro w'
                            go_simp
                            with_reducible rfl
                          rotate_left
                          · simp only [Act.put, List.setIfInBounds_toArray, List.set_cons_zero, List.set_cons_succ, i64_w, i32_w]
                            rfl
                          refine pure_ (i := 13) (N := some 85) (v := ?_) (a' := ?_) #[true, true, true, true, true, true, true, true, true, true, false, true, true, true, false, false, false] rfl rfl (any_of HT_.out (by kernel_rfl)) (fun _ _ _ h => h) (Or.inl ⟨by rfl, ?_⟩) ?_ ?_
                          rotate_left
                          · intro w'
                            go_simp
                            with_reducible rfl
                          rotate_left
                          · simp only [Act.put, List.setIfInBounds_toArray, List.set_cons_zero, List.set_cons_succ, i64_w, i32_w]
                            rfl
                          refine pure_ (i := 14) (N := some 86) (v := ?_) (a' := ?_) #[true, true, true, true, true, true, true, true, true, true, false, true, true, true, true, false, false] rfl rfl (any_of HT_.out (by kernel_rfl)) (fun _ _ _ h => h) (Or.inl ⟨by rfl, ?_⟩) ?_ ?_
                          rotate_left
                          · intro w'
                            go_simp
                            with_reducible rfl
                          rotate_left
                          · simp only [Act.put, List.setIfInBounds_toArray, List.set_cons_zero, List.set_cons_succ, i64_w, i32_w]
                            rfl
                          refine one_ (i := 10) (N := some 82) #[true, true, true, true, true, true, true, true, true, true, true, true, true, true, true, false, false] rfl rfl (one_of HT_.out (by kernel_rfl)) (by decide) (fun K hK => ?_)
                          refine goes_ Try.func11 (by kernel_rfl) rfl #[.slice Ao50 x5_2.length co50] (by rfl) rfl rfl (by (try simp only [List.map_toArray, List.map_cons, List.map_nil]); first | done | rfl | (simp only [List.length_drop, List.length_take]; rfl)) ?_
                          with_reducible refine (wringerref7_PutLens.calls _ _ x5_2 t145 _ ?side1 ?side2 A41.out).mono ?_
                          (case side1 => repeat (first | exact (Kd.R_reads' HO_5.out).2.2 | (with_reducible refine Kd.C_alloc ?_ _) | (with_reducible refine Kd.C_drewN ?_ _) | (with_reducible refine Kd.C_drew ?_)))
                          (case side2 => exact (Kd.R_reads' HO_5.out).2.1)
                          rintro e w52 ⟨rfl, hb⟩
                          refine ⟨_, rfl, ?_⟩
                          have n0_ := Aside0.mk (Kd.R_below (by (with_reducible repeat (first | apply Kd.R_alloc | apply Kd.R_drewN | apply Kd.R_drew)); exact HO_5.out) hb)
                          have n1_ := Aside0.mk (blk_below (g := gb137) (o := .cells #[.slice none 0 0, .int .i64 x138001_2, .int .i64 x138002_2] 28 (0, 0)) (by (with_reducible repeat (first | refine blk_drewN ?_ _ | refine blk_drew ?_ | refine blk_alloc ?_ _)); exact BK137.out) hb)
                          have n2_ := Aside0.mk (below_step (by repeat (first | (with_reducible first | exact HB.out | apply below_alloc | apply pw_below_drewN | apply below_drew1 | refine below_set ?_ GE137.out) | exact HB.out)) hb)
                          clear HO_5
                          clear BK137
                          clear HB
                          have HO_5 := n0_
                          have BK137 := n1_
                          have HB := n2_
                          clear n0_ n1_ n2_
                          (try clear hb)
                          (try clear hb2)
                          (try clear hk)
                          (try clear hi)
                          refine hK.out _ _ trivial (fun hHeld => ?_)
                          clear hK K
                          refine norm_ (a' := ?_) ?_ ?_
                          rotate_left
                          · show Act.put _ (some 82) _ = _
                            simp only [Act.put, List.setIfInBounds_toArray, List.set_cons_zero, List.set_cons_succ, i64_w, i32_w]
                            rfl
                          refine pure_ (i := 15) (N := some 87) (v := ?_) (a' := ?_) #[true, true, true, true, true, true, true, true, true, true, true, true, true, true, true, true, false] rfl rfl (any_of HT_.out (by kernel_rfl)) (fun _ _ _ h => h) (Or.inl ⟨by rfl, ?_⟩) ?_ ?_
                          rotate_left
                          · intro w'
                            go_simp
                            with_reducible rfl
                          rotate_left
                          · simp only [Act.put, List.setIfInBounds_toArray, List.set_cons_zero, List.set_cons_succ, i64_w, i32_w]
                            rfl
                          refine pure_ (i := 16) (N := some 88) (v := ?_) (a' := ?_) #[true, true, true, true, true, true, true, true, true, true, true, true, true, true, true, true, true] rfl rfl (any_of HT_.out (by kernel_rfl)) (fun _ _ _ h => h) (Or.inl ⟨by rfl, ?_⟩) ?_ ?_
                          rotate_left
                          · intro w'
                            go_simp
                            with_reducible rfl
                          rotate_left
                          · simp only [Act.put, List.setIfInBounds_toArray, List.set_cons_zero, List.set_cons_succ, i64_w, i32_w]
                            rfl
                          refine done_ (done_of HT_.out (by kernel_rfl)) ?_
                          have hcz53_0 : w52.cell? ⟨gb137, 0, none⟩ = some (.slice none 0 0) := (blk_cell BK137.out 0).trans rfl
                          have hcz53_1 : w52.cell? ⟨gb137, 1, none⟩ = some (.int .i64 x138001_2) := (blk_cell BK137.out 1).trans rfl
                          have hcz53_2 : w52.cell? ⟨gb137, 2, none⟩ = some (.int .i64 x138002_2) := (blk_cell BK137.out 2).trans rfl
                          have hfz53_0 := blk_frozen BK137.out 0
                          have hfz53_1 := blk_frozen BK137.out 1
                          have hfz53_2 := blk_frozen BK137.out 2
                          try go_wp2
                          refine bodyPost_ret (results_cell_row rfl _ _ gb137 28 #[.slice none 0 0, .int .i64 0, .int .i64 3] (0, 0) _ rfl (by (with_reducible repeat (first | refine blk_drewN ?_ _ | refine blk_drew ?_ | refine blk_alloc ?_ _)); refine blk_put (cs := #[.slice none 0 0, .int .i64 0, .int .i64 x138002_2]) ?_ 2 _ rfl; (with_reducible repeat (first | refine blk_drewN ?_ _ | refine blk_drew ?_ | refine blk_alloc ?_ _)); refine blk_put (cs := #[.slice none 0 0, .int .i64 x138001_2, .int .i64 x138002_2]) ?_ 1 _ rfl; (with_reducible repeat (first | refine blk_drewN ?_ _ | refine blk_drew ?_ | refine blk_alloc ?_ _)); refine blk_put (cs := #[.slice none 0 0, .int .i64 x138001_2, .int .i64 x138002_2]) ?_ 0 _ rfl; (with_reducible repeat (first | refine blk_drewN ?_ _ | refine blk_drew ?_ | refine blk_alloc ?_ _)); exact BK137.out) Try.underlying28 rfl (by kernel_rfl)) rfl ?_
                          exact ⟨_, by first | rfl | (simp [errW_none, errW_some] <;> rfl) | (simp [*, errW_none, errW_some] <;> rfl), by first | exact Kd.R_nil _ _ _ _ _ | exact Kd.N_nil _ _ _ _ _ | exact Kd.V_nil _ _ _ _ _ | exact Kd.Q_nil _ _ _ _ _ | exact Kd.S_nil _ _ _ _ _, by repeat (first | (with_reducible first | exact HB.out | apply below_alloc | apply pw_below_drewN | apply below_drew1 | refine below_set ?_ GE137.out) | exact HB.out)⟩
                      · rw [if_neg c44] at H
                        exact absurd H (by simp)
                    · rw [if_neg c43] at H
                      exact absurd H (by simp)
                  · rw [if_neg c42] at H
                    exact absurd H (by simp)
                · replace c40 := Bool.eq_false_iff.mpr c40
                  subst c40
                  have H1 : (some (([] : List Int), 0, 3)) = some (r1, r2, r3) := by rw [if_neg (show ¬ (false = true) by decide)] at H; exact H
                  clear H
                  have H := H1
                  clear H1
                  simp only [Option.some.injEq, Prod.mk.injEq] at H
                  obtain ⟨rfl, rfl, rfl⟩ := H
                  obtain ⟨Ao54, co54, eo54⟩ := Kd.R_slice HO_5.out
                  subst eo54
                  try go_wp2
                  have n0_ := Aside0.mk (Kd.R_drew HO_5.out)
                  have n1_ := Aside0.mk (blk_drew BK137.out)
                  have n2_ := Aside0.mk (below_drew1 HB.out)
                  clear HO_5
                  clear BK137
                  clear HB
                  have HO_5 := n0_
                  have BK137 := n1_
                  have HB := n2_
                  clear n0_ n1_ n2_
                  refine start_ (n := 17) (S := fun w' => True) (ds := []) #[false, false, false, false, false, false, false, false, false, false, false, false, false, false, false, false, false] (by kernel_rfl) rfl rfl trivial (fun hHeld => ?_); refine with_tabW wringerref7_GetLens.tab18 wringerref7_GetLens.bits18 (fun HT_ HW_ => ?_)
                  generalize wr.drew = w55 at HO_5 BK137 HB hHeld ⊢
                  refine pure_ (i := 0) (N := some 72) (v := ?_) (a' := ?_) #[true, false, false, false, false, false, false, false, false, false, false, false, false, false, false, false, false] rfl rfl (any_of HT_.out (by kernel_rfl)) (fun _ _ _ h => h) (Or.inl ⟨by rfl, ?_⟩) ?_ ?_
                  rotate_left
                  · intro w'
                    go_simp
                    with_reducible rfl
                  rotate_left
                  · simp only [Act.put, List.setIfInBounds_toArray, List.set_cons_zero, List.set_cons_succ, i64_w, i32_w]
                    rfl
                  refine pure_ (i := 1) (N := some 73) (v := ?_) (a' := ?_) #[true, true, false, false, false, false, false, false, false, false, false, false, false, false, false, false, false] rfl rfl (any_of HT_.out (by kernel_rfl)) (fun _ _ _ h => h) (Or.inl ⟨by rfl, ?_⟩) ?_ ?_
                  rotate_left
                  · intro w'
                    go_simp
                    with_reducible rfl
                  rotate_left
                  · simp only [Act.put, List.setIfInBounds_toArray, List.set_cons_zero, List.set_cons_succ, i64_w, i32_w]
                    rfl
                  refine pure_ (i := 2) (N := some 74) (v := ?_) (a' := ?_) #[true, true, true, false, false, false, false, false, false, false, false, false, false, false, false, false, false] rfl rfl (any_of HT_.out (by kernel_rfl)) (fun _ _ _ h => h) (Or.inl ⟨by rfl, ?_⟩) ?_ ?_
                  rotate_left
                  · intro w'
                    go_simp
                    with_reducible rfl
                  rotate_left
                  · simp only [Act.put, List.setIfInBounds_toArray, List.set_cons_zero, List.set_cons_succ, i64_w, i32_w]
                    rfl
                  refine pure_ (i := 3) (N := some 75) (v := ?_) (a' := ?_) #[true, true, true, true, false, false, false, false, false, false, false, false, false, false, false, false, false] rfl rfl (any_of HT_.out (by kernel_rfl)) (fun _ _ _ h => h) (Or.inl ⟨by rfl, ?_⟩) ?_ ?_
                  rotate_left
                  · intro w'
                    go_simp
                    with_reducible rfl
                  rotate_left
                  · simp only [Act.put, List.setIfInBounds_toArray, List.set_cons_zero, List.set_cons_succ, i64_w, i32_w]
                    rfl
                  refine pure_ (i := 4) (N := some 76) (v := ?_) (a' := ?_) #[true, true, true, true, true, false, false, false, false, false, false, false, false, false, false, false, false] rfl rfl (any_of HT_.out (by kernel_rfl)) (fun _ _ _ h => h) (Or.inl ⟨by rfl, ?_⟩) ?_ ?_
                  rotate_left
                  · intro w'
                    go_simp
                    with_reducible rfl
                  rotate_left
                  · simp only [Act.put, List.setIfInBounds_toArray, List.set_cons_zero, List.set_cons_succ, i64_w, i32_w]
                    rfl
                  refine one_ (i := 5) (N := some 77) #[true, true, true, true, true, true, false, false, false, false, false, false, false, false, false, false, false] rfl rfl (one_of HT_.out (by kernel_rfl)) (by decide) (fun K hK => ?_)
                  refine goes_ Try.func19 (by kernel_rfl) rfl #[.slice Ao54 x5_2.length co54] (by rfl) rfl rfl (by (try simp only [List.map_toArray, List.map_cons, List.map_nil]); first | done | rfl | (simp only [List.length_drop, List.length_take]; rfl)) ?_
                  with_reducible refine (wringerref7_MayLens.calls k2 _ _ x5_2 false _ ?side1 ?side2 A39.out).mono ?_
                  (case side1 => repeat (first | exact (Kd.R_reads' HO_5.out).2.2 | (with_reducible refine Kd.C_alloc ?_ _) | (with_reducible refine Kd.C_drewN ?_ _) | (with_reducible refine Kd.C_drew ?_)))
                  (case side2 => exact (Kd.R_reads' HO_5.out).2.1)
                  rintro e w' ⟨rfl, ⟨nd, rfl⟩⟩
                  refine ⟨_, rfl, ?_⟩
                  refine hK.out _ _ trivial (fun hHeld => ?_)
                  clear hK K
                  refine norm_ (a' := ?_) ?_ ?_
                  rotate_left
                  · show Act.put _ (some 77) _ = _
                    simp only [Act.put, List.setIfInBounds_toArray, List.set_cons_zero, List.set_cons_succ, i64_w, i32_w]
                    rfl
                  refine pure_ (i := 6) (N := some 78) (v := ?_) (a' := ?_) #[true, true, true, true, true, true, true, false, false, false, false, false, false, false, false, false, false] rfl rfl (any_of HT_.out (by kernel_rfl)) (fun _ _ _ h => h) (Or.inl ⟨by rfl, ?_⟩) ?_ ?_
                  rotate_left
                  · intro w'
                    go_simp
                    with_reducible rfl
                  rotate_left
                  · simp only [Act.put, List.setIfInBounds_toArray, List.set_cons_zero, List.set_cons_succ, i64_w, i32_w]
                    rfl
                  refine pure_ (i := 7) (N := some 79) (v := ?_) (a' := ?_) #[true, true, true, true, true, true, true, true, false, false, false, false, false, false, false, false, false] rfl rfl (any_of HT_.out (by kernel_rfl)) (fun _ _ _ h => h) (Or.inl ⟨by rfl, ?_⟩) ?_ ?_
                  rotate_left
                  · intro w'
                    go_simp
                    with_reducible rfl
                  rotate_left
                  · simp only [Act.put, List.setIfInBounds_toArray, List.set_cons_zero, List.set_cons_succ, i64_w, i32_w]
                    rfl
                  refine pure_ (i := 8) (N := some 80) (v := ?_) (a' := ?_) #[true, true, true, true, true, true, true, true, true, false, false, false, false, false, false, false, false] rfl rfl (any_of HT_.out (by kernel_rfl)) (fun _ _ _ h => h) (Or.inl ⟨by rfl, ?_⟩) ?_ ?_
                  rotate_left
                  · intro w'
                    go_simp
                    with_reducible rfl
                  rotate_left
                  · simp only [Act.put, List.setIfInBounds_toArray, List.set_cons_zero, List.set_cons_succ, i64_w, i32_w]
                    rfl
                  refine pure_ (i := 9) (N := some 81) (v := undef) (a' := ?_) #[true, true, true, true, true, true, true, true, true, true, false, false, false, false, false, false, false] rfl rfl (any_of HT_.out (by kernel_rfl)) (fun _ _ _ h => h) (Or.inr ⟨by rfl, rfl⟩) ?_ ?_
                  rotate_left
                  · simp only [Act.put, List.setIfInBounds_toArray, List.set_cons_zero, List.set_cons_succ, i64_w, i32_w]
                    rfl
                  refine pure_ (i := 10) (N := some 82) (v := undef) (a' := ?_) #[true, true, true, true, true, true, true, true, true, true, true, false, false, false, false, false, false] rfl rfl (any_of HT_.out (by kernel_rfl)) (fun _ _ _ h => h) (Or.inr ⟨by rfl, rfl⟩) ?_ ?_
                  rotate_left
                  · simp only [Act.put, List.setIfInBounds_toArray, List.set_cons_zero, List.set_cons_succ, i64_w, i32_w]
                    rfl
                  refine pure_ (i := 11) (N := some 83) (v := undef) (a' := ?_) #[true, true, true, true, true, true, true, true, true, true, true, true, false, false, false, false, false] rfl rfl (any_of HT_.out (by kernel_rfl)) (fun _ _ _ h => h) (Or.inr ⟨by rfl, rfl⟩) ?_ ?_
                  rotate_left
                  · simp only [Act.put, List.setIfInBounds_toArray, List.set_cons_zero, List.set_cons_succ, i64_w, i32_w]
                    rfl
                  refine pure_ (i := 12) (N := some 84) (v := undef) (a' := ?_) #[true, true, true, true, true, true, true, true, true, true, true, true, true, false, false, false, false] rfl rfl (any_of HT_.out (by kernel_rfl)) (fun _ _ _ h => h) (Or.inr ⟨by rfl, rfl⟩) ?_ ?_
                  rotate_left
                  · simp only [Act.put, List.setIfInBounds_toArray, List.set_cons_zero, List.set_cons_succ, i64_w, i32_w]
                    rfl
                  refine pure_ (i := 13) (N := some 85) (v := undef) (a' := ?_) #[true, true, true, true, true, true, true, true, true, true, true, true, true, true, false, false, false] rfl rfl (any_of HT_.out (by kernel_rfl)) (fun _ _ _ h => h) (Or.inr ⟨by rfl, rfl⟩) ?_ ?_
                  rotate_left
                  · simp only [Act.put, List.setIfInBounds_toArray, List.set_cons_zero, List.set_cons_succ, i64_w, i32_w]
                    rfl
                  refine pure_ (i := 14) (N := some 86) (v := undef) (a' := ?_) #[true, true, true, true, true, true, true, true, true, true, true, true, true, true, true, false, false] rfl rfl (any_of HT_.out (by kernel_rfl)) (fun _ _ _ h => h) (Or.inr ⟨by rfl, rfl⟩) ?_ ?_
                  rotate_left
                  · simp only [Act.put, List.setIfInBounds_toArray, List.set_cons_zero, List.set_cons_succ, i64_w, i32_w]
                    rfl
                  refine pure_ (i := 15) (N := some 87) (v := undef) (a' := ?_) #[true, true, true, true, true, true, true, true, true, true, true, true, true, true, true, true, false] rfl rfl (any_of HT_.out (by kernel_rfl)) (fun _ _ _ h => h) (Or.inr ⟨by rfl, rfl⟩) ?_ ?_
                  rotate_left
                  · simp only [Act.put, List.setIfInBounds_toArray, List.set_cons_zero, List.set_cons_succ, i64_w, i32_w]
                    rfl
                  refine pure_ (i := 16) (N := some 88) (v := ?_) (a' := ?_) #[true, true, true, true, true, true, true, true, true, true, true, true, true, true, true, true, true] rfl rfl (any_of HT_.out (by kernel_rfl)) (fun _ _ _ h => h) (Or.inl ⟨by rfl, ?_⟩) ?_ ?_
                  rotate_left
                  · intro w'
                    go_simp
                    with_reducible rfl
                  rotate_left
                  · simp only [Act.put, List.setIfInBounds_toArray, List.set_cons_zero, List.set_cons_succ, i64_w, i32_w]
                    rfl
                  refine done_ (done_of HT_.out (by kernel_rfl)) ?_
                  have hcz56_0 : w55.cell? ⟨gb137, 0, none⟩ = some (.slice none 0 0) := (blk_cell BK137.out 0).trans rfl
                  have hcz56_1 : w55.cell? ⟨gb137, 1, none⟩ = some (.int .i64 x138001_2) := (blk_cell BK137.out 1).trans rfl
                  have hcz56_2 : w55.cell? ⟨gb137, 2, none⟩ = some (.int .i64 x138002_2) := (blk_cell BK137.out 2).trans rfl
                  have hfz56_0 := blk_frozen BK137.out 0
                  have hfz56_1 := blk_frozen BK137.out 1
                  have hfz56_2 := blk_frozen BK137.out 2
                  try go_wp2
                  refine bodyPost_ret (results_cell_row rfl _ _ gb137 28 #[.slice none 0 0, .int .i64 0, .int .i64 3] (0, 0) _ rfl (by (with_reducible repeat (first | refine blk_drewN ?_ _ | refine blk_drew ?_ | refine blk_alloc ?_ _)); refine blk_put (cs := #[.slice none 0 0, .int .i64 0, .int .i64 x138002_2]) ?_ 2 _ rfl; (with_reducible repeat (first | refine blk_drewN ?_ _ | refine blk_drew ?_ | refine blk_alloc ?_ _)); refine blk_put (cs := #[.slice none 0 0, .int .i64 x138001_2, .int .i64 x138002_2]) ?_ 1 _ rfl; (with_reducible repeat (first | refine blk_drewN ?_ _ | refine blk_drew ?_ | refine blk_alloc ?_ _)); refine blk_put (cs := #[.slice none 0 0, .int .i64 x138001_2, .int .i64 x138002_2]) ?_ 0 _ rfl; (with_reducible repeat (first | refine blk_drewN ?_ _ | refine blk_drew ?_ | refine blk_alloc ?_ _)); exact BK137.out) Try.underlying28 rfl (by kernel_rfl)) rfl ?_
                  exact ⟨_, by first | rfl | (simp [errW_none, errW_some] <;> rfl) | (simp [*, errW_none, errW_some] <;> rfl), by first | exact Kd.R_nil _ _ _ _ _ | exact Kd.N_nil _ _ _ _ _ | exact Kd.V_nil _ _ _ _ _ | exact Kd.Q_nil _ _ _ _ _ | exact Kd.S_nil _ _ _ _ _, by repeat (first | (with_reducible first | exact HB.out | apply below_alloc | apply pw_below_drewN | apply below_drew1 | refine below_set ?_ GE137.out) | exact HB.out)⟩
              · rw [if_neg c38] at H
                have c38b0 : ((x5_2.length : Int) == 65) = false := beq_eq_false_iff_ne.mpr c38
                have c38b1 : ((x5_2.length : Int) != 65) = true := bne_iff_ne.mpr c38
                simp only [Option.some.injEq, Prod.mk.injEq] at H
                obtain ⟨rfl, rfl, rfl⟩ := H
                obtain ⟨Ao57, co57, eo57⟩ := Kd.R_slice HO_5.out
                subst eo57
                try go_wp2
                have n0_ := Aside0.mk (Kd.R_drew HO_5.out)
                have n1_ := Aside0.mk (blk_drew BK137.out)
                have n2_ := Aside0.mk (below_drew1 HB.out)
                clear HO_5
                clear BK137
                clear HB
                have HO_5 := n0_
                have BK137 := n1_
                have HB := n2_
                clear n0_ n1_ n2_
                refine start_ (n := 17) (S := fun w' => True) (ds := []) #[false, false, false, false, false, false, false, false, false, false, false, false, false, false, false, false, false] (by kernel_rfl) rfl rfl trivial (fun hHeld => ?_); refine with_tabW wringerref7_GetLens.tab18 wringerref7_GetLens.bits18 (fun HT_ HW_ => ?_)
                generalize wr.drew = w58 at HO_5 BK137 HB hHeld ⊢
                refine pure_ (i := 0) (N := some 72) (v := ?_) (a' := ?_) #[true, false, false, false, false, false, false, false, false, false, false, false, false, false, false, false, false] rfl rfl (any_of HT_.out (by kernel_rfl)) (fun _ _ _ h => h) (Or.inl ⟨by rfl, ?_⟩) ?_ ?_
                rotate_left
                · intro w'
                  go_simp
                  with_reducible rfl
                rotate_left
                · simp only [Act.put, List.setIfInBounds_toArray, List.set_cons_zero, List.set_cons_succ, i64_w, i32_w]
                  rfl
                refine pure_ (i := 1) (N := some 73) (v := ?_) (a' := ?_) #[true, true, false, false, false, false, false, false, false, false, false, false, false, false, false, false, false] rfl rfl (any_of HT_.out (by kernel_rfl)) (fun _ _ _ h => h) (Or.inl ⟨by rfl, ?_⟩) ?_ ?_
                rotate_left
                · intro w'
                  go_simp
                  with_reducible rfl
                rotate_left
                · simp only [Act.put, List.setIfInBounds_toArray, List.set_cons_zero, List.set_cons_succ, i64_w, i32_w]
                  rfl
                refine pure_ (i := 2) (N := some 74) (v := ?_) (a' := ?_) #[true, true, true, false, false, false, false, false, false, false, false, false, false, false, false, false, false] rfl rfl (any_of HT_.out (by kernel_rfl)) (fun _ _ _ h => h) (Or.inl ⟨by rfl, ?_⟩) ?_ ?_
                rotate_left
                · intro w'
                  go_simp
                  with_reducible rfl
                rotate_left
                · simp only [Act.put, List.setIfInBounds_toArray, List.set_cons_zero, List.set_cons_succ, i64_w, i32_w]
                  rfl
                refine pure_ (i := 3) (N := some 75) (v := ?_) (a' := ?_) #[true, true, true, true, false, false, false, false, false, false, false, false, false, false, false, false, false] rfl rfl (any_of HT_.out (by kernel_rfl)) (fun _ _ _ h => h) (Or.inl ⟨by rfl, ?_⟩) ?_ ?_
                rotate_left
                · intro w'
                  go_simp
                  with_reducible rfl
                rotate_left
                · simp only [Act.put, List.setIfInBounds_toArray, List.set_cons_zero, List.set_cons_succ, i64_w, i32_w]
                  rfl
                refine pure_ (i := 4) (N := some 76) (v := undef) (a' := ?_) #[true, true, true, true, true, false, false, false, false, false, false, false, false, false, false, false, false] rfl rfl (any_of HT_.out (by kernel_rfl)) (fun _ _ _ h => h) (Or.inr ⟨by rfl, rfl⟩) ?_ ?_
                rotate_left
                · simp only [Act.put, List.setIfInBounds_toArray, List.set_cons_zero, List.set_cons_succ, i64_w, i32_w]
                  rfl
                refine pure_ (i := 5) (N := some 77) (v := undef) (a' := ?_) #[true, true, true, true, true, true, false, false, false, false, false, false, false, false, false, false, false] rfl rfl (any_of HT_.out (by kernel_rfl)) (fun _ _ _ h => h) (Or.inr ⟨by rfl, rfl⟩) ?_ ?_
                rotate_left
                · simp only [Act.put, List.setIfInBounds_toArray, List.set_cons_zero, List.set_cons_succ, i64_w, i32_w]
                  rfl
                refine pure_ (i := 6) (N := some 78) (v := undef) (a' := ?_) #[true, true, true, true, true, true, true, false, false, false, false, false, false, false, false, false, false] rfl rfl (any_of HT_.out (by kernel_rfl)) (fun _ _ _ h => h) (Or.inr ⟨by rfl, rfl⟩) ?_ ?_
                rotate_left
                · simp only [Act.put, List.setIfInBounds_toArray, List.set_cons_zero, List.set_cons_succ, i64_w, i32_w]
                  rfl
                refine pure_ (i := 7) (N := some 79) (v := ?_) (a' := ?_) #[true, true, true, true, true, true, true, true, false, false, false, false, false, false, false, false, false] rfl rfl (any_of HT_.out (by kernel_rfl)) (fun _ _ _ h => h) (Or.inl ⟨by rfl, ?_⟩) ?_ ?_
                rotate_left
                · intro w'
                  go_simp
                  with_reducible rfl
                rotate_left
                · simp only [Act.put, List.setIfInBounds_toArray, List.set_cons_zero, List.set_cons_succ, i64_w, i32_w]
                  rfl
                refine pure_ (i := 8) (N := some 80) (v := ?_) (a' := ?_) #[true, true, true, true, true, true, true, true, true, false, false, false, false, false, false, false, false] rfl rfl (any_of HT_.out (by kernel_rfl)) (fun _ _ _ h => h) (Or.inl ⟨by rfl, ?_⟩) ?_ ?_
                rotate_left
                · intro w'
                  go_simp
                  with_reducible rfl
                rotate_left
                · simp only [Act.put, List.setIfInBounds_toArray, List.set_cons_zero, List.set_cons_succ, i64_w, i32_w]
                  rfl
                refine pure_ (i := 9) (N := some 81) (v := undef) (a' := ?_) #[true, true, true, true, true, true, true, true, true, true, false, false, false, false, false, false, false] rfl rfl (any_of HT_.out (by kernel_rfl)) (fun _ _ _ h => h) (Or.inr ⟨by rfl, rfl⟩) ?_ ?_
                rotate_left
                · simp only [Act.put, List.setIfInBounds_toArray, List.set_cons_zero, List.set_cons_succ, i64_w, i32_w]
                  rfl
                refine pure_ (i := 10) (N := some 82) (v := undef) (a' := ?_) #[true, true, true, true, true, true, true, true, true, true, true, false, false, false, false, false, false] rfl rfl (any_of HT_.out (by kernel_rfl)) (fun _ _ _ h => h) (Or.inr ⟨by rfl, rfl⟩) ?_ ?_
                rotate_left
                · simp only [Act.put, List.setIfInBounds_toArray, List.set_cons_zero, List.set_cons_succ, i64_w, i32_w]
                  rfl
                refine pure_ (i := 11) (N := some 83) (v := undef) (a' := ?_) #[true, true, true, true, true, true, true, true, true, true, true, true, false, false, false, false, false] rfl rfl (any_of HT_.out (by kernel_rfl)) (fun _ _ _ h => h) (Or.inr ⟨by rfl, rfl⟩) ?_ ?_
                rotate_left
                · simp only [Act.put, List.setIfInBounds_toArray, List.set_cons_zero, List.set_cons_succ, i64_w, i32_w]
                  rfl
                refine pure_ (i := 12) (N := some 84) (v := undef) (a' := ?_) #[true, true, true, true, true, true, true, true, true, true, true, true, true, false, false, false, false] rfl rfl (any_of HT_.out (by kernel_rfl)) (fun _ _ _ h => h) (Or.inr ⟨by rfl, rfl⟩) ?_ ?_
                rotate_left
                · simp only [Act.put, List.setIfInBounds_toArray, List.set_cons_zero, List.set_cons_succ, i64_w, i32_w]
                  rfl
                refine pure_ (i := 13) (N := some 85) (v := undef) (a' := ?_) #[true, true, true, true, true, true, true, true, true, true, true, true, true, true, false, false, false] rfl rfl (any_of HT_.out (by kernel_rfl)) (fun _ _ _ h => h) (Or.inr ⟨by rfl, rfl⟩) ?_ ?_
                rotate_left
                · simp only [Act.put, List.setIfInBounds_toArray, List.set_cons_zero, List.set_cons_succ, i64_w, i32_w]
                  rfl
                refine pure_ (i := 14) (N := some 86) (v := undef) (a' := ?_) #[true, true, true, true, true, true, true, true, true, true, true, true, true, true, true, false, false] rfl rfl (any_of HT_.out (by kernel_rfl)) (fun _ _ _ h => h) (Or.inr ⟨by rfl, rfl⟩) ?_ ?_
                rotate_left
                · simp only [Act.put, List.setIfInBounds_toArray, List.set_cons_zero, List.set_cons_succ, i64_w, i32_w]
                  rfl
                refine pure_ (i := 15) (N := some 87) (v := undef) (a' := ?_) #[true, true, true, true, true, true, true, true, true, true, true, true, true, true, true, true, false] rfl rfl (any_of HT_.out (by kernel_rfl)) (fun _ _ _ h => h) (Or.inr ⟨by rfl, rfl⟩) ?_ ?_
                rotate_left
                · simp only [Act.put, List.setIfInBounds_toArray, List.set_cons_zero, List.set_cons_succ, i64_w, i32_w]
                  rfl
                refine pure_ (i := 16) (N := some 88) (v := ?_) (a' := ?_) #[true, true, true, true, true, true, true, true, true, true, true, true, true, true, true, true, true] rfl rfl (any_of HT_.out (by kernel_rfl)) (fun _ _ _ h => h) (Or.inl ⟨by rfl, ?_⟩) ?_ ?_
                rotate_left
                · intro w'
                  go_simp
                  with_reducible rfl
                rotate_left
                · simp only [Act.put, List.setIfInBounds_toArray, List.set_cons_zero, List.set_cons_succ, i64_w, i32_w]
                  rfl
                refine done_ (done_of HT_.out (by kernel_rfl)) ?_
                have hcz59_0 : w58.cell? ⟨gb137, 0, none⟩ = some (.slice none 0 0) := (blk_cell BK137.out 0).trans rfl
                have hcz59_1 : w58.cell? ⟨gb137, 1, none⟩ = some (.int .i64 x138001_2) := (blk_cell BK137.out 1).trans rfl
                have hcz59_2 : w58.cell? ⟨gb137, 2, none⟩ = some (.int .i64 x138002_2) := (blk_cell BK137.out 2).trans rfl
                have hfz59_0 := blk_frozen BK137.out 0
                have hfz59_1 := blk_frozen BK137.out 1
                have hfz59_2 := blk_frozen BK137.out 2
                try go_wp2
                refine bodyPost_ret (results_cell_row rfl _ _ gb137 28 #[.slice none 0 0, .int .i64 0, .int .i64 3] (0, 0) _ rfl (by (with_reducible repeat (first | refine blk_drewN ?_ _ | refine blk_drew ?_ | refine blk_alloc ?_ _)); refine blk_put (cs := #[.slice none 0 0, .int .i64 0, .int .i64 x138002_2]) ?_ 2 _ rfl; (with_reducible repeat (first | refine blk_drewN ?_ _ | refine blk_drew ?_ | refine blk_alloc ?_ _)); refine blk_put (cs := #[.slice none 0 0, .int .i64 x138001_2, .int .i64 x138002_2]) ?_ 1 _ rfl; (with_reducible repeat (first | refine blk_drewN ?_ _ | refine blk_drew ?_ | refine blk_alloc ?_ _)); refine blk_put (cs := #[.slice none 0 0, .int .i64 x138001_2, .int .i64 x138002_2]) ?_ 0 _ rfl; (with_reducible repeat (first | refine blk_drewN ?_ _ | refine blk_drew ?_ | refine blk_alloc ?_ _)); exact BK137.out) Try.underlying28 rfl (by kernel_rfl)) rfl ?_
                exact ⟨_, by first | rfl | (simp [errW_none, errW_some] <;> rfl) | (simp [*, errW_none, errW_some] <;> rfl), by first | exact Kd.R_nil _ _ _ _ _ | exact Kd.N_nil _ _ _ _ _ | exact Kd.V_nil _ _ _ _ _ | exact Kd.Q_nil _ _ _ _ _ | exact Kd.S_nil _ _ _ _ _, by repeat (first | (with_reducible first | exact HB.out | apply below_alloc | apply pw_below_drewN | apply below_drew1 | refine below_set ?_ GE137.out) | exact HB.out)⟩

end Go.Proofs.Ytkplcibmhibjjaa.PA

-- ---- PAx15

namespace Go.Proofs.Ytkplcibmhibjjaa.PA
open Go.RowKit Go.Proofs.YtkplcibmhibjjaaW.PrintWords Go.Proofs.YtkplcibmhibjjaaW.PrintLast Go.Proofs.YtkplcibmhibjjaaW.PrintMore
attribute [local go_sem] max2_int min2_int max_two min_two max_three min_three max_four min_four   -- for this text's walks alone
set_option linter.unusedVariables false
set_option linter.unusedSimpArgs false

/-! ### wringerref7_SameInts: function 12 -/
def wringerref7_SameInts.l0 : Nat → List Int → List Int → Int → Option (Bool)
  | 0, _, _, _ => none
  | k + 1, x0, x1, x5 => if x5 < (x0.length : Int) then (if 0 ≤ x5 then (if x5 < (x1.length : Int) then (if (rd x0 x5) = (rd x1 x5) then (wringerref7_SameInts.l0 k x0 x1 (wrap64 (x5 + 1))) else (some false)) else (none)) else (none)) else (some true)
def wringerref7_SameInts.f (k : Nat) (l0 : List Int) (l1 : List Int) : Option (Bool) := if (l0.length : Int) = (l1.length : Int) then (wringerref7_SameInts.l0 k l0 l1 0) else (some false)
theorem wringerref7_SameInts.mono_l : ∀ k, (∀ y0 y1 y2, LeO (wringerref7_SameInts.l0 k y0 y1 y2) (wringerref7_SameInts.l0 (k + 1) y0 y1 y2))
  | 0 => fun _ _ _ r h => by simp [wringerref7_SameInts.l0] at h
  | k + 1 => by
    have ih0 := wringerref7_SameInts.mono_l k
    · intro y0 y1 y2
      unfold wringerref7_SameInts.l0
      repeat' first
      | (with_reducible exact ih0 _ _ _)
      | (with_reducible exact LeO.refl _)
      | (with_reducible exact LeO.none _)
      | (with_reducible refine LeO.ite ?_ ?_)
      | (with_reducible refine LeO.bind ?_ (fun _ => ?_))
      | exact ih0 _ _ _
      | exact LeO.none _
      | refine LeO.ite ?_ ?_
      | refine LeO.bind ?_ (fun _ => ?_)
theorem wringerref7_SameInts.mono : ∀ a0 a1 k, LeO (wringerref7_SameInts.f k a0 a1) (wringerref7_SameInts.f (k + 1) a0 a1) := by
  intro a0 a1 k
  have ih0 := wringerref7_SameInts.mono_l k
  unfold wringerref7_SameInts.f
  repeat' first
      | (with_reducible exact ih0 _ _ _)
      | (with_reducible exact LeO.refl _)
      | (with_reducible exact LeO.none _)
      | (with_reducible refine LeO.ite ?_ ?_)
      | (with_reducible refine LeO.bind ?_ (fun _ => ?_))
      | exact ih0 _ _ _
      | exact LeO.none _
      | refine LeO.ite ?_ ?_
      | refine LeO.bind ?_ (fun _ => ?_)
set_option maxHeartbeats 8000000 in
set_option maxRecDepth 100000 in
theorem wringerref7_SameInts.calls (k : Nat) (A0 : Option Addr) (c0 : Nat) (l0 : List Int) (A1 : Option Addr) (c1 : Nat) (l1 : List Int) (r : Bool) (w : World) (hr0 : Kd.C (Kd.int .i64) w A0 l0.length l0) (hc0 : l0.length ≤ c0) (hr1 : Kd.C (Kd.int .i64) w A1 l1.length l1) (hc1 : l1.length ≤ c1) (h : wringerref7_SameInts.f k l0 l1 = some r) :
    Calls Try.prog 12 #[.slice A0 l0.length c0, .slice A1 l1.length c1] w fun e w' => e = .returned (.bool r) ∧ Drawn0 w w' := by
  have HR0 := Aside0.mk hr0
  have HC0 := Aside0.mk hc0
  clear hr0 hc0
  have HR1 := Aside0.mk hr1
  have HC1 := Aside0.mk hc1
  clear hr1 hc1
  have H : (if (l0.length : Int) = (l1.length : Int) then (wringerref7_SameInts.l0 k l0 l1 0) else (some false)) = some r := h
  clear h
  by_cases c3 : (l0.length : Int) = (l1.length : Int)
  · rw [if_pos c3] at H
    have c3b0 : ((l0.length : Int) == (l1.length : Int)) = true := beq_iff_eq.mpr c3
    have c3b1 : ((l0.length : Int) != (l1.length : Int)) = false := bne_eq_false_iff_eq.mpr c3
    have c3b2 : (l0.length == l1.length) = true := by first | simpa using c3 | (simp at c3 ⊢; omega)
    clear c3
    have H' := Aside0.mk H
    clear H
    go_enter Try.func12, Try.ntmps12
    go_wp2
    repeat (go_quiet (fail); try go_wp2)
    go_loopg [5] k (fun kq v5 w' => ∃ (x5_1 : Int), v5 = .int .i64 x5_1 ∧ Aside0 (wringerref7_SameInts.l0 kq l0 l1 x5_1 = some r) ∧ Aside0 (kq ≤ k) ∧ Drawn0 w w')
    case atStart => exact ⟨(0), (by first | rfl | (simp; done) | (simp [*]; done)), H', ⟨Nat.le_refl _⟩, by repeat (first | exact Drawn0.refl _ | apply Drawn0.step)⟩
    case round =>
      clear H'
      try clear c1
      try clear p2
      try clear c3
      try clear c3b0
      try clear c3b1
      try clear c3b2
      obtain ⟨x5_1, rfl, HA, HK1, ⟨m1, rfl⟩⟩ := hrel
      cases gk with
      | zero => exact absurd HA.out (by simp [wringerref7_SameInts.l0])
      | succ k1 =>
        have H := HA.out
        clear HA
        simp only [wringerref7_SameInts.l0] at H
        by_cases c4 : x5_1 < (l0.length : Int)
        · rw [if_pos c4] at H
          have c4b0 : decide (x5_1 < (l0.length : Int)) = true := decide_eq_true c4
          clear c4
          by_cases c5 : 0 ≤ x5_1
          · rw [if_pos c5] at H
            have c5b0 : decide (0 ≤ x5_1) = true := decide_eq_true c5
            clear c5
            by_cases c6 : x5_1 < (l1.length : Int)
            · rw [if_pos c6] at H
              have c6b0 : decide (x5_1 < (l1.length : Int)) = true := decide_eq_true c6
              clear c6
              by_cases c7 : (rd l0 x5_1) = (rd l1 x5_1)
              · rw [if_pos c7] at H
                have c7b0 : ((rd l0 x5_1) == (rd l1 x5_1)) = true := beq_iff_eq.mpr c7
                have c7b1 : ((rd l0 x5_1) != (rd l1 x5_1)) = false := bne_eq_false_iff_eq.mpr c7
                clear c7
                have H' := Aside0.mk H
                clear H
                have p146 : 0 ≤ (x5_1 : Int) := of_decide_eq_true (by first | (with_reducible assumption) | assumption)
                have q146 : x5_1 < (l0.length : Int) := of_decide_eq_true (by first | (with_reducible assumption) | assumption)
                obtain ⟨ad146, e146, hx146_0⟩ := Kd.at_int HR0.out x5_1 p146 q146
                cases e146
                replace p146 := eq_true p146
                replace q146 := eq_true q146
                have p147 : 0 ≤ (x5_1 : Int) := of_decide_eq_true (by first | (with_reducible assumption) | assumption)
                have q147 : x5_1 < (l1.length : Int) := of_decide_eq_true (by first | (with_reducible assumption) | assumption)
                obtain ⟨ad147, e147, hx147_0⟩ := Kd.at_int HR1.out x5_1 p147 q147
                cases e147
                replace p147 := eq_true p147
                replace q147 := eq_true q147
                go_wp2
                repeat (go_quiet (fail); try go_wp2)
                go_roundg k1
                case measure => have := HK1.out; omega
                case rel => exact ⟨(wrap64 (x5_1 + 1)), (by first | rfl | (simp; done) | (simp [*]; done)), H', ⟨by have := HK1.out; omega⟩, by repeat (first | exact Drawn0.refl _ | apply Drawn0.step)⟩
              · rw [if_neg c7] at H
                have c7b0 : ((rd l0 x5_1) == (rd l1 x5_1)) = false := beq_eq_false_iff_ne.mpr c7
                have c7b1 : ((rd l0 x5_1) != (rd l1 x5_1)) = true := bne_iff_ne.mpr c7
                obtain rfl := Option.some.inj H
                have p146 : 0 ≤ (x5_1 : Int) := of_decide_eq_true (by first | (with_reducible assumption) | assumption)
                have q146 : x5_1 < (l0.length : Int) := of_decide_eq_true (by first | (with_reducible assumption) | assumption)
                obtain ⟨ad146, e146, hx146_0⟩ := Kd.at_int HR0.out x5_1 p146 q146
                cases e146
                replace p146 := eq_true p146
                replace q146 := eq_true q146
                have p147 : 0 ≤ (x5_1 : Int) := of_decide_eq_true (by first | (with_reducible assumption) | assumption)
                have q147 : x5_1 < (l1.length : Int) := of_decide_eq_true (by first | (with_reducible assumption) | assumption)
                obtain ⟨ad147, e147, hx147_0⟩ := Kd.at_int HR1.out x5_1 p147 q147
                cases e147
                replace p147 := eq_true p147
                replace q147 := eq_true q147
                go_wp2
                repeat (go_quiet (fail); try go_wp2)
                go_ret
                exact ⟨by first | rfl | (simp; done) | (simp [*]; done), by repeat (first | exact Drawn0.refl _ | apply Drawn0.step)⟩
            · rw [if_neg c6] at H
              exact absurd H (by simp)
          · rw [if_neg c5] at H
            exact absurd H (by simp)
        · rw [if_neg c4] at H
          have c4b0 : decide (x5_1 < (l0.length : Int)) = false := decide_eq_false c4
          clear c4
          obtain rfl := Option.some.inj H
          go_wp2
          repeat (go_quiet (fail); try go_wp2)
          go_ret
          exact ⟨by first | rfl | (simp; done) | (simp [*]; done), by repeat (first | exact Drawn0.refl _ | apply Drawn0.step)⟩
  · rw [if_neg c3] at H
    have c3b0 : ((l0.length : Int) == (l1.length : Int)) = false := beq_eq_false_iff_ne.mpr c3
    have c3b1 : ((l0.length : Int) != (l1.length : Int)) = true := bne_iff_ne.mpr c3
    have c3b2 : (l0.length == l1.length) = false := by first | simpa using c3 | (simp at c3 ⊢; omega)
    obtain rfl := Option.some.inj H
    go_enter Try.func12, Try.ntmps12
    go_wp2
    repeat (go_quiet (fail); try go_wp2)
    go_ret
    exact ⟨by first | rfl | (simp; done) | (simp [*]; done), by repeat (first | exact Drawn0.refl _ | apply Drawn0.step)⟩

end Go.Proofs.Ytkplcibmhibjjaa.PA

-- ---- PAx5
/- lens.Put: what the call answers, for every list. Conditions: none but a slice's. -/
namespace Go.Proofs.Ytkplcibmhibjjaa.PA
open Go.RowKit Go.Proofs.YtkplcibmhibjjaaW.PrintWords Go.Proofs.YtkplcibmhibjjaaW.PrintLast Go.Proofs.YtkplcibmhibjjaaW.PrintMore
set_option linter.unusedVariables false
set_option linter.unusedSimpArgs false

def lens_Put.f (l0 : List Int) : Option (ByteArray) := some (Lp.putL l0)
theorem lens_Put.calls (A0 : Option Addr) (c0 : Nat) (l0 : List Int) (r : ByteArray) (w : World) (hr0 : Kd.C (Kd.int .i64) w A0 l0.length l0) (hc0 : l0.length ≤ c0) (h : lens_Put.f l0 = some r) :
    Calls Try.prog 10 #[.slice A0 l0.length c0] w fun e w' => e = .returned (.string r) ∧ Below w.heap.size w w' := by
  unfold lens_Put.f at h
  cases h
  exact lput_calls A0 c0 l0 w hr0 hc0
end Go.Proofs.Ytkplcibmhibjjaa.PA

-- ---- PAx7
/- lens.Get: what the call answers, for every text and place. Conditions: the text is not longer than a thousand million bytes. -/
namespace Go.Proofs.Ytkplcibmhibjjaa.PA
open Go.RowKit Go.Proofs.YtkplcibmhibjjaaW.PrintWords Go.Proofs.YtkplcibmhibjjaaW.PrintLast Go.Proofs.YtkplcibmhibjjaaW.PrintMore
set_option linter.unusedVariables false
set_option linter.unusedSimpArgs false

def lens_Get.f (a0 : ByteArray) (a1 : Int) : Option (List Int × Int × Int) := if a0.size ≤ 1000000000 then some (Lp.getL a0 a1) else none
theorem lens_Get.calls (a0 : ByteArray) (a1 : Int) (r1 : List Int) (r2 : Int) (r3 : Int) (w : World) (h : lens_Get.f a0 a1 = some (r1, r2, r3)) :
    Calls Try.prog 8 #[.string a0, .int .i64 a1] w fun e w' => ∃ v0_ : Value, e = .returned (.tuple #[v0_, .int .i64 r2, .int .i64 r3]) ∧ Kd.R (Kd.int .i64) 3 w' w.heap.size (fun _ => True) v0_ r1 ∧ Below w.heap.size w w' := by
  unfold lens_Get.f at h
  split at h
  · rename_i hs
    have h := Option.some.inj h
    by_cases ha : a1 < 0 ∨ (a0.size : Int) < a1
    · have e : Lp.getL a0 a1 = ([], 0, 1) := by unfold Lp.getL; rw [if_pos ha]
      rw [e] at h
      cases h
      refine (lget_arg a0 a1 w hs ha).mono ?_
      rintro e w' ⟨rfl, rfl⟩
      exact ⟨_, rfl, Kd.R_nil _ _ _ _ _, Below.refl _ _⟩
    · obtain ⟨m, rfl⟩ := Int.eq_ofNat_of_zero_le (show 0 ≤ a1 by omega)
      have hg := lget_calls a0 m w hs (by omega)
      rw [h] at hg
      refine hg.mono ?_
      rintro e w' ⟨v, rfl, ho, hnew, hb⟩
      exact ⟨v, rfl, Own.R_of_owns ho hnew, hb⟩
  · cases h
end Go.Proofs.Ytkplcibmhibjjaa.PA

-- ---- PAx8

namespace Go.Proofs.Ytkplcibmhibjjaa.PA
open Go.RowKit Go.Proofs.YtkplcibmhibjjaaW.PrintWords Go.Proofs.YtkplcibmhibjjaaW.PrintLast Go.Proofs.YtkplcibmhibjjaaW.PrintMore
attribute [local go_sem] max2_int min2_int max_two min_two max_three min_three max_four min_four   -- for this text's walks alone
set_option linter.unusedVariables false
set_option linter.unusedSimpArgs false

/-! ### wringerlaw1_Err: function 13 -/
def wringerlaw1_Err.f (a0 : Int) : Option (Int) := some a0
set_option maxHeartbeats 8000000 in
set_option maxRecDepth 100000 in
theorem wringerlaw1_Err.calls (a0 : Int) (r : Int) (w : World) (h : wringerlaw1_Err.f a0 = some r) :
    Calls Try.prog 13 #[.int .i64 a0] w fun e w' => e = .returned (.int .i64 r) ∧ Drawn0 w w' := by
  have H : (some a0) = some r := h
  clear h
  obtain rfl := Option.some.inj H
  go_enter Try.func13, Try.ntmps13
  go_wp2
  go_ret
  exact ⟨by first | rfl | (simp; done) | (simp [*]; done), by repeat (first | exact Drawn0.refl _ | apply Drawn0.step)⟩

end Go.Proofs.Ytkplcibmhibjjaa.PA

-- ---- PAx9

namespace Go.Proofs.Ytkplcibmhibjjaa.PA
open Go.RowKit Go.Proofs.YtkplcibmhibjjaaW.PrintWords Go.Proofs.YtkplcibmhibjjaaW.PrintLast Go.Proofs.YtkplcibmhibjjaaW.PrintMore
attribute [local go_sem] max2_int min2_int max_two min_two max_three min_three max_four min_four   -- for this text's walks alone
set_option linter.unusedVariables false
set_option linter.unusedSimpArgs false

/-! ### wringerlaw10_awake: function 7 -/
def wringerlaw10_awake.f  : Option (Bool) := (lens_Get.f (⟨#[240, 240, 240, 240, 0]⟩ : ByteArray) 0).bind fun bt114 => (if 65 ≤ 35184372088832 then ((lens_Put.f (List.replicate 65 0)).bind fun t122 => (if t122.toList = ([240, 240, 240, 240, 0] : List UInt8) then (if (bt114.1.length : Int) = 65 then (if bt114.2.1 = 5 then ((wringerlaw1_Err.f bt114.2.2).bind fun t123 => (some (t123 == 0))) else (some false)) else (some false)) else (some false))) else (none))
set_option maxHeartbeats 8000000 in
set_option maxRecDepth 100000 in
theorem wringerlaw10_awake.calls  (r : Bool) (w : World) (h : wringerlaw10_awake.f  = some r) :
    Calls Try.prog 7 #[] w fun e w' => e = .returned (.bool r) ∧ Below w.heap.size w w' := by
  have HB := Aside0.mk (Below.refl w.heap.size w)
  have H : ((lens_Get.f (⟨#[240, 240, 240, 240, 0]⟩ : ByteArray) 0).bind fun bt114 => (if 65 ≤ 35184372088832 then ((lens_Put.f (List.replicate 65 0)).bind fun t122 => (if t122.toList = ([240, 240, 240, 240, 0] : List UInt8) then (if (bt114.1.length : Int) = 65 then (if bt114.2.1 = 5 then ((wringerlaw1_Err.f bt114.2.2).bind fun t123 => (some (t123 == 0))) else (some false)) else (some false)) else (some false))) else (none))) = some r := h
  clear h
  replace H := Option.bind_eq_some_iff.mp H
  obtain ⟨⟨t114, t115, t116⟩, A10, H⟩ := H
  replace H : (if 65 ≤ 35184372088832 then ((lens_Put.f (List.replicate 65 0)).bind fun t122 => (if t122.toList = ([240, 240, 240, 240, 0] : List UInt8) then (if (t114.length : Int) = 65 then (if t115 = 5 then ((wringerlaw1_Err.f t116).bind fun t123 => (some (t123 == 0))) else (some false)) else (some false)) else (some false))) else (none)) = some r := H
  have A1 := Aside0.mk A10
  clear A10
  by_cases c2 : 65 ≤ 35184372088832
  · rw [if_pos c2] at H
    have c2b0 := eq_true c2
    have c2b1 : decide (65 ≤ 35184372088832) = true := decide_eq_true c2
    clear c2
    obtain ⟨y119, hy119⟩ : ∃ y_ : List Int, y_ = (List.replicate 65 0) := ⟨_, rfl⟩
    replace H : ((lens_Put.f y119).bind fun t122 => (if t122.toList = ([240, 240, 240, 240, 0] : List UInt8) then (if (t114.length : Int) = 65 then (if t115 = 5 then ((wringerlaw1_Err.f t116).bind fun t123 => (some (t123 == 0))) else (some false)) else (some false)) else (some false))) = some r := by first | (rw [hy119]; with_reducible exact H) | (have H2_ := (Option.bind_some _ _).symm.trans H; rw [hy119]; with_reducible exact H2_) | (have H2_ := (Option.bind_some _ _).symm.trans H; with_reducible exact H2_) | with_reducible exact H | (rw [hy119]; exact H) | exact H
    have Ny119 := Aside0.mk hy119
    clear hy119
    replace H := Option.bind_eq_some_iff.mp H
    obtain ⟨t122, A30, H⟩ := H
    replace H : (if t122.toList = ([240, 240, 240, 240, 0] : List UInt8) then (if (t114.length : Int) = 65 then (if t115 = 5 then ((wringerlaw1_Err.f t116).bind fun t123 => (some (t123 == 0))) else (some false)) else (some false)) else (some false)) = some r := H
    have A3 := Aside0.mk A30
    clear A30
    by_cases c4 : t122.toList = ([240, 240, 240, 240, 0] : List UInt8)
    · rw [if_pos c4] at H
      have c4b0 : (t122.toList == ([240, 240, 240, 240, 0] : List UInt8)) = true := beq_iff_eq.mpr c4
      have c4b1 : (t122.toList != ([240, 240, 240, 240, 0] : List UInt8)) = false := bne_eq_false_iff_eq.mpr c4
      clear c4
      by_cases c5 : (t114.length : Int) = 65
      · rw [if_pos c5] at H
        have c5b0 : ((t114.length : Int) == 65) = true := beq_iff_eq.mpr c5
        have c5b1 : ((t114.length : Int) != 65) = false := bne_eq_false_iff_eq.mpr c5
        clear c5
        by_cases c6 : t115 = 5
        · rw [if_pos c6] at H
          have c6b0 : (t115 == 5) = true := beq_iff_eq.mpr c6
          have c6b1 : (t115 != 5) = false := bne_eq_false_iff_eq.mpr c6
          clear c6
          replace H := Option.bind_eq_some_iff.mp H
          obtain ⟨t123, A70, H⟩ := H
          replace H : (some (t123 == 0)) = some r := H
          have A7 := Aside0.mk A70
          clear A70
          obtain rfl := Option.some.inj H
          go_enter Try.func7, Try.ntmps7
          go_wp2_with (first | ((with_reducible refine gate_callee (f := 8) rfl ?_); refine goesL_ (some 5) rfl rfl Try.func8 (by kernel_rfl) rfl #[.string (⟨#[240, 240, 240, 240, 0]⟩ : ByteArray), .int .i64 0] rfl (by (try simp only [List.map_toArray, List.map_cons, List.map_nil]); first | done | rfl | (simp only [List.length_drop, List.length_take]; rfl)) ?_; (with_reducible refine (lens_Get.calls (⟨#[240, 240, 240, 240, 0]⟩ : ByteArray) 0 t114 t115 t116 _ A1.out).mono ?_); rintro e w8 ⟨v117, rfl, ho0, hb⟩; refine ⟨_, rfl, ?_⟩; have n0_ := Aside0.mk (Kd.R_lower ho0 (below_size (by repeat (first | (with_reducible first | exact HB.out | apply below_alloc | apply pw_below_drewN | apply below_drew1) | exact HB.out)))); have n1_ := Aside0.mk (below_step (by repeat (first | (with_reducible first | exact HB.out | apply below_alloc | apply pw_below_drewN | apply below_drew1) | exact HB.out)) hb); clear HB; have HO118 := n0_; have HB := n1_; clear n0_ n1_; (try clear hb); (try clear hb2); (try clear hk); (try clear hi); (try clear ho0)) | ((with_reducible refine gate_dst (N := 9) rfl ?_); (try (refine gate_guard (by rfl) ?_; dsimp only)); refine Kd.R_make (Kd.int .i64) _ 3 rfl (N := 9) rfl 22 _ _ rfl 65 rfl rfl Try.underlying22 (.int .i64 0) 8 info3 rfl (by decide) (by omega) 0 (ok := fun _ => True) (okp := fun _ => True) rfl (fun _ hk => hk) trivial (by omega) (by omega) (Below.refl _ _) (Nat.le_refl _) ?_; intro v120 w9 ho10 hb hg_ hnew_; clear hg_ hnew_; (first | rw [← Ny119.out] at ho10 | (simp only [Int.reduceToNat] at ho10; rw [← Ny119.out] at ho10)); have n0_ := Aside0.mk (Kd.R_elder' (by (with_reducible repeat (first | apply Kd.R_alloc | apply Kd.R_drewN | apply Kd.R_drew)); exact HO118.out) (Kd.R_base ho10) hb); have n1_ := Aside0.mk (Kd.R_lower (Kd.R_new' ho10 (Kd.R_lt (by (with_reducible repeat (first | apply Kd.R_alloc | apply Kd.R_drewN | apply Kd.R_drew)); exact HO118.out))) (below_size (by repeat (first | (with_reducible first | exact HB.out | apply below_alloc | apply pw_below_drewN | apply below_drew1) | exact HB.out)))); have n2_ := Aside0.mk (below_step (by repeat (first | (with_reducible first | exact HB.out | apply below_alloc | apply pw_below_drewN | apply below_drew1) | exact HB.out)) hb); clear HO118; clear HB; have HO118 := n0_; have HO121 := n1_; have HB := n2_; clear n0_ n1_ n2_; clear hb ho10; obtain ⟨Ao11, co11, eo11⟩ := Kd.R_slice HO121.out; subst eo11) | ((with_reducible refine gate_callee (f := 10) rfl ?_); refine goesL_ (some 10) rfl rfl Try.func10 (by kernel_rfl) rfl #[.slice Ao11 y119.length co11] rfl (by (try simp only [List.map_toArray, List.map_cons, List.map_nil]); first | done | rfl | (simp only [List.length_drop, List.length_take]; rfl)) ?_; (with_reducible refine (lens_Put.calls _ _ y119 t122 _ ?side1 ?side2 A3.out).mono ?_); (case side1 => repeat (first | exact (Kd.R_reads' HO121.out).2.2 | (with_reducible refine Kd.C_alloc ?_ _) | (with_reducible refine Kd.C_drewN ?_ _) | (with_reducible refine Kd.C_drew ?_))); (case side2 => exact (Kd.R_reads' HO121.out).2.1); rintro e w12 ⟨rfl, hb⟩; refine ⟨_, rfl, ?_⟩; have n0_ := Aside0.mk (Kd.R_below (by (with_reducible repeat (first | apply Kd.R_alloc | apply Kd.R_drewN | apply Kd.R_drew)); exact HO118.out) hb); have n1_ := Aside0.mk (Kd.R_below (by (with_reducible repeat (first | apply Kd.R_alloc | apply Kd.R_drewN | apply Kd.R_drew)); exact HO121.out) hb); have n2_ := Aside0.mk (below_step (by repeat (first | (with_reducible first | exact HB.out | apply below_alloc | apply pw_below_drewN | apply below_drew1) | exact HB.out)) hb); clear HO118; clear HO121; clear HB; have HO118 := n0_; have HO121 := n1_; have HB := n2_; clear n0_ n1_ n2_; (try clear hb); (try clear hb2); (try clear hk); (try clear hi); obtain ⟨Ao13, co13, eo13⟩ := Kd.R_slice HO118.out; subst eo13) | (go_at_call 13; (with_reducible refine (wringerlaw1_Err.calls t116 t123 _ A7.out).mono ?_); rintro e w' ⟨rfl, ⟨nd, rfl⟩⟩))
          go_ret
          exact ⟨by first | rfl | (simp [errW_none, errW_some] <;> rfl) | (simp [*, errW_none, errW_some] <;> rfl), by repeat (first | (with_reducible first | exact HB.out | apply below_alloc | apply pw_below_drewN | apply below_drew1) | exact HB.out)⟩
        · rw [if_neg c6] at H
          have c6b0 : (t115 == 5) = false := beq_eq_false_iff_ne.mpr c6
          have c6b1 : (t115 != 5) = true := bne_iff_ne.mpr c6
          obtain rfl := Option.some.inj H
          go_enter Try.func7, Try.ntmps7
          go_wp2_with (first | ((with_reducible refine gate_callee (f := 8) rfl ?_); refine goesL_ (some 5) rfl rfl Try.func8 (by kernel_rfl) rfl #[.string (⟨#[240, 240, 240, 240, 0]⟩ : ByteArray), .int .i64 0] rfl (by (try simp only [List.map_toArray, List.map_cons, List.map_nil]); first | done | rfl | (simp only [List.length_drop, List.length_take]; rfl)) ?_; (with_reducible refine (lens_Get.calls (⟨#[240, 240, 240, 240, 0]⟩ : ByteArray) 0 t114 t115 t116 _ A1.out).mono ?_); rintro e w14 ⟨v117, rfl, ho0, hb⟩; refine ⟨_, rfl, ?_⟩; have n0_ := Aside0.mk (Kd.R_lower ho0 (below_size (by repeat (first | (with_reducible first | exact HB.out | apply below_alloc | apply pw_below_drewN | apply below_drew1) | exact HB.out)))); have n1_ := Aside0.mk (below_step (by repeat (first | (with_reducible first | exact HB.out | apply below_alloc | apply pw_below_drewN | apply below_drew1) | exact HB.out)) hb); clear HB; have HO118 := n0_; have HB := n1_; clear n0_ n1_; (try clear hb); (try clear hb2); (try clear hk); (try clear hi); (try clear ho0)) | ((with_reducible refine gate_dst (N := 9) rfl ?_); (try (refine gate_guard (by rfl) ?_; dsimp only)); refine Kd.R_make (Kd.int .i64) _ 3 rfl (N := 9) rfl 22 _ _ rfl 65 rfl rfl Try.underlying22 (.int .i64 0) 8 info3 rfl (by decide) (by omega) 0 (ok := fun _ => True) (okp := fun _ => True) rfl (fun _ hk => hk) trivial (by omega) (by omega) (Below.refl _ _) (Nat.le_refl _) ?_; intro v120 w15 ho16 hb hg_ hnew_; clear hg_ hnew_; (first | rw [← Ny119.out] at ho16 | (simp only [Int.reduceToNat] at ho16; rw [← Ny119.out] at ho16)); have n0_ := Aside0.mk (Kd.R_elder' (by (with_reducible repeat (first | apply Kd.R_alloc | apply Kd.R_drewN | apply Kd.R_drew)); exact HO118.out) (Kd.R_base ho16) hb); have n1_ := Aside0.mk (Kd.R_lower (Kd.R_new' ho16 (Kd.R_lt (by (with_reducible repeat (first | apply Kd.R_alloc | apply Kd.R_drewN | apply Kd.R_drew)); exact HO118.out))) (below_size (by repeat (first | (with_reducible first | exact HB.out | apply below_alloc | apply pw_below_drewN | apply below_drew1) | exact HB.out)))); have n2_ := Aside0.mk (below_step (by repeat (first | (with_reducible first | exact HB.out | apply below_alloc | apply pw_below_drewN | apply below_drew1) | exact HB.out)) hb); clear HO118; clear HB; have HO118 := n0_; have HO121 := n1_; have HB := n2_; clear n0_ n1_ n2_; clear hb ho16; obtain ⟨Ao17, co17, eo17⟩ := Kd.R_slice HO121.out; subst eo17) | ((with_reducible refine gate_callee (f := 10) rfl ?_); refine goesL_ (some 10) rfl rfl Try.func10 (by kernel_rfl) rfl #[.slice Ao17 y119.length co17] rfl (by (try simp only [List.map_toArray, List.map_cons, List.map_nil]); first | done | rfl | (simp only [List.length_drop, List.length_take]; rfl)) ?_; (with_reducible refine (lens_Put.calls _ _ y119 t122 _ ?side1 ?side2 A3.out).mono ?_); (case side1 => repeat (first | exact (Kd.R_reads' HO121.out).2.2 | (with_reducible refine Kd.C_alloc ?_ _) | (with_reducible refine Kd.C_drewN ?_ _) | (with_reducible refine Kd.C_drew ?_))); (case side2 => exact (Kd.R_reads' HO121.out).2.1); rintro e w18 ⟨rfl, hb⟩; refine ⟨_, rfl, ?_⟩; have n0_ := Aside0.mk (Kd.R_below (by (with_reducible repeat (first | apply Kd.R_alloc | apply Kd.R_drewN | apply Kd.R_drew)); exact HO118.out) hb); have n1_ := Aside0.mk (Kd.R_below (by (with_reducible repeat (first | apply Kd.R_alloc | apply Kd.R_drewN | apply Kd.R_drew)); exact HO121.out) hb); have n2_ := Aside0.mk (below_step (by repeat (first | (with_reducible first | exact HB.out | apply below_alloc | apply pw_below_drewN | apply below_drew1) | exact HB.out)) hb); clear HO118; clear HO121; clear HB; have HO118 := n0_; have HO121 := n1_; have HB := n2_; clear n0_ n1_ n2_; (try clear hb); (try clear hb2); (try clear hk); (try clear hi); obtain ⟨Ao19, co19, eo19⟩ := Kd.R_slice HO118.out; subst eo19))
          go_ret
          exact ⟨by first | rfl | (simp [errW_none, errW_some] <;> rfl) | (simp [*, errW_none, errW_some] <;> rfl), by repeat (first | (with_reducible first | exact HB.out | apply below_alloc | apply pw_below_drewN | apply below_drew1) | exact HB.out)⟩
      · rw [if_neg c5] at H
        have c5b0 : ((t114.length : Int) == 65) = false := beq_eq_false_iff_ne.mpr c5
        have c5b1 : ((t114.length : Int) != 65) = true := bne_iff_ne.mpr c5
        obtain rfl := Option.some.inj H
        go_enter Try.func7, Try.ntmps7
        go_wp2_with (first | ((with_reducible refine gate_callee (f := 8) rfl ?_); refine goesL_ (some 5) rfl rfl Try.func8 (by kernel_rfl) rfl #[.string (⟨#[240, 240, 240, 240, 0]⟩ : ByteArray), .int .i64 0] rfl (by (try simp only [List.map_toArray, List.map_cons, List.map_nil]); first | done | rfl | (simp only [List.length_drop, List.length_take]; rfl)) ?_; (with_reducible refine (lens_Get.calls (⟨#[240, 240, 240, 240, 0]⟩ : ByteArray) 0 t114 t115 t116 _ A1.out).mono ?_); rintro e w20 ⟨v117, rfl, ho0, hb⟩; refine ⟨_, rfl, ?_⟩; have n0_ := Aside0.mk (Kd.R_lower ho0 (below_size (by repeat (first | (with_reducible first | exact HB.out | apply below_alloc | apply pw_below_drewN | apply below_drew1) | exact HB.out)))); have n1_ := Aside0.mk (below_step (by repeat (first | (with_reducible first | exact HB.out | apply below_alloc | apply pw_below_drewN | apply below_drew1) | exact HB.out)) hb); clear HB; have HO118 := n0_; have HB := n1_; clear n0_ n1_; (try clear hb); (try clear hb2); (try clear hk); (try clear hi); (try clear ho0)) | ((with_reducible refine gate_dst (N := 9) rfl ?_); (try (refine gate_guard (by rfl) ?_; dsimp only)); refine Kd.R_make (Kd.int .i64) _ 3 rfl (N := 9) rfl 22 _ _ rfl 65 rfl rfl Try.underlying22 (.int .i64 0) 8 info3 rfl (by decide) (by omega) 0 (ok := fun _ => True) (okp := fun _ => True) rfl (fun _ hk => hk) trivial (by omega) (by omega) (Below.refl _ _) (Nat.le_refl _) ?_; intro v120 w21 ho22 hb hg_ hnew_; clear hg_ hnew_; (first | rw [← Ny119.out] at ho22 | (simp only [Int.reduceToNat] at ho22; rw [← Ny119.out] at ho22)); have n0_ := Aside0.mk (Kd.R_elder' (by (with_reducible repeat (first | apply Kd.R_alloc | apply Kd.R_drewN | apply Kd.R_drew)); exact HO118.out) (Kd.R_base ho22) hb); have n1_ := Aside0.mk (Kd.R_lower (Kd.R_new' ho22 (Kd.R_lt (by (with_reducible repeat (first | apply Kd.R_alloc | apply Kd.R_drewN | apply Kd.R_drew)); exact HO118.out))) (below_size (by repeat (first | (with_reducible first | exact HB.out | apply below_alloc | apply pw_below_drewN | apply below_drew1) | exact HB.out)))); have n2_ := Aside0.mk (below_step (by repeat (first | (with_reducible first | exact HB.out | apply below_alloc | apply pw_below_drewN | apply below_drew1) | exact HB.out)) hb); clear HO118; clear HB; have HO118 := n0_; have HO121 := n1_; have HB := n2_; clear n0_ n1_ n2_; clear hb ho22; obtain ⟨Ao23, co23, eo23⟩ := Kd.R_slice HO121.out; subst eo23) | ((with_reducible refine gate_callee (f := 10) rfl ?_); refine goesL_ (some 10) rfl rfl Try.func10 (by kernel_rfl) rfl #[.slice Ao23 y119.length co23] rfl (by (try simp only [List.map_toArray, List.map_cons, List.map_nil]); first | done | rfl | (simp only [List.length_drop, List.length_take]; rfl)) ?_; (with_reducible refine (lens_Put.calls _ _ y119 t122 _ ?side1 ?side2 A3.out).mono ?_); (case side1 => repeat (first | exact (Kd.R_reads' HO121.out).2.2 | (with_reducible refine Kd.C_alloc ?_ _) | (with_reducible refine Kd.C_drewN ?_ _) | (with_reducible refine Kd.C_drew ?_))); (case side2 => exact (Kd.R_reads' HO121.out).2.1); rintro e w24 ⟨rfl, hb⟩; refine ⟨_, rfl, ?_⟩; have n0_ := Aside0.mk (Kd.R_below (by (with_reducible repeat (first | apply Kd.R_alloc | apply Kd.R_drewN | apply Kd.R_drew)); exact HO118.out) hb); have n1_ := Aside0.mk (Kd.R_below (by (with_reducible repeat (first | apply Kd.R_alloc | apply Kd.R_drewN | apply Kd.R_drew)); exact HO121.out) hb); have n2_ := Aside0.mk (below_step (by repeat (first | (with_reducible first | exact HB.out | apply below_alloc | apply pw_below_drewN | apply below_drew1) | exact HB.out)) hb); clear HO118; clear HO121; clear HB; have HO118 := n0_; have HO121 := n1_; have HB := n2_; clear n0_ n1_ n2_; (try clear hb); (try clear hb2); (try clear hk); (try clear hi); obtain ⟨Ao25, co25, eo25⟩ := Kd.R_slice HO118.out; subst eo25))
        go_ret
        exact ⟨by first | rfl | (simp [errW_none, errW_some] <;> rfl) | (simp [*, errW_none, errW_some] <;> rfl), by repeat (first | (with_reducible first | exact HB.out | apply below_alloc | apply pw_below_drewN | apply below_drew1) | exact HB.out)⟩
    · rw [if_neg c4] at H
      have c4b0 : (t122.toList == ([240, 240, 240, 240, 0] : List UInt8)) = false := beq_eq_false_iff_ne.mpr c4
      have c4b1 : (t122.toList != ([240, 240, 240, 240, 0] : List UInt8)) = true := bne_iff_ne.mpr c4
      obtain rfl := Option.some.inj H
      go_enter Try.func7, Try.ntmps7
      go_wp2_with (first | ((with_reducible refine gate_callee (f := 8) rfl ?_); refine goesL_ (some 5) rfl rfl Try.func8 (by kernel_rfl) rfl #[.string (⟨#[240, 240, 240, 240, 0]⟩ : ByteArray), .int .i64 0] rfl (by (try simp only [List.map_toArray, List.map_cons, List.map_nil]); first | done | rfl | (simp only [List.length_drop, List.length_take]; rfl)) ?_; (with_reducible refine (lens_Get.calls (⟨#[240, 240, 240, 240, 0]⟩ : ByteArray) 0 t114 t115 t116 _ A1.out).mono ?_); rintro e w26 ⟨v117, rfl, ho0, hb⟩; refine ⟨_, rfl, ?_⟩; have n0_ := Aside0.mk (Kd.R_lower ho0 (below_size (by repeat (first | (with_reducible first | exact HB.out | apply below_alloc | apply pw_below_drewN | apply below_drew1) | exact HB.out)))); have n1_ := Aside0.mk (below_step (by repeat (first | (with_reducible first | exact HB.out | apply below_alloc | apply pw_below_drewN | apply below_drew1) | exact HB.out)) hb); clear HB; have HO118 := n0_; have HB := n1_; clear n0_ n1_; (try clear hb); (try clear hb2); (try clear hk); (try clear hi); (try clear ho0)) | ((with_reducible refine gate_dst (N := 9) rfl ?_); (try (refine gate_guard (by rfl) ?_; dsimp only)); refine Kd.R_make (Kd.int .i64) _ 3 rfl (N := 9) rfl 22 _ _ rfl 65 rfl rfl Try.underlying22 (.int .i64 0) 8 info3 rfl (by decide) (by omega) 0 (ok := fun _ => True) (okp := fun _ => True) rfl (fun _ hk => hk) trivial (by omega) (by omega) (Below.refl _ _) (Nat.le_refl _) ?_; intro v120 w27 ho28 hb hg_ hnew_; clear hg_ hnew_; (first | rw [← Ny119.out] at ho28 | (simp only [Int.reduceToNat] at ho28; rw [← Ny119.out] at ho28)); have n0_ := Aside0.mk (Kd.R_elder' (by (with_reducible repeat (first | apply Kd.R_alloc | apply Kd.R_drewN | apply Kd.R_drew)); exact HO118.out) (Kd.R_base ho28) hb); have n1_ := Aside0.mk (Kd.R_lower (Kd.R_new' ho28 (Kd.R_lt (by (with_reducible repeat (first | apply Kd.R_alloc | apply Kd.R_drewN | apply Kd.R_drew)); exact HO118.out))) (below_size (by repeat (first | (with_reducible first | exact HB.out | apply below_alloc | apply pw_below_drewN | apply below_drew1) | exact HB.out)))); have n2_ := Aside0.mk (below_step (by repeat (first | (with_reducible first | exact HB.out | apply below_alloc | apply pw_below_drewN | apply below_drew1) | exact HB.out)) hb); clear HO118; clear HB; have HO118 := n0_; have HO121 := n1_; have HB := n2_; clear n0_ n1_ n2_; clear hb ho28; obtain ⟨Ao29, co29, eo29⟩ := Kd.R_slice HO121.out; subst eo29) | ((with_reducible refine gate_callee (f := 10) rfl ?_); refine goesL_ (some 10) rfl rfl Try.func10 (by kernel_rfl) rfl #[.slice Ao29 y119.length co29] rfl (by (try simp only [List.map_toArray, List.map_cons, List.map_nil]); first | done | rfl | (simp only [List.length_drop, List.length_take]; rfl)) ?_; (with_reducible refine (lens_Put.calls _ _ y119 t122 _ ?side1 ?side2 A3.out).mono ?_); (case side1 => repeat (first | exact (Kd.R_reads' HO121.out).2.2 | (with_reducible refine Kd.C_alloc ?_ _) | (with_reducible refine Kd.C_drewN ?_ _) | (with_reducible refine Kd.C_drew ?_))); (case side2 => exact (Kd.R_reads' HO121.out).2.1); rintro e w30 ⟨rfl, hb⟩; refine ⟨_, rfl, ?_⟩; have n0_ := Aside0.mk (Kd.R_below (by (with_reducible repeat (first | apply Kd.R_alloc | apply Kd.R_drewN | apply Kd.R_drew)); exact HO118.out) hb); have n1_ := Aside0.mk (Kd.R_below (by (with_reducible repeat (first | apply Kd.R_alloc | apply Kd.R_drewN | apply Kd.R_drew)); exact HO121.out) hb); have n2_ := Aside0.mk (below_step (by repeat (first | (with_reducible first | exact HB.out | apply below_alloc | apply pw_below_drewN | apply below_drew1) | exact HB.out)) hb); clear HO118; clear HO121; clear HB; have HO118 := n0_; have HO121 := n1_; have HB := n2_; clear n0_ n1_ n2_; (try clear hb); (try clear hb2); (try clear hk); (try clear hi)))
      go_ret
      exact ⟨by first | rfl | (simp [errW_none, errW_some] <;> rfl) | (simp [*, errW_none, errW_some] <;> rfl), by repeat (first | (with_reducible first | exact HB.out | apply below_alloc | apply pw_below_drewN | apply below_drew1) | exact HB.out)⟩
  · rw [if_neg c2] at H
    exact absurd H (by simp)

end Go.Proofs.Ytkplcibmhibjjaa.PA

-- ---- Ue
/- Lists of whole numbers that are one, or not. -/
namespace Go.Proofs.Ytkplcibmhibjjaa.PA
set_option linter.unusedVariables false
set_option linter.unusedSimpArgs false
open Go.RowKit Go.Proofs.YtkplcibmhibjjaaW.PrintWords Go.Proofs.YtkplcibmhibjjaaW.PrintLast Go.Proofs.YtkplcibmhibjjaaW.PrintMore

theorem drop_cons0 (l : List Int) (i : Nat) (h : i < l.length) : l.drop i = l.getD i 0 :: l.drop (i + 1) := by
  rw [List.drop_eq_getElem_cons h]; simp [List.getD_eq_getElem?_getD, h]
theorem same_l0 (a b : List Int) (hl : a.length = b.length) (hb : a.length < 4611686018427387904) : ∀ (d i : Nat), i + d = a.length →
    Ev (fun k => wringerref7_SameInts.l0 k a b (i : Int)) (decide (a.drop i = b.drop i)) := by
  intro d
  induction d with
  | zero =>
    intro i hi
    refine Ev.step (f := fun _ => some true) (fun k => by simp only [wringerref7_SameInts.l0]; rw [if_neg (by omega)]) (Ev.ofSome ?_)
    rw [List.drop_eq_nil_of_le (by omega), List.drop_eq_nil_of_le (by omega)]; simp
  | succ d ih =>
    intro i hi
    rw [drop_cons0 a i (by omega), drop_cons0 b i (by omega)]
    by_cases h : a.getD i 0 = b.getD i 0
    · refine evq ?_ (Ev.step (f := fun k => wringerref7_SameInts.l0 k a b ((i + 1 : Nat) : Int)) (fun k => by simp only [wringerref7_SameInts.l0]; rw [if_pos (by omega), if_pos (by omega), if_pos (by omega), rd_nat, rd_nat, if_pos h, w64 (by omega) (by omega)]; rfl) (ih (i + 1) (by omega)))
      rw [h]; congr 1; simp
    · refine Ev.step (f := fun _ => some false) (fun k => by simp only [wringerref7_SameInts.l0]; rw [if_pos (by omega), if_pos (by omega), if_pos (by omega), rd_nat, rd_nat, if_neg h]) (Ev.ofSome ?_)
      symm; rw [decide_eq_false_iff_not]; intro e; exact h (List.cons.inj e).1
theorem same_is (a b : List Int) (hb : a.length < 4611686018427387904) : Ev (fun k => wringerref7_SameInts.f k a b) (decide (a = b)) := by
  unfold wringerref7_SameInts.f
  by_cases hl : a.length = b.length
  · refine Ev.ite_pos (by omega) ?_
    have := same_l0 a b hl hb a.length 0 (by omega)
    rw [List.drop_zero, List.drop_zero] at this
    exact this
  · refine Ev.ite_neg (by omega) (Ev.ofSome ?_)
    symm; rw [decide_eq_false_iff_not]; intro e; exact hl (by rw [e])
theorem same_self (a : List Int) (hb : a.length < 4611686018427387904) : Ev (fun k => wringerref7_SameInts.f k a a) true := by
  have := same_is a a hb
  simpa using this
end Go.Proofs.Ytkplcibmhibjjaa.PA

-- ---- Ug
/- The document's reading of lengths, and the example: what the print's functions come to. No program in sight. -/
namespace Go.Proofs.Ytkplcibmhibjjaa.PA
set_option linter.unusedVariables false
set_option linter.unusedSimpArgs false
open Go.RowKit Go.Proofs.YtkplcibmhibjjaaW.PrintWords Go.Proofs.YtkplcibmhibjjaaW.PrintLast Go.Proofs.YtkplcibmhibjjaaW.PrintMore Dp Lp Bits

theorem awake10 : wringerlaw10_awake.f = some true := by kernel_rfl
theorem i64_and15 (n : Int) : Go.bits .and .i64 n 15 = n % 16 := by
  have h15 : (BitVec.ofInt 64 15).toNat = 2 ^ 4 - 1 := by decide
  have key : (BitVec.ofInt 64 n &&& BitVec.ofInt 64 15).toNat = (n % ((2 ^ 64 : Nat) : Int)).toNat % 2 ^ 4 := by
    rw [BitVec.toNat_and, BitVec.toNat_ofInt, h15, Nat.and_two_pow_sub_one_eq_mod]
  show IntKind.i64.wrap ((BitVec.ofInt 64 n &&& BitVec.ofInt 64 15).toNat : Nat) = n % 16
  rw [key, IntKind.wrap_i64]
  omega
theorem bt_byte (s : ByteArray) (i : Nat) (h : i < s.size) : bt s (i : Int) = (byteS s i : Int) := by
  unfold bt
  rw [dif_pos (by rw [Int.toNat_natCast]; exact h)]
  congr 1
  exact byteS_eq s i h
theorem nib_read (s : ByteArray) (k : Nat) (hs : s.size ≤ 1000000000) (h : k / 2 < s.size) : Go.bits .and .i64 (shr .i64 (wrap64 (bt s ((k / 2 : Nat) : Int))) ((k % 2 * 4 : Nat) : Int)) 15 = (nibAt s k : Int) := by
  have hb := byteS_lt s (k / 2)
  rw [bt_byte s _ h, w64 (x := (byteS s (k / 2) : Int)) (by omega) (by omega), shr_nat _ _ (by omega), i64_and15]
  unfold nibAt; omega

theorem tdiv2 (n : Nat) : Int.tdiv (n : Int) 2 = ((n / 2 : Nat) : Int) := tdiv_nat n 2
theorem tmod2 (n : Nat) : Int.tmod (n : Int) 2 = ((n % 2 : Nat) : Int) := tmod_nat n 2
/-- What the lengths that were told come to. -/
def resG (s : ByteArray) (m : Nat) : Option (List Int × Nat) → List Int × Int × Int
  | none => ([], 0, 2)
  | some (l, k) => if l.length = 65 ∧ mayL l = true ∧ (putL l).toList = (s.extract m ((k + 1) / 2)).toList then (l, (((k + 1) / 2 : Nat) : Int), 0) else ([], 0, 3)
theorem resG_some (s : ByteArray) (m : Nat) (l : List Int) (k : Nat) : resG s m (some (l, k)) = if l.length = 65 ∧ mayL l = true ∧ (putL l).toList = (s.extract m ((k + 1) / 2)).toList then (l, (((k + 1) / 2 : Nat) : Int), 0) else ([], 0, 3) := rfl
theorem getL_res (s : ByteArray) (m : Nat) (h : m ≤ s.size) : getL s (m : Int) = resG s m (parse s 66 (2 * m) []) := by
  unfold getL
  rw [if_neg (by omega), Int.toNat_natCast]
  cases parse s 66 (2 * m) [] with
  | none => rfl
  | some q => rfl
set_option maxHeartbeats 200000 in
theorem getlens_l0 (s : ByteArray) (m : Nat) (hs : s.size ≤ 1000000000) : ∀ (f k : Nat) (acc : List Int), 2 * m ≤ k → k ≤ 2 * s.size → 66 ≤ f + acc.length → 1 ≤ f → acc.length ≤ 80 →
    Ev (fun j => wringerref7_GetLens.l0 j s (m : Int) acc (k : Int)) (resG s m (parse s f k acc)) := by
  intro f
  induction f with
  | zero => intro k acc _ _ _ h; omega
  | succ f ih =>
    intro k acc hmk hk hf _ hal
    have e1 : wrap64 (Int.tdiv (k : Int) 2) = ((k / 2 : Nat) : Int) := by rw [tdiv2, w64 (by omega) (by omega)]
    have e2 : wrap64 ((Int.tmod (k : Int) 2) * 4) = ((k % 2 * 4 : Nat) : Int) := by rw [tmod2, w64 (by omega) (by omega)]; omega
    have e3 : wrap64 ((k : Int) + 1) = ((k + 1 : Nat) : Int) := by rw [w64 (by omega) (by omega)]; rfl
    have e4 : wrap64 (Int.tdiv ((k + 1 : Nat) : Int) 2) = (((k + 1) / 2 : Nat) : Int) := by rw [tdiv2, w64 (by omega) (by omega)]
    by_cases h65 : acc.length < 65
    · by_cases h1 : s.size ≤ k / 2
      · have hp : parse s (f + 1) k acc = none := by simp only [parse]; rw [if_neg (by omega), if_pos h1]
        rw [hp]
        exact Ev.step (f := fun _ => some ([], 0, 2)) (fun j => by simp only [wringerref7_GetLens.l0, e1]; rw [if_pos (by omega), if_pos (by omega)]) (Ev.now _)
      · have hr := nib_read s k hs (by omega)
        have hn16 := nibAt_lt s k
        have hpp : parse s (f + 1) k acc = if 0 < nibAt s k then parse s f (k + 1) (acc ++ [(nibAt s k : Int)]) else if s.size ≤ (k + 1) / 2 then none else parse s f (k + 2) (acc ++ List.replicate (nibAt s (k + 1) + 1) 0) := by
          simp only [parse]; rw [if_neg (by omega), if_neg h1]
        obtain ⟨n, hn⟩ : ∃ n, n = nibAt s k := ⟨_, rfl⟩
        rw [← hn] at hr hn16 hpp
        by_cases h2 : 0 < n
        · rw [if_pos h2] at hpp
          rw [hpp]
          refine Ev.step (f := fun j => wringerref7_GetLens.l0 j s (m : Int) (acc ++ [(n : Int)]) ((k + 1 : Nat) : Int)) (fun j => ?_) (ih (k + 1) _ (by omega) (by omega) (by rw [List.length_append, List.length_singleton]; omega) (by omega) (by rw [List.length_append, List.length_singleton]; omega))
          simp only [wringerref7_GetLens.l0, e1, e2, hr, e3]
          clear hr ih hpp hn e1 e2 e3 e4
          rw [if_pos (by omega), if_neg (by omega), if_pos (by omega), if_pos (by omega), if_pos (by omega), if_pos (by omega), if_pos (by omega)]
        · rw [if_neg h2] at hpp
          by_cases h3 : s.size ≤ (k + 1) / 2
          · rw [if_pos h3] at hpp
            rw [hpp]
            refine Ev.step (f := fun _ => some ([], 0, 2)) (fun j => ?_) (Ev.now _)
            simp only [wringerref7_GetLens.l0, e1, e2, hr, e3, e4]
            clear hr ih hpp hn e1 e2 e3 e4
            rw [if_pos (by omega), if_neg (by omega), if_pos (by omega), if_pos (by omega), if_pos (by omega), if_neg (by omega), if_pos (by omega)]
          · have a0 : (k + 1) / 2 < s.size := by omega
            have a1 : 2 * m ≤ k + 2 := by omega
            have a2 : k + 2 ≤ 2 * s.size := by omega
            have a3 : ∀ q : Nat, q < 16 → 66 ≤ f + (acc ++ List.replicate (q + 1) (0 : Int)).length ∧ 1 ≤ f ∧ (acc ++ List.replicate (q + 1) (0 : Int)).length ≤ 80 := fun q hq => by rw [List.length_append, List.length_replicate]; omega
            have hq16 := nibAt_lt s (k + 1)
            rw [if_neg h3] at hpp
            obtain ⟨q, hq⟩ : ∃ q, q = nibAt s (k + 1) := ⟨_, rfl⟩
            rw [← hq] at hq16 hpp
            have e5 : wrap64 ((Int.tmod ((k + 1 : Nat) : Int) 2) * 4) = (((k + 1) % 2 * 4 : Nat) : Int) := by rw [tmod2, w64 (by omega) (by omega)]; omega
            have e6 : wrap64 ((q : Int) + 1) = ((q + 1 : Nat) : Int) := by rw [w64 (by omega) (by omega)]; rfl
            have e7 : wrap64 (((k + 1 : Nat) : Int) + 1) = ((k + 2 : Nat) : Int) := by rw [w64 (by omega) (by omega)]; omega
            rw [hpp]
            have hr2 := nib_read s (k + 1) hs a0
            rw [← hq] at hr2
            obtain ⟨b1, b2, b3⟩ := a3 q hq16
            refine Ev.step (f := fun j => wringerref7_GetLens.l0 j s (m : Int) (acc ++ List.replicate (q + 1) 0) ((k + 2 : Nat) : Int)) (fun j => ?_) (ih (k + 2) _ a1 a2 b1 b2 b3)
            simp only [wringerref7_GetLens.l0, e1, e2, hr, e3, e4, e5, hr2, e6, e7, Int.toNat_natCast]
            clear hr hr2 ih hpp hn hq e1 e2 e3 e4 e5 e6 e7
            rw [if_pos (by omega), if_neg (by omega), if_pos (by omega), if_pos (by omega), if_pos (by omega), if_neg (by omega), if_neg (by omega), if_pos (by omega), if_pos (by omega), if_pos (by omega), if_pos (by omega), if_pos (by omega)]
    · have hp : parse s (f + 1) k acc = some (acc, k) := by simp only [parse]; rw [if_pos (by omega)]
      rw [hp]
      refine Ev.step (f := fun j => if (acc.length : Int) = 65 then ((wringerref7_MayLens.f j acc).bind fun t => if t = true then ((wringerref7_PutLens.f acc).bind fun t2 => if t2.toList = (s.extract m ((k + 1) / 2)).toList then some (acc, (((k + 1) / 2 : Nat) : Int), 0) else some (([] : List Int), 0, 3)) else some (([] : List Int), 0, 3)) else some (([] : List Int), 0, 3)) (fun j => ?_) ?_
      · simp only [wringerref7_GetLens.l0, e3, e4, Int.toNat_natCast]
        clear e1 e2 e3 e4 ih
        rw [if_neg (by omega)]
        have g1 : (0 : Int) ≤ (m : Int) := by omega
        have g2 : (m : Int) ≤ (((k + 1) / 2 : Nat) : Int) := by omega
        have g3 : (((k + 1) / 2 : Nat) : Int) ≤ (s.size : Int) := by omega
        simp only [g1, g2, g3, if_true]
      · rw [resG_some]
        clear e1 e2 e3 e4
        by_cases h6 : acc.length = 65
        · refine Ev.ite_pos (by omega) (Ev.bind (rmay_is acc) ?_)
          cases hm : mayL acc with
          | false => exact Ev.ite_neg (by simp) (Ev.ofSome (by rw [if_neg (by simp)]))
          | true =>
            refine Ev.ite_pos rfl (Ev.bind0 rfl ?_)
            by_cases he : (putL acc).toList = (s.extract m ((k + 1) / 2)).toList
            · exact Ev.ite_pos he (Ev.ofSome (by rw [if_pos ⟨h6, rfl, he⟩]))
            · exact Ev.ite_neg he (Ev.ofSome (by rw [if_neg (fun h => he h.2.2)]))
        · exact Ev.ite_neg (by omega) (Ev.ofSome (by rw [if_neg (fun h => h6 h.1)]))
theorem getlens_is (s : ByteArray) (a : Int) (hs : s.size ≤ 1000000000) : Ev (fun k => wringerref7_GetLens.f k s a) (getL s a) := by
  unfold wringerref7_GetLens.f
  have bad : Ev (fun k => wringerref7_GetLens.j0 k s a true) ([], 0, 1) := Ev.step (f := fun _ => some ([], 0, 1)) (fun k => by simp only [wringerref7_GetLens.j0]; rfl) (Ev.now _)
  by_cases h0 : a < 0
  · have e : getL s a = ([], 0, 1) := by unfold getL; rw [if_pos (.inl h0)]
    rw [e]; exact Ev.ite_pos h0 bad
  · refine Ev.ite_neg h0 ?_
    by_cases h1 : a > (s.size : Int)
    · have e : getL s a = ([], 0, 1) := by unfold getL; rw [if_pos (.inr h1)]
      rw [e, decide_eq_true h1]; exact bad
    · obtain ⟨m, rfl⟩ := Int.eq_ofNat_of_zero_le (show 0 ≤ a by omega)
      rw [decide_eq_false h1, getL_res s m (by omega)]
      refine Ev.step (f := fun k => wringerref7_GetLens.l0 k s (m : Int) [] ((2 * m : Nat) : Int)) (fun k => ?_) (getlens_l0 s m hs 66 (2 * m) [] (Nat.le_refl _) (by omega) (by simp) (by omega) (by simp))
      simp only [wringerref7_GetLens.j0]
      rw [if_neg (by simp), w64 (by omega) (by omega)]; rfl
end Go.Proofs.Ytkplcibmhibjjaa.PA
