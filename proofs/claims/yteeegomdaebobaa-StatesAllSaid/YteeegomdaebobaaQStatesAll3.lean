/- Part StatesAll3 of what the layer's laws stand on: Srg, Sw, PAx1, PAx71, Usp, Sd, Sg, Ss, Sh, Si, Spt, Zj, PAx35, PAx60, PAx62, Ux, Spu, PAx36, PAx37, PAx49, PAx50, Ka, PAx5. Written by a program (merge.py) out of this session's own texts and of what the kit's print wrote over stand-ins (sp.py). Conditions: those that each theorem names. -/
import Derived.Test.YteeegomdaebobaaQStatesAll2
import Derived.Test.YteeegomdaebobaaQStatesAll1
import Derived.Laws.EntriesVeiled
import Derived.WalkSpells
import Derived.WalkLawsBesides
import Derived.BigQuiet
import Derived.Lib.Hide
import Derived.Deep.DeepCutAuto
import Derived.Test.YteeegomdaebobaaProg
import Derived.RangeFuncNested
import Derived.RangeFuncBound
import Derived.RangeFuncCalls
import Derived.RangeFuncLeaves
import Derived.Shelf.Abstract
import Derived.Shelf.RegionOpen
import Derived.WalkKit
import Derived.OwnWalkIn
import Derived.TacticsInMore
import Derived.LoopNIn
import Derived.LoopIn
import Derived.Lib.Zigzag
-- ---- Srg
/- states.Get: the parts of bytes: what the call answers. Conditions: those that each theorem names. -/
namespace Go.Proofs.Yteeegomdaebobaa.St
set_option maxRecDepth 100000
set_option linter.unusedSimpArgs false
set_option linter.unusedVariables false
open Go.RowKit Go.Proofs.YteeegomdaebobaaW.PrintWords Mix _root_.Go.Proofs.Yteeegomdaebobaa.Own Bits Nl Sp
attribute [local go_sem] Own.max_int Own.min_int

def flN (ps : List (Nat × Nat)) : List Value := ps.flatMap fun p => [.int .i64 (p.1 : Int), .int .u64 (p.2 : Int)]
theorem flN_snoc (ps : List (Nat × Nat)) (p : Nat × Nat) : flN (ps ++ [p]) = flN ps ++ [.int .i64 (p.1 : Int), .int .u64 (p.2 : Int)] := by simp [flN]
theorem infoPart : (Try.prog.info? 58).map (fun i => (i.zero, i.size, i.bytes)) = some (some (.agg #[.int .i64 0, .int .u64 0]), 2, 16) := by kernel_rfl
/-- What getting parts answers. -/
def GetPost (L : List Int) (lg : Int) (s : ByteArray) (n : Int) (w : World) (e : Ending) (w' : World) : Prop :=
  ∃ v, e = .returned (.tuple #[v, .int .i64 (getSE s n L lg).2]) ∧ OwnK w' 58 2 v (getSE s n L lg).1.length (flN (getSE s n L lg).1) ∧ (∀ g, v.ownBlock = some g → w.heap.size ≤ g) ∧ Below w.heap.size w w'
theorem getPost_bad {L : List Int} {lg : Int} {s : ByteArray} {n : Int} {w w' : World} {er : Int} (h : getSE s n L lg = ([], er)) (hb : Below w.heap.size w w') : GetPost L lg s n w (.returned (.tuple #[.slice none 0 0, .int .i64 er])) w' := by
  unfold GetPost
  rw [h]
  exact ⟨_, rfl, OwnK.nil _ _ _, fun g hg => by simp [Value.ownBlock] at hg, hb⟩

theorem getS_pos {b : ByteArray} {p : Nat} {n : Int} (h : p ≤ 8 * b.size) : (getS b p n).2.2 ≤ 8 * b.size := by
  unfold getS
  split
  · exact h
  · split
    · exact h
    · simp only; omega
section
variable {B : Nat} {w w' : World} {q p be br : Nat} {tv : Value} {l : List Int} {m : Nat} {R : List (Value × List Nat)} {a b : ByteArray} {st k pos : Nat}
theorem RdS.chgV {v : Value} {n : Nat} {cs : List Value} (h : RdS B w q p be br tv l m R a b st k pos) (ho : OwnK w 58 2 v n cs) (hc : Chg (fun x => some x = v.ownBlock) w w') : RdS B w' q p be br tv l m R a b st k pos := by
  cases hv : v.ownBlock with
  | none => exact h.later (hc.below (Nat.le_refl _) fun k _ e => by rw [hv] at e; cases e)
  | some g =>
    obtain ⟨cur, hb⟩ := ho.blk g hv
    refine h.chgP hb (g := g) ?_
    rw [hv] at hc
    exact ⟨hc.os, hc.tape, hc.output, hc.size, fun k hk hn => hc.block k hk (fun e => hn (Option.some.inj e))⟩
theorem RdS.apart {v : Value} {n : Nat} {cs : List Value} (h : RdS B w q p be br tv l m R a b st k pos) (ho : OwnK w 58 2 v n cs) : v.ownBlock ≠ some be ∧ v.ownBlock ≠ some br ∧ v.ownBlock ≠ some p :=
  ⟨ho.ne h.sl (by decide), ho.ne h.rs (by decide), ho.ne h.co.blk (by decide)⟩

/-- A part got. -/
theorem back_good (h : RdS B w q p be br tv l m R a b st k pos) (hM : MayS l m) (hst : st < 2 ^ m) (ha : a.size ≤ 1000000000000) (hb : b.size ≤ 1000000000000) (hk : k ≤ 8 * a.size) (hp : pos ≤ 8 * b.size) {v k' r pos' : Nat} (h1 : getE a k (tB l m st : Int) = (v, 0, k')) (h2 : getS b pos ((tC l m st - 1 : Nat) : Int) = (r, 0, pos')) :
    Calls Try.prog 37 #[.pointer (some ⟨q, 0, none⟩)] w fun e w' => e = .returned (.tuple #[.agg #[.int .i64 (tC l m st : Int), .int .u64 (r : Int)], .bool true]) ∧ RdS B w' q p be br tv l m R a b (tS l m st + v) k' pos' ∧ Below B w w' ∧ Chg (fun k => k = be ∨ k = br ∨ k = p) w w' :=
  (back_calls2 h hM hst ha hb hk hp).mono fun e w' hh => by
    obtain ⟨h3, hc, _, h4⟩ := hh
    rw [h1, h2] at h4
    obtain ⟨h5, h6⟩ := h4 rfl
    exact ⟨h5, h6, h3, hc⟩
/-- None got. -/
theorem back_stop (h : RdS B w q p be br tv l m R a b st k pos) (hM : MayS l m) (hst : st < 2 ^ m) (ha : a.size ≤ 1000000000000) (hb : b.size ≤ 1000000000000) (hk : k ≤ 8 * a.size) (hp : pos ≤ 8 * b.size) (hn : ¬ ((getE a k (tB l m st : Int)).2.1 = 0 ∧ (getS b pos ((tC l m st - 1 : Nat) : Int)).2.1 = 0)) :
    Calls Try.prog 37 #[.pointer (some ⟨q, 0, none⟩)] w fun e w' => (∃ c r : Nat, e = .returned (.tuple #[.agg #[.int .i64 (c : Int), .int .u64 (r : Int)], .bool false])) ∧ Below B w w' :=
  (back_calls2 h hM hst ha hb hk hp).mono fun e w' hh => by
    obtain ⟨h3, _, h4, h5⟩ := hh
    by_cases he : (getE a k (tB l m st : Int)).2.1 = 0
    · have h6 := (h5 he).1
      rw [decide_eq_false (fun x => hn ⟨he, x⟩)] at h6
      exact ⟨⟨_, _, h6⟩, h3⟩
    · exact ⟨⟨0, 0, h4 he⟩, h3⟩
end

set_option maxHeartbeats 2000000 in
theorem stget_form (A0 : Option Addr) (c0 : Nat) (L : List Int) (lg : Int) (s : ByteArray) (n : Int) (w : World) (hr0 : Kd.C (Kd.int .i64) w A0 L.length L) (hc0 : L.length ≤ c0) (hm : mayN L lg = false) :
    Calls Try.prog 15 #[.string s, .int .i64 n, .slice A0 L.length c0, .int .i64 lg] w (GetPost L lg s n w) := by
  have HC := kept (made_bad A0 c0 L lg w hr0 hc0 hm)
  have HG := kept (show getSE s n L lg = ([], 3) by unfold getSE; rw [hm]; rfl)
  obtain ⟨l, hl⟩ : ∃ l, l = L.length := ⟨_, rfl⟩
  rw [← hl] at HC ⊢
  clear hr0 hc0 hm hl
  go_enter Try.func15, Try.ntmps15
  go_wp2_with (go_at_call 26; refine HC.out.mono ?_; rintro e w1 ⟨rfl, hb⟩; have HB := kept hb; clear hb)
  go_ret2
  exact getPost_bad HG.out HB.out
set_option maxHeartbeats 2000000 in
theorem stget_arg (A0 : Option Addr) (c0 : Nat) (L : List Int) (m : Nat) (s : ByteArray) (n : Int) (w : World) (hr0 : Kd.C (Kd.int .i64) w A0 L.length L) (hc0 : L.length ≤ c0) (hm : mayN L (m : Int) = true) (hn : n < 0 ∨ 4096 < n) :
    Calls Try.prog 15 #[.string s, .int .i64 n, .slice A0 L.length c0, .int .i64 (m : Int)] w (GetPost L m s n w) := by
  have HC := kept (made_ok A0 c0 L m w hr0 hc0 hm)
  have HG := kept (show getSE s n L (m : Int) = ([], 1) by unfold getSE; rw [hm, if_pos rfl, if_pos hn])
  obtain ⟨l, hl⟩ : ∃ l, l = L.length := ⟨_, rfl⟩
  rw [← hl] at HC ⊢
  clear hr0 hc0 hm hl
  by_cases h0 : n < 0
  · have t1 : decide (n < 0) = true := decide_eq_true h0
    clear hn
    go_enter Try.func15, Try.ntmps15
    go_wp2_with (go_at_call 26; refine HC.out.mono ?_; rintro e w1 ⟨p, tv, R, rfl, _, _, hb⟩; have HB := kept hb; clear hb)
    go_ret2
    exact getPost_bad HG.out HB.out
  · have t1 : decide (n < 0) = false := decide_eq_false h0
    have t2 : decide ((4096 : Int) < n) = true := decide_eq_true (by omega)
    clear hn
    go_enter Try.func15, Try.ntmps15
    go_wp2_with (go_at_call 26; refine HC.out.mono ?_; rintro e w1 ⟨p, tv, R, rfl, _, _, hb⟩; have HB := kept hb; clear hb)
    go_ret2
    exact getPost_bad HG.out HB.out

set_option maxRecDepth 100000 in
set_option maxHeartbeats 16000000 in
theorem stget_calls (A0 : Option Addr) (c0 : Nat) (L : List Int) (m : Nat) (s : ByteArray) (N : Nat) (w : World) (hr0 : Kd.C (Kd.int .i64) w A0 L.length L) (hc0 : L.length ≤ c0) (hm : mayN L (m : Int) = true) (hN : N ≤ 4096) (hs : s.size ≤ 1000000000000) :
    Calls Try.prog 15 #[.string s, .int .i64 (N : Int), .slice A0 L.length c0, .int .i64 (m : Int)] w (GetPost L m s (N : Int) w) := by
  obtain ⟨i0, hi, hz0, hz1, hz2⟩ := info_partsS infoPart
  have HC := kept (made_ok A0 c0 L m w hr0 hc0 hm)
  have HM := kept (mayS_of hm)
  have hg : getSE s (N : Int) L (m : Int) = ansG (fullG L m N (splitV s)) := by
    unfold getSE
    rw [if_pos hm, if_neg (by omega), Int.toNat_natCast, Int.toNat_natCast]
  have HG := kept hg
  have t1 : decide ((N : Int) < 0) = false := decide_eq_false (by omega)
  have t2 : decide ((4096 : Int) < (N : Int)) = false := decide_eq_false (by omega)
  obtain ⟨B, hB⟩ : ∃ B, B = w.heap.size := ⟨_, rfl⟩
  have HBe := kept hB
  rw [HM.out.len, ← hB] at HC
  rw [HM.out.len]
  clear hr0 hc0 hm hg hB
  go_enter Try.func15, Try.ntmps15
  go_wp2_with (go_at_call 26; refine HC.out.mono ?_)
  rintro e w1 ⟨p, tv, R, rfl, hC, _, hb⟩
  have HO := kept (opened_calls (s := s) hC HM.out hs)
  have HSz := kept (HBe.out ▸ hb.size)
  have HB1 := kept hb
  clear hC hb HC
  go_wp2_with (go_at_call 36; refine HO.out.mono ?_)
  rintro e w2 ⟨hb2, ⟨⟨v, rfl⟩, hnone⟩ | ⟨q, be, br, a, b, st0, k0, rfl, hR, hst, hk, ha, hbz, hfull⟩⟩
  · have HB2 := kept (HB1.out.trans hb2)
    have HE := kept (show getSE s (N : Int) L (m : Int) = ([], 3) by rw [HG.out, hnone N]; rfl)
    clear hb2 hnone
    go_wp2_with fail
    go_ret2
    exact getPost_bad HE.out (HBe.out ▸ HB2.out)
  · have HB2 := kept (HB1.out.trans hb2)
    have HR2 := kept hR
    have HF := kept (hfull N)
    have HA := kept ha
    have HBz := kept hbz
    have HSt := kept hst
    have HK := kept hk
    clear hb2 hR hfull ha hbz hst hk HO
    go_wp2_with fail
    go_loopw [47, 14] (fun s47 s14 wr => ∃ (i st k pos : Nat) (v : Value) (ps : List (Nat × Nat)), i ≤ N ∧ s47 = .int .i64 (i : Int) ∧ v = s14 ∧ ps.length = i ∧ OwnK wr 58 2 v i (flN ps) ∧ (∀ g, v.ownBlock = some g → B ≤ g) ∧ RdS B wr q p be br tv L m R a b st k pos ∧ st < 2 ^ m ∧ k ≤ 8 * a.size ∧ pos ≤ 8 * b.size ∧
        (gets L m a b N st0 k0 0 = (gets L m a b (N - i) st k pos).map fun r => (ps ++ r.1, r.2)) ∧ Below B w wr) (fun s47 _ _ => N - (intOf s47).toNat)
    case atStart => exact ⟨0, st0, k0, 0, _, [], Nat.zero_le _, rfl, rfl, rfl, OwnK.nil _ _ _, fun g hg => by simp [Value.ownBlock] at hg, HR2.out, HSt.out, HK.out, Nat.zero_le _, by simp, HB2.out⟩
    case round =>
      obtain ⟨i, st, k, pos, v, ps, hiN, rfl, rfl, hpl, hO, hnew, hR, hst, hk, hpos, hg, hB⟩ := hrel
      obtain ⟨wp, rfl⟩ : ∃ wp, wp = wr := ⟨wr, rfl⟩
      have HR := kept hR
      have HOw := kept hO
      have HNw := kept hnew
      have HBl := kept hB
      have HGp := kept hg
      have HPl := kept hpl
      have HSt2 := kept hst
      have HK2 := kept hk
      have HPos := kept hpos
      clear hR hO hnew hB hg hpl hst hk hpos HR2 HSt HK HB2
      by_cases hlt : i < N
      · obtain ⟨x, v1, er1, k', hg1⟩ : ∃ x v1 er1 k', x = getE a k (tB L m st : Int) ∧ x = (v1, er1, k') := ⟨_, _, _, _, rfl, rfl⟩
        obtain ⟨hx1, rfl⟩ := hg1
        obtain ⟨y, r1, er2, pos', hg2⟩ : ∃ y r1 er2 pos', y = getS b pos ((tC L m st - 1 : Nat) : Int) ∧ y = (r1, er2, pos') := ⟨_, _, _, _, rfl, rfl⟩
        obtain ⟨hy1, rfl⟩ := hg2
        obtain ⟨n1, hn1⟩ : ∃ n1, N - i = n1 + 1 := ⟨N - i - 1, by omega⟩
        by_cases hok : er1 = 0 ∧ er2 = 0
        · obtain ⟨rfl, rfl⟩ := hok
          have HBk := kept (back_good HR.out HM.out HSt2.out HA.out HBz.out HK2.out HPos.out hx1.symm hy1.symm)
          obtain ⟨_, hb2, hb3, _, _⟩ := t_bounds HM.out HSt2.out
          have hv1 := getE_lt a k (tB L m st)
          rw [← hx1] at hv1
          simp only at hv1
          have hk1 := getE_left a k (tB L m st : Int)
          rw [← hx1] at hk1
          have hp1 := getS_pos (n := ((tC L m st - 1 : Nat) : Int)) HPos.out
          rw [← hy1] at hp1
          have hstep : gets L m a b N st0 k0 0 = (gets L m a b (N - (i + 1)) (tS L m st + v1) k' pos').map fun r => ((ps ++ [(tC L m st, r1)]) ++ r.1, r.2) := by
            rw [HGp.out, hn1, gets_more hx1.symm hy1.symm, show N - (i + 1) = n1 by omega, Option.map_map]
            congr 1
            funext r
            simp [Function.comp]
          have HStep := kept hstep
          have HS3 : Own.Kept (tS L m st + v1 < 2 ^ m ∧ k' ≤ 8 * a.size ∧ pos' ≤ 8 * b.size) := kept ⟨by omega, Nat.le_trans hk1 HK2.out, hp1⟩
          obtain ⟨c, hc⟩ : ∃ c, c = tC L m st := ⟨_, rfl⟩
          rw [← hc] at HBk HStep
          clear hx1 hy1 hn1 hb2 hb3 hv1 hk1 hp1 hstep hc
          go_wp2_with fail
          refine HBk.out.mono ?_
          rintro e w3 ⟨rfl, hR3, hb3, hc3⟩
          obtain ⟨a1, a2, a3⟩ := HR.out.apart HOw.out
          have HO3 := kept (HOw.out.chg hc3 (fun g hg h => by
            rcases h with h | h | h
            · exact a1 (by rw [hg, h])
            · exact a2 (by rw [hg, h])
            · exact a3 (by rw [hg, h])))
          have HR3 := kept hR3
          have HB3 := kept (HBl.out.trans hb3)
          clear hR3 hb3 hc3 a1 a2 a3 HBk
          go_upto_region 16 with fail
          obtain ⟨w4, hw4⟩ : ∃ w_, w_ = World.alloc w3 (.cells #[.int .i64 (c : Int), .int .u64 (r1 : Int)] 58) := ⟨_, rfl⟩
          obtain ⟨gp, hgp⟩ : ∃ gp, gp = w3.heap.size := ⟨_, rfl⟩
          have hal : Below w3.heap.size w3 w4 := by rw [hw4]; exact (Below.refl _ _).alloc (Nat.le_refl _) _
          have hP4 : Blk w4 gp #[.int .i64 (c : Int), .int .u64 (r1 : Int)] 58 := by rw [hgp, hw4]; exact Blk.fresh _ _ _
          have c0 : w4.cell? ⟨gp, 0, none⟩ = some (.int .i64 (c : Int)) := Blk.cell hP4 rfl
          have c1 : w4.cell? ⟨gp, 1, none⟩ = some (.int .u64 (r1 : Int)) := Blk.cell hP4 rfl
          have HO4 := kept (HO3.out.later hal)
          have HR4 := kept (HR3.out.later hal)
          have HB4 := kept (HB3.out.trans (hal.mono HR3.out.co.sz))
          rw [← hw4, ← hgp]
          clear hw4 hgp hal hP4 HO3 HR3 HB3
          go_wp2_with (first | (at_builtin; refine wpList_appK1 (us := [.int .i64 (c : Int), .int .u64 (r1 : Int)]) rfl _ _ 24 rfl 58 i0 (.agg #[.int .i64 0, .int .u64 0]) 2 16 Try.underlying24 hi hz0 hz1 hz2 rfl (by decide) v i _ rfl HO4.out rfl ?_ rfl ?_ ?_ ?_) | fail)
          · intro u hu; simp at hu; rcases hu with rfl | rfl <;> rfl
          · simp [maxLen]; omega
          · omega
          intro v5 w5 O5 C5 F5
          rw [← flN_snoc ps (c, r1)] at O5
          have HO5 := kept O5
          have HN5 : Own.Kept (∀ g, v5.ownBlock = some g → B ≤ g) := kept (fun g hg => by
            rcases F5 g hg with h | h
            · exact HNw.out g h.symm
            · exact Nat.le_trans HR4.out.co.sz h)
          have HB5 := kept (HB4.out.trans (C5.below HR4.out.co.sz (fun x hx h => by have := HNw.out x h.symm; omega)))
          have HR5 := kept (HR4.out.chgV HO4.out C5)
          clear O5 C5 F5 c0 c1
          go_wp2_with fail
          go_roundw
          case rel => exact ⟨i + 1, _, k', pos', v5, ps ++ [(c, r1)], by omega, by go_num, rfl, by rw [List.length_append, HPl.out]; rfl, HO5.out, HN5.out, HR5.out, HS3.out.1, HS3.out.2.1, HS3.out.2.2, HStep.out, HB5.out⟩
          case measure => simp [intOf]; omega
        · have hbadg : gets L m a b N st0 k0 0 = none := by
            rw [HGp.out, hn1]
            by_cases he : er1 = 0
            · rw [gets_bad2 (by rw [← hy1]; exact fun x => hok ⟨he, x⟩)]; rfl
            · rw [gets_bad1 (by rw [← hx1]; exact he)]; rfl
          have HE := kept (show getSE s (N : Int) L (m : Int) = ([], 3) by rw [HG.out, HF.out, hbadg]; rfl)
          have HBk := kept (back_stop HR.out HM.out HSt2.out HA.out HBz.out HK2.out HPos.out (by rw [← hx1, ← hy1]; exact hok))
          clear hbadg hx1 hy1 hok hn1
          go_wp2_with fail
          refine HBk.out.mono ?_
          rintro e w3 ⟨⟨c, r, rfl⟩, hb3⟩
          have HB3 := kept (HBl.out.trans hb3)
          have HS3 : Own.Kept (B ≤ w3.heap.size) := kept (Nat.le_trans HR.out.co.sz hb3.size)
          clear hb3
          go_wp2_with fail
          go_ret2
          refine getPost_bad HE.out ?_
          rw [← HBe.out]
          exact HB3.out.trans (((Below.refl _ _).alloc (Nat.le_refl _) _).mono HS3.out)
      · have hie : i = N := by omega
        subst hie
        have hq := HGp.out
        rw [Nat.sub_self] at hq
        simp only [gets, Option.map_some, List.append_nil] at hq
        have HQ := kept hq
        have x0 := HR.out.self.cell (i := 0) rfl
        have x1 := HR.out.self.cell (i := 1) rfl
        have x2 := HR.out.self.cell (i := 2) rfl
        have x3 := HR.out.co.blk.cell (coC_tail (tv := tv) (st := st) (vv := .slice none 0 0) (lv := .slice none 0 0) HR.out.co.len).1
        have HLf := kept (bleft_calls be a k wp HR.out.sl)
        have HRt := kept (rest_calls br b pos wp HR.out.rs HBz.out HPos.out)
        obtain ⟨rb, hrb⟩ : ∃ rb, rb = restS b pos := ⟨_, rfl⟩
        rw [← hrb] at HRt
        have HRb := kept hrb
        clear hq hrb t1 t2
        have HBB := kept (HBe.out ▸ HBl.out : Below w.heap.size w wp)
        have HSs : Own.Kept (w.heap.size ≤ wp.heap.size) := kept (HBe.out ▸ HR.out.co.sz)
        by_cases h0 : st = 0
        · subst h0
          by_cases h1 : k = 0
          · subst h1
            cases rb with
            | true =>
              have HE := kept (show getSE s (i : Int) L (m : Int) = (ps, 0) by rw [HG.out, HF.out, HQ.out]; show ansG (if (0 : Nat) = 0 ∧ (0 : Nat) = 0 ∧ restS b pos = true then some ps else none) = _; rw [if_pos ⟨rfl, rfl, HRb.out.symm⟩]; rfl)
              go_wp2_with (first | (go_at_call 38; refine HLf.out.mono ?_; rintro e w3 ⟨rfl, rfl⟩) | (go_at_call 39; refine HRt.out.mono ?_; rintro e w4 ⟨rfl, hb4⟩; have HB4 := kept hb4; clear hb4))
              go_ret2
              unfold GetPost
              rw [HE.out]
              exact ⟨_, rfl, by rw [HPl.out]; exact HOw.out.later HB4.out, fun g hg => HBe.out ▸ HNw.out g hg, HBB.out.trans (HB4.out.mono HSs.out)⟩
            | false =>
              have HE := kept (show getSE s (i : Int) L (m : Int) = ([], 3) by rw [HG.out, HF.out, HQ.out]; show ansG (if (0 : Nat) = 0 ∧ (0 : Nat) = 0 ∧ restS b pos = true then some ps else none) = _; rw [if_neg (fun x => by rw [← HRb.out] at x; exact absurd x.2.2 (by decide))]; rfl)
              go_wp2_with (first | (go_at_call 38; refine HLf.out.mono ?_; rintro e w3 ⟨rfl, rfl⟩) | (go_at_call 39; refine HRt.out.mono ?_; rintro e w4 ⟨rfl, hb4⟩; have HB4 := kept hb4; clear hb4))
              go_ret2
              exact getPost_bad HE.out (HBB.out.trans (HB4.out.mono HSs.out))
          · have tk : ((k : Int) != 0) = true := by rw [bne_iff_ne]; omega
            have HE := kept (show getSE s (i : Int) L (m : Int) = ([], 3) by rw [HG.out, HF.out, HQ.out]; show ansG (if (0 : Nat) = 0 ∧ k = 0 ∧ restS b pos = true then some ps else none) = _; rw [if_neg (fun x => h1 x.2.1)]; rfl)
            go_wp2_with (first | (go_at_call 38; refine HLf.out.mono ?_; rintro e w3 ⟨rfl, rfl⟩))
            go_ret2
            exact getPost_bad HE.out HBB.out
        · have tk : ((st : Int) != 0) = true := by rw [bne_iff_ne]; omega
          have HE := kept (show getSE s (i : Int) L (m : Int) = ([], 3) by rw [HG.out, HF.out, HQ.out]; show ansG (if st = 0 ∧ k = 0 ∧ restS b pos = true then some ps else none) = _; rw [if_neg (fun x => h0 x.1)]; rfl)
          go_wp2_with fail
          go_ret2
          exact getPost_bad HE.out HBB.out
end Go.Proofs.Yteeegomdaebobaa.St

-- ---- Sw
/- Parts of the print's own form: how they are read and told. No program in sight. -/
namespace Go.Proofs.Yteeegomdaebobaa.PA
set_option maxRecDepth 100000
set_option linter.unusedVariables false
set_option linter.unusedSimpArgs false
open Go.RowKit Go.Proofs.YteeegomdaebobaaW.PrintWords Go.Proofs.YteeegomdaebobaaW.PrintLast Go.Proofs.YteeegomdaebobaaW.PrintMore
open _root_.Go.Proofs.Yteeegomdaebobaa.Own St

def wfB (p : S58) : Bool := decide (-9223372036854775808 ≤ p.f0 ∧ p.f0 ≤ 9223372036854775807 ∧ 0 ≤ p.f1 ∧ p.f1 < 18446744073709551616)
def pairP (p : S58) : Int × Nat := (p.f0, p.f1.toNat)
theorem rdq_of {w : World} {A : Option Addr} {n : Nat} {xs : List (S58)} (h : Kd.C k58 w A n xs) (hw : xs.all wfB = true) : RdQ w A n (xs.map pairP) := by
  have hwf : ∀ p ∈ xs, -9223372036854775808 ≤ p.f0 ∧ p.f0 ≤ 9223372036854775807 ∧ 0 ≤ p.f1 ∧ p.f1 < 18446744073709551616 := fun p hp => by
    have := List.all_eq_true.1 hw p hp
    unfold wfB at this
    rwa [decide_eq_true_eq] at this
  refine ⟨by rw [List.length_map]; exact h.1, fun h0 => ?_, fun p hp => ?_⟩
  · obtain ⟨x, hx, hc⟩ := h.2.2 h0
    refine ⟨x, hx, fun i p hp => ?_⟩
    rw [List.getElem?_map] at hp
    cases hq : xs[i]? with
    | none => rw [hq] at hp; cases hp
    | some q =>
      rw [hq] at hp
      have hp := Option.some.inj hp
      subst hp
      obtain ⟨cs, hl, hK, hcell⟩ := hc i q hq
      have hf := hwf q (List.mem_of_getElem? hq)
      have hcs := k58_open hK
      subst hcs
      have e1 : ((q.f1.toNat : Nat) : Int) = q.f1 := by omega
      refine ⟨hcell 0 _ rfl, ?_⟩
      have := hcell 1 _ rfl
      simp only [pairP, e1]
      exact this
  · obtain ⟨q, hq, rfl⟩ := List.mem_map.1 hp
    have hf := hwf q hq
    refine ⟨hf.1, hf.2.1, ?_⟩
    show q.f1.toNat < _
    omega

def partS (p : Nat × Nat) : S58 := ⟨(p.1 : Int), (p.2 : Int)⟩
def getPE (s : ByteArray) (n : Int) (l : List Int) (lg : Int) : List (S58) × Int := ((getSE s n l lg).1.map partS, (getSE s n l lg).2)
theorem flN_part (ps : List (Nat × Nat)) : (ps.map partS).flatMap (fun x => [Value.int .i64 x.f0, .int .u64 x.f1]) = St.flN ps := by
  unfold St.flN
  induction ps with
  | nil => rfl
  | cons a t ih => simp only [List.map_cons, List.flatMap_cons, ih]; rfl
theorem partR {w : World} {base : Nat} {v : Value} {ps : List (Nat × Nat)} (ho : OwnK w 58 2 v ps.length (St.flN ps)) (hnew : ∀ g, v.ownBlock = some g → base ≤ g) : Kd.R k58 58 w base (fun _ => True) v (ps.map partS) := by
  refine Own.R_of_flat k58 (fun x => [.int .i64 x.f0, .int .u64 x.f1]) (fun ok x => k58_mkM w base ok x) (fun _ => rfl) ?_ hnew
  rw [List.length_map, flN_part]
  exact ho
end Go.Proofs.Yteeegomdaebobaa.PA

-- ---- PAx1

namespace Go.Proofs.Yteeegomdaebobaa.PA
open Go.RowKit Go.Proofs.YteeegomdaebobaaW.PrintWords Go.Proofs.YteeegomdaebobaaW.PrintLast Go.Proofs.YteeegomdaebobaaW.PrintMore
attribute [local go_sem] max2_int min2_int max_two min_two max_three min_three max_four min_four   -- for this text's walks alone
set_option linter.unusedVariables false
set_option linter.unusedSimpArgs false

theorem eqA58 (d : Nat) (w : World) (x0 y0 : Int) (x1 y1 : Int) :
    (Op.equalIn (d + 2) 58 (.agg #[.int .i64 x0, .int .u64 x1]) (.agg #[.int .i64 y0, .int .u64 y1])).run Try.prog w = .ok (x0 == y0 && (x1 == y1)) w := by
  refine eqA_of Try.underlying58 (by kernel_rfl) ?_
  refine eqf_cons (by rfl) (by go_simp; rfl) (by go_simp; rfl) (by go_simp) ?_
  exact eqf_last (by rfl) (by go_simp; rfl) (by go_simp; rfl) (by go_simp)
end Go.Proofs.Yteeegomdaebobaa.PA

-- ---- PAx71

namespace Go.Proofs.Yteeegomdaebobaa.PA
open Go.RowKit Go.Proofs.YteeegomdaebobaaW.PrintWords Go.Proofs.YteeegomdaebobaaW.PrintLast Go.Proofs.YteeegomdaebobaaW.PrintMore
attribute [local go_sem] max2_int min2_int max_two min_two max_three min_three max_four min_four   -- for this text's walks alone
set_option linter.unusedVariables false
set_option linter.unusedSimpArgs false

attribute [local go_sem high] eqA58
/-! ### wringerref7_SameParts: function 20 -/
def wringerref7_SameParts.l0 : Nat → List (S58) → List (S58) → Int → Option (Bool)
  | 0, _, _, _ => none
  | k + 1, x0, x1, x5 => if x5 < (x0.length : Int) then (if 0 ≤ x5 then (if x5 < (x1.length : Int) then (if (!(((rd_T58 x0 x5).f0) == ((rd_T58 x1 x5).f0)) || (!(((rd_T58 x0 x5).f1) == ((rd_T58 x1 x5).f1)))) = true then (some false) else (wringerref7_SameParts.l0 k x0 x1 (wrap64 (x5 + 1)))) else (none)) else (none)) else (some true)
def wringerref7_SameParts.f (k : Nat) (l0 : List (S58)) (l1 : List (S58)) : Option (Bool) := if (l0.length : Int) = (l1.length : Int) then (wringerref7_SameParts.l0 k l0 l1 0) else (some false)
theorem wringerref7_SameParts.mono_l : ∀ k, (∀ y0 y1 y2, LeO (wringerref7_SameParts.l0 k y0 y1 y2) (wringerref7_SameParts.l0 (k + 1) y0 y1 y2))
  | 0 => fun _ _ _ r h => by simp [wringerref7_SameParts.l0] at h
  | k + 1 => by
    have ih0 := wringerref7_SameParts.mono_l k
    · intro y0 y1 y2
      unfold wringerref7_SameParts.l0
      repeat' first
      | (with_reducible exact ih0 _ _ _)
      | (with_reducible exact LeO.refl _)
      | (with_reducible exact LeO.none _)
      | (with_reducible refine LeO.ite ?_ ?_)
      | (with_reducible refine LeO.bind ?_ (fun _ => ?_))
      | exact ih0 _ _ _
      | exact LeO.none _
      | refine LeO.ite ?_ ?_
      | refine LeO.bind ?_ (fun _ => ?_)
theorem wringerref7_SameParts.mono : ∀ a0 a1 k, LeO (wringerref7_SameParts.f k a0 a1) (wringerref7_SameParts.f (k + 1) a0 a1) := by
  intro a0 a1 k
  have ih0 := wringerref7_SameParts.mono_l k
  unfold wringerref7_SameParts.f
  repeat' first
      | (with_reducible exact ih0 _ _ _)
      | (with_reducible exact LeO.refl _)
      | (with_reducible exact LeO.none _)
      | (with_reducible refine LeO.ite ?_ ?_)
      | (with_reducible refine LeO.bind ?_ (fun _ => ?_))
      | exact ih0 _ _ _
      | exact LeO.none _
      | refine LeO.ite ?_ ?_
      | refine LeO.bind ?_ (fun _ => ?_)
set_option maxHeartbeats 8000000 in
set_option maxRecDepth 100000 in
theorem wringerref7_SameParts.calls (k : Nat) (A0 : Option Addr) (c0 : Nat) (l0 : List (S58)) (A1 : Option Addr) (c1 : Nat) (l1 : List (S58)) (r : Bool) (w : World) (hr0 : Kd.C k58 w A0 l0.length l0) (hc0 : l0.length ≤ c0) (hr1 : Kd.C k58 w A1 l1.length l1) (hc1 : l1.length ≤ c1) (h : wringerref7_SameParts.f k l0 l1 = some r) :
    Calls Try.prog 20 #[.slice A0 l0.length c0, .slice A1 l1.length c1] w fun e w' => e = .returned (.bool r) ∧ Drawn0 w w' := by
  have hu58 := Try.underlying58
  have HR0 := Aside0.mk hr0
  have HC0 := Aside0.mk hc0
  clear hr0 hc0
  have HR1 := Aside0.mk hr1
  have HC1 := Aside0.mk hc1
  clear hr1 hc1
  have H : (if (l0.length : Int) = (l1.length : Int) then (wringerref7_SameParts.l0 k l0 l1 0) else (some false)) = some r := h
  clear h
  by_cases c3 : (l0.length : Int) = (l1.length : Int)
  · rw [if_pos c3] at H
    have c3b0 : ((l0.length : Int) == (l1.length : Int)) = true := beq_iff_eq.mpr c3
    have c3b1 : ((l0.length : Int) != (l1.length : Int)) = false := bne_eq_false_iff_eq.mpr c3
    have c3b2 : (l0.length == l1.length) = true := by first | simpa using c3 | (simp at c3 ⊢; omega)
    clear c3
    have H' := Aside0.mk H
    clear H
    go_enter Try.func20, Try.ntmps20
    go_wp2
    repeat (go_quiet (fail); try go_wp2)
    go_loopg [5] k (fun kq v5 w' => ∃ (x5_1 : Int), v5 = .int .i64 x5_1 ∧ Aside0 (wringerref7_SameParts.l0 kq l0 l1 x5_1 = some r) ∧ Aside0 (kq ≤ k) ∧ Drawn0 w w')
    case atStart => exact ⟨(0), (by first | rfl | (simp; done) | (simp [*]; done)), H', ⟨Nat.le_refl _⟩, by repeat (first | exact Drawn0.refl _ | apply Drawn0.step)⟩
    case round =>
      clear H'
      try clear c1
      try clear c2
      try clear p2
      try clear c3
      try clear c3b0
      try clear c3b1
      try clear c3b2
      obtain ⟨x5_1, rfl, HA, HK1, ⟨m1, rfl⟩⟩ := hrel
      cases gk with
      | zero => exact absurd HA.out (by simp [wringerref7_SameParts.l0])
      | succ k1 =>
        have H := HA.out
        clear HA
        simp only [wringerref7_SameParts.l0] at H
        by_cases c4 : x5_1 < (l0.length : Int)
        · rw [if_pos c4] at H
          have c4b0 : decide (x5_1 < (l0.length : Int)) = true := decide_eq_true c4
          clear c4
          by_cases c5 : 0 ≤ x5_1
          · rw [if_pos c5] at H
            have c5b0 : decide (0 ≤ x5_1) = true := decide_eq_true c5
            clear c5
            by_cases c6 : x5_1 < (l1.length : Int)
            · rw [if_pos c6] at H
              have c6b0 : decide (x5_1 < (l1.length : Int)) = true := decide_eq_true c6
              clear c6
              by_cases c7 : (!(((rd_T58 l0 x5_1).f0) == ((rd_T58 l1 x5_1).f0)) || (!(((rd_T58 l0 x5_1).f1) == ((rd_T58 l1 x5_1).f1)))) = true
              · rw [if_pos c7] at H
                have c7b0 : (!(((rd_T58 l0 x5_1).f0) == ((rd_T58 l1 x5_1).f0)) || (!(((rd_T58 l0 x5_1).f1) == ((rd_T58 l1 x5_1).f1)))) = true := c7
                clear c7
                obtain rfl := Option.some.inj H
                have p236 : 0 ≤ (x5_1 : Int) := of_decide_eq_true (by first | (with_reducible assumption) | assumption)
                have q236 : x5_1 < (l0.length : Int) := of_decide_eq_true (by first | (with_reducible assumption) | assumption)
                obtain ⟨ad236, e236, hx236_0, hx236_1⟩ := at_T58 HR0.out x5_1 p236 q236
                cases e236
                replace p236 := eq_true p236
                replace q236 := eq_true q236
                have p237 : 0 ≤ (x5_1 : Int) := of_decide_eq_true (by first | (with_reducible assumption) | assumption)
                have q237 : x5_1 < (l1.length : Int) := of_decide_eq_true (by first | (with_reducible assumption) | assumption)
                obtain ⟨ad237, e237, hx237_0, hx237_1⟩ := at_T58 HR1.out x5_1 p237 q237
                cases e237
                replace p237 := eq_true p237
                replace q237 := eq_true q237
                go_wp2
                repeat (go_quiet (fail); try go_wp2)
                go_ret
                exact ⟨by first | rfl | (simp; done) | (simp [*]; done), by repeat (first | exact Drawn0.refl _ | apply Drawn0.step)⟩
              · rw [if_neg c7] at H
                have c7b0 : (!(((rd_T58 l0 x5_1).f0) == ((rd_T58 l1 x5_1).f0)) || (!(((rd_T58 l0 x5_1).f1) == ((rd_T58 l1 x5_1).f1)))) = false := by simpa using c7
                clear c7
                have H' := Aside0.mk H
                clear H
                have p236 : 0 ≤ (x5_1 : Int) := of_decide_eq_true (by first | (with_reducible assumption) | assumption)
                have q236 : x5_1 < (l0.length : Int) := of_decide_eq_true (by first | (with_reducible assumption) | assumption)
                obtain ⟨ad236, e236, hx236_0, hx236_1⟩ := at_T58 HR0.out x5_1 p236 q236
                cases e236
                replace p236 := eq_true p236
                replace q236 := eq_true q236
                have p237 : 0 ≤ (x5_1 : Int) := of_decide_eq_true (by first | (with_reducible assumption) | assumption)
                have q237 : x5_1 < (l1.length : Int) := of_decide_eq_true (by first | (with_reducible assumption) | assumption)
                obtain ⟨ad237, e237, hx237_0, hx237_1⟩ := at_T58 HR1.out x5_1 p237 q237
                cases e237
                replace p237 := eq_true p237
                replace q237 := eq_true q237
                go_wp2
                repeat (go_quiet (fail); try go_wp2)
                go_roundg k1
                case measure => have := HK1.out; omega
                case rel => exact ⟨(wrap64 (x5_1 + 1)), (by first | rfl | (simp; done) | (simp [*]; done)), H', ⟨by have := HK1.out; omega⟩, by repeat (first | exact Drawn0.refl _ | apply Drawn0.step)⟩
            · rw [if_neg c6] at H
              exact absurd H (by simp)
          · rw [if_neg c5] at H
            exact absurd H (by simp)
        · rw [if_neg c4] at H
          have c4b0 : decide (x5_1 < (l0.length : Int)) = false := decide_eq_false c4
          clear c4
          obtain rfl := Option.some.inj H
          go_wp2
          repeat (go_quiet (fail); try go_wp2)
          go_ret
          exact ⟨by first | rfl | (simp; done) | (simp [*]; done), by repeat (first | exact Drawn0.refl _ | apply Drawn0.step)⟩
  · rw [if_neg c3] at H
    have c3b0 : ((l0.length : Int) == (l1.length : Int)) = false := beq_eq_false_iff_ne.mpr c3
    have c3b1 : ((l0.length : Int) != (l1.length : Int)) = true := bne_iff_ne.mpr c3
    have c3b2 : (l0.length == l1.length) = false := by first | simpa using c3 | (simp at c3 ⊢; omega)
    obtain rfl := Option.some.inj H
    go_enter Try.func20, Try.ntmps20
    go_wp2
    repeat (go_quiet (fail); try go_wp2)
    go_ret
    exact ⟨by first | rfl | (simp; done) | (simp [*]; done), by repeat (first | exact Drawn0.refl _ | apply Drawn0.step)⟩

end Go.Proofs.Yteeegomdaebobaa.PA

-- ---- Usp
/- Lists of parts that are one. No program in sight. -/
namespace Go.Proofs.Yteeegomdaebobaa.PA
set_option maxRecDepth 100000
set_option linter.unusedVariables false
set_option linter.unusedSimpArgs false
open Go.RowKit Go.Proofs.YteeegomdaebobaaW.PrintWords Go.Proofs.YteeegomdaebobaaW.PrintLast Go.Proofs.YteeegomdaebobaaW.PrintMore

theorem samep_l0 (ps : List S58) (hl : ps.length ≤ 1000000) : ∀ (d i : Nat), i + d = ps.length → Ev (fun k => wringerref7_SameParts.l0 k ps ps (i : Int)) true := by
  intro d
  induction d with
  | zero =>
    intro i hi
    exact Ev.step (f := fun _ => some true) (fun k => by simp only [wringerref7_SameParts.l0]; rw [if_neg (by omega)]) (Ev.now _)
  | succ d ih =>
    intro i hi
    refine Ev.step (f := fun k => wringerref7_SameParts.l0 k ps ps ((i + 1 : Nat) : Int)) (fun k => ?_) (ih (i + 1) (by omega))
    simp only [wringerref7_SameParts.l0]
    rw [if_pos (by omega), if_pos (by omega), if_pos (by omega), if_neg (by simp), w64 (by omega) (by omega)]; rfl
theorem samep_self (ps : List S58) (hl : ps.length ≤ 1000000) : Ev (fun k => wringerref7_SameParts.f k ps ps) true := by
  unfold wringerref7_SameParts.f
  exact Ev.ite_pos rfl (samep_l0 ps hl ps.length 0 (by omega))
end Go.Proofs.Yteeegomdaebobaa.PA

-- ---- Sd
/- states.coder.put: what it does to the coder. Conditions: those that the theorem names. -/
namespace Go.Proofs.Yteeegomdaebobaa.St
set_option maxRecDepth 100000
set_option linter.unusedSimpArgs false
set_option linter.unusedVariables false
open Go.RowKit Mix _root_.Go.Proofs.Yteeegomdaebobaa.Own Nl Sp
attribute [local go_sem] Own.max_int Own.min_int

theorem Co.belowP {B : Nat} {w w' : World} {p : Nat} {cs : Array Value} {tv : Value} {T : List (Int × Int × Int)} {R : List (Value × List Nat)} {lv : Value} {ns : List Nat} {vv : Value} {vs : List Nat} (h : Co B w p cs tv T R lv ns vv vs)
    (hc : Chg (fun k => k = p ∨ some k = vv.ownBlock ∨ some k = lv.ownBlock) w w') : Below B w w' := hc.below h.sz fun k hk e => by
  have h1 := h.pB
  rcases e with e | e | e
  · omega
  · have := h.vB k e.symm; omega
  · have := h.lB k e.symm; omega
theorem Co.notP {B : Nat} {w : World} {p : Nat} {cs : Array Value} {tv : Value} {T : List (Int × Int × Int)} {R : List (Value × List Nat)} {lv : Value} {ns : List Nat} {vv : Value} {vs : List Nat} (h : Co B w p cs tv T R lv ns vv vs)
    {b : Nat} {ds : Array Value} {t : TypeId} (hb : Blk w b ds t) (h1 : t ≠ 79) (h2 : (56 : TypeId) ≠ t) (h3 : (3 : TypeId) ≠ t) : ¬ (b = p ∨ some b = vv.ownBlock ∨ some b = lv.ownBlock) := by
  rintro (e | e | e)
  · exact hb.ne h.blk h1 e
  · exact h.vals.ne hb h2 e.symm
  · exact h.lens.ne hb h3 e.symm

set_option maxHeartbeats 8000000 in
theorem cput_calls (B p : Nat) (tv : Value) (T : List (Int × Int × Int)) (R : List (Value × List Nat)) (st : Nat) (lv : Value) (ns : List Nat) (vv : Value) (vs : List Nat) (x n : Nat) (w : World) (h : Co B w p (coC tv R st vv lv) tv T R lv ns vv vs) (hx : x < 9223372036854775808) (hvs : vs.length < 100000) (hns : ns.length < 100000) :
    Calls Try.prog 30 #[.pointer (some ⟨p, 0, none⟩), .int .i64 (x : Int), .int .i64 (n : Int)] w fun e w' => e = .returned (.tuple #[]) ∧ ∃ vv' lv', Co B w' p (coC tv R st vv' lv') tv T R lv' (ns ++ [n]) vv' (vs ++ [x]) ∧ Chg (fun k => k = p ∨ some k = vv.ownBlock ∨ some k = lv.ownBlock) w w' := by
  obtain ⟨iU, hiU, hU0, hU1, hU2⟩ := info_partsS infoU64
  obtain ⟨iI, hiI, hI0, hI1, hI2⟩ := info_partsS infoInt
  obtain ⟨t66, t67, t68⟩ := coC_tail (tv := tv) (st := st) (vv := vv) (lv := lv) h.len
  have c67 := h.blk.cell t67
  have c68 := h.blk.cell t68
  have ewr : IntKind.u64.wrap (x : Int) = (x : Int) := by rw [IntKind.wrap_u64]; omega
  have H := kept h
  have HX := kept hx
  have HVs := kept hvs
  have HNs := kept hns
  clear h t66 t67 t68 hx hvs hns
  go_enter Try.func30, Try.ntmps30
  refine wp_region_ordW [0,1,2,3,4,6,7,10,11,12,14] [5,13] [9] (.fork 8 (.fork 9 (.pre [15] (.chain [16,17,18,19,20,21,22])) 15 (.pre [9] (.chain [16,17,18,19,20,21,22]))) 15 (.pre [8] (.pre [9] (.chain [16,17,18,19,20,21,22])))) (fun w' => ∃ n : Kp w p, w' = n.w) (by kernel_rfl) (by kernel_rfl) kp_below (kp_drew w p) ?_
  intro K hK
  simp only [pick, List.filterMap_cons, List.filterMap_nil, List.getElem?_cons_zero, List.getElem?_cons_succ]
  have k67 := kp_cell c67
  have k68 := kp_cell c68
  iterate 11 (show wpQuiet _ _ _ _ (_ :: _) _; go_big_quiet_step (fail))
  refine wpQuiet_nil ?_
  iterate 2 (show wpQuiet _ _ _ _ (_ :: _) _; go_big_quiet_step (fail))
  refine wpQuiet_nil ?_
  have HCd := kept (H.out.later (show Below w.heap.size w w.drew from (Below.refl _ _).drew))
  have HBd : Kept (Chg (fun k => k = p ∨ some k = vv.ownBlock ∨ some k = lv.ownBlock) w w.drew) := kept (Chg.drew _ _)
  clear k67 k68 c67 c68
  generalize w.drew = w0 at HCd HBd ⊢
  unfold wpOrdW
  simp only [pick, List.filterMap_cons, List.filterMap_nil, List.getElem?_cons_zero, List.getElem?_cons_succ]
  refine (show _ ∧ _ from ⟨?_, ?_⟩)
  · generalize hT : wpOrdW _ _ _ _ _ K _ = T
    have HT := kept hT
    clear hT
    show wpList _ _ _ [_] _ _
    go_wp2_with fail
    obtain ⟨w1, hw1⟩ : ∃ w_, w_ = World.alloc w0 (.cells #[.int .u64 (x : Int)] 56) := ⟨_, rfl⟩
    obtain ⟨g1, hg1⟩ : ∃ g, g = w0.heap.size := ⟨_, rfl⟩
    have hb1 : Below w0.heap.size w0 w1 := by rw [hw1]; exact (Below.refl _ _).alloc (Nat.le_refl _) _
    have HU1 : Kept (Blk w1 g1 #[.int .u64 (x : Int)] 56) := kept (by rw [hw1, hg1]; exact Blk.fresh _ _ _)
    have HC1 := kept (HCd.out.later hb1)
    have HB1 := kept (HBd.out.trans (Chg.of_below (S := fun _ => False) hb1) (fun _ _ h => h.elim))
    rw [← hw1, ← hg1]
    clear hw1 hg1 hb1
    refine (show _ ∧ _ from ⟨fun h => by simp at h, ?_⟩)
    show T _ _
    rw [← HT.out]
    clear HT T
    unfold wpOrdW
    simp only [pick, List.filterMap_cons, List.filterMap_nil, List.getElem?_cons_zero, List.getElem?_cons_succ]
    refine (show _ ∧ _ from ⟨?_, ?_⟩)
    · generalize hT : wpOrdW _ _ _ _ _ K _ = T
      have HT := kept hT
      clear hT
      show wpList _ _ _ [_] _ _
      have HN2 := kept (one_news HU1.out)
      refine wpList_app rfl _ _ 77 rfl 56 iU (.int .u64 0) 8 Try.underlying77 hiU hU0 hU1 hU2 rfl vv _ rfl HC1.out.vals ⟨g1, 0, none⟩ _ _ [.int .u64 (x : Int)] rfl rfl HN2.out ?_ ?_ ?_ ?_
      · intro u hu; simp at hu; subst hu; rfl
      · rw [len_nums]; simp [maxLen]; have := HVs.out; omega
      · rw [len_nums]; have := HVs.out; omega
      intro v2 w2 O2 C2 F2
      rw [← nums_snoc] at O2
      obtain ⟨a2, c2, ev, _⟩ := O2.slice
      rw [len_nums, List.length_append, List.length_singleton] at ev
      subst ev
      have HC2 := kept (HC1.out.turnV C2 O2 F2)
      have HB2 := kept (HB1.out.trans C2 (fun _ _ h => .inr (.inl h)))
      clear O2 C2 F2 HN2
      refine (show _ ∧ _ from ⟨fun _ => kp_of H.out.blk HC2.out.blk, ?_⟩)
      show T _ _
      rw [← HT.out]
      clear HT T
      unfold wpOrdW
      simp only [pick, List.filterMap_cons, List.filterMap_nil, List.getElem?_cons_zero, List.getElem?_cons_succ]
      refine (show _ ∧ _ from ⟨by first | rfl | trivial, ?_⟩)
      generalize hT : wpOrdW _ _ _ _ _ K _ = T
      have HT := kept hT
      clear hT
      show wpList _ _ _ [_] _ _
      go_wp2_with fail
      obtain ⟨w3, hw3⟩ : ∃ w_, w_ = World.alloc w2 (.cells #[.int .i64 (n : Int)] 3) := ⟨_, rfl⟩
      obtain ⟨g3, hg3⟩ : ∃ g, g = w2.heap.size := ⟨_, rfl⟩
      have hb3 : Below w2.heap.size w2 w3 := by rw [hw3]; exact (Below.refl _ _).alloc (Nat.le_refl _) _
      have HI3 : Kept (Blk w3 g3 #[.int .i64 (n : Int)] 3) := kept (by rw [hw3, hg3]; exact Blk.fresh _ _ _)
      have HC3 := kept (HC2.out.later hb3)
      have HB3 := kept (HB2.out.trans (Chg.of_below (S := fun _ => False) hb3) (fun _ _ h => h.elim))
      rw [← hw3, ← hg3]
      clear hw3 hg3 hb3
      refine (show _ ∧ _ from ⟨fun h => by simp at h, ?_⟩)
      show T _ _
      rw [← HT.out]
      clear HT T
      unfold wpOrdW
      simp only [pick, List.filterMap_cons, List.filterMap_nil, List.getElem?_cons_zero, List.getElem?_cons_succ]
      have HN4 := kept (one_news HI3.out)
      refine wpList_app rfl _ _ 28 rfl 3 iI (.int .i64 0) 8 Try.underlying28 hiI hI0 hI1 hI2 rfl lv _ rfl HC3.out.lens ⟨g3, 0, none⟩ _ _ [.int .i64 (n : Int)] rfl rfl HN4.out ?_ ?_ ?_ ?_
      · intro u hu; simp at hu; subst hu; rfl
      · rw [len_nums]; simp [maxLen]; have := HNs.out; omega
      · rw [len_nums]; have := HNs.out; omega
      intro v4 w4 O4 C4 F4
      rw [← nums_snoc] at O4
      obtain ⟨a4, c4, ev, _⟩ := O4.slice
      rw [len_nums, List.length_append, List.length_singleton] at ev
      subst ev
      have HC4 := kept (HC3.out.turnL C4 O4 F4)
      have HB4 := kept (HB3.out.trans C4 (fun _ _ h => .inr (.inr h)))
      clear O4 C4 F4 HN4
      have q67 := HC4.out.blk.cell (coC_tail (tv := tv) (st := st) (vv := vv) (lv := lv) HC4.out.len).2.1
      have q68 := HC4.out.blk.cell (coC_tail (tv := tv) (st := st) (vv := vv) (lv := lv) HC4.out.len).2.2
      have f67 := HC4.out.blk.free 67
      have f68 := HC4.out.blk.free 68
      have hs1 := HC4.out.store 67 (.slice a2 (vs.length + 1) c2)
      rw [coC_setV HC4.out.len] at hs1
      have hb1 := Chg.setCell w4 ⟨p, 67, none⟩ (.slice a2 (vs.length + 1) c2)
      have hs2 := hs1.store 68 (.slice a4 (ns.length + 1) c4)
      rw [coC_setL HC4.out.len] at hs2
      have hb2 := Chg.setCell (World.setCell w4 ⟨p, 67, none⟩ (.slice a2 (vs.length + 1) c2)) ⟨p, 68, none⟩ (.slice a4 (ns.length + 1) c4)
      have HS2 := kept hs2
      have HB2 := kept ((HB4.out.trans hb1 (fun _ _ h => .inl h)).trans hb2 (fun _ _ h => .inl h))
      clear hs1 hs2 hb1 hb2
      go_wp2_with fail
      refine hK _ _ ?_
      go_wp2_with fail
      go_end0
      exact ⟨rfl, _, _, HS2.out, HB2.out⟩
    · generalize hT : wpOrdW _ _ _ _ _ K _ = T
      have HT := kept hT
      clear hT
      show wpList _ _ _ [_] _ _
      go_wp2_with fail
      obtain ⟨w5, hw5⟩ : ∃ w_, w_ = World.alloc w1 (.cells #[.int .i64 (n : Int)] 3) := ⟨_, rfl⟩
      obtain ⟨g5, hg5⟩ : ∃ g, g = w1.heap.size := ⟨_, rfl⟩
      have hb5 : Below w1.heap.size w1 w5 := by rw [hw5]; exact (Below.refl _ _).alloc (Nat.le_refl _) _
      have HI5 : Kept (Blk w5 g5 #[.int .i64 (n : Int)] 3) := kept (by rw [hw5, hg5]; exact Blk.fresh _ _ _)
      have HU5 := kept ((hb5.block _ (Blk.lt HU1.out)).trans HU1.out)
      have HC5 := kept (HC1.out.later hb5)
      have HB5 := kept (HB1.out.trans (Chg.of_below (S := fun _ => False) hb5) (fun _ _ h => h.elim))
      rw [← hw5, ← hg5]
      clear hw5 hg5 hb5
      refine (show _ ∧ _ from ⟨fun h => by simp at h, ?_⟩)
      show T _ _
      rw [← HT.out]
      clear HT T
      unfold wpOrdW
      simp only [pick, List.filterMap_cons, List.filterMap_nil, List.getElem?_cons_zero, List.getElem?_cons_succ]
      refine (show _ ∧ _ from ⟨by first | rfl | trivial, ?_⟩)
      generalize hT : wpOrdW _ _ _ _ _ K _ = T
      have HT := kept hT
      clear hT
      show wpList _ _ _ [_] _ _
      have HN6 := kept (one_news HU5.out)
      refine wpList_app rfl _ _ 77 rfl 56 iU (.int .u64 0) 8 Try.underlying77 hiU hU0 hU1 hU2 rfl vv _ rfl HC5.out.vals ⟨g1, 0, none⟩ _ _ [.int .u64 (x : Int)] rfl rfl HN6.out ?_ ?_ ?_ ?_
      · intro u hu; simp at hu; subst hu; rfl
      · rw [len_nums]; simp [maxLen]; have := HVs.out; omega
      · rw [len_nums]; have := HVs.out; omega
      intro v6 w6 O6 C6 F6
      rw [← nums_snoc] at O6
      obtain ⟨a6, c6, ev, _⟩ := O6.slice
      rw [len_nums, List.length_append, List.length_singleton] at ev
      subst ev
      have HC6 := kept (HC5.out.turnV C6 O6 F6)
      have HB6 := kept (HB5.out.trans C6 (fun _ _ h => .inr (.inl h)))
      have HI6 : Kept (Blk w6 g5 #[.int .i64 (n : Int)] 3) := kept (C6.keep HI5.out (fun e => HC5.out.vals.ne HI5.out (by decide) e.symm))
      clear O6 C6 F6 HN6
      refine (show _ ∧ _ from ⟨fun _ => kp_of H.out.blk HC6.out.blk, ?_⟩)
      show T _ _
      rw [← HT.out]
      clear HT T
      unfold wpOrdW
      simp only [pick, List.filterMap_cons, List.filterMap_nil, List.getElem?_cons_zero, List.getElem?_cons_succ]
      have HN7 := kept (one_news HI6.out)
      refine wpList_app rfl _ _ 28 rfl 3 iI (.int .i64 0) 8 Try.underlying28 hiI hI0 hI1 hI2 rfl lv _ rfl HC6.out.lens ⟨g5, 0, none⟩ _ _ [.int .i64 (n : Int)] rfl rfl HN7.out ?_ ?_ ?_ ?_
      · intro u hu; simp at hu; subst hu; rfl
      · rw [len_nums]; simp [maxLen]; have := HNs.out; omega
      · rw [len_nums]; have := HNs.out; omega
      intro v7 w7 O7 C7 F7
      rw [← nums_snoc] at O7
      obtain ⟨a7, c7, ev, _⟩ := O7.slice
      rw [len_nums, List.length_append, List.length_singleton] at ev
      subst ev
      have HC7 := kept (HC6.out.turnL C7 O7 F7)
      have HB7 := kept (HB6.out.trans C7 (fun _ _ h => .inr (.inr h)))
      clear O7 C7 F7 HN7
      have q67 := HC7.out.blk.cell (coC_tail (tv := tv) (st := st) (vv := vv) (lv := lv) HC7.out.len).2.1
      have q68 := HC7.out.blk.cell (coC_tail (tv := tv) (st := st) (vv := vv) (lv := lv) HC7.out.len).2.2
      have f67 := HC7.out.blk.free 67
      have f68 := HC7.out.blk.free 68
      have hs1 := HC7.out.store 67 (.slice a6 (vs.length + 1) c6)
      rw [coC_setV HC7.out.len] at hs1
      have hb1 := Chg.setCell w7 ⟨p, 67, none⟩ (.slice a6 (vs.length + 1) c6)
      have hs2 := hs1.store 68 (.slice a7 (ns.length + 1) c7)
      rw [coC_setL HC7.out.len] at hs2
      have hb2 := Chg.setCell (World.setCell w7 ⟨p, 67, none⟩ (.slice a6 (vs.length + 1) c6)) ⟨p, 68, none⟩ (.slice a7 (ns.length + 1) c7)
      have HS2 := kept hs2
      have HB2 := kept ((HB7.out.trans hb1 (fun _ _ h => .inl h)).trans hb2 (fun _ _ h => .inl h))
      clear hs1 hs2 hb1 hb2
      go_wp2_with fail
      refine hK _ _ ?_
      go_wp2_with fail
      go_end0
      exact ⟨rfl, _, _, HS2.out, HB2.out⟩
  · generalize hT : wpOrdW _ _ _ _ _ K _ = T
    have HT := kept hT
    clear hT
    show wpList _ _ _ [_] _ _
    go_wp2_with fail
    obtain ⟨w8, hw8⟩ : ∃ w_, w_ = World.alloc w0 (.cells #[.int .i64 (n : Int)] 3) := ⟨_, rfl⟩
    obtain ⟨g8, hg8⟩ : ∃ g, g = w0.heap.size := ⟨_, rfl⟩
    have hb8 : Below w0.heap.size w0 w8 := by rw [hw8]; exact (Below.refl _ _).alloc (Nat.le_refl _) _
    have HI8 : Kept (Blk w8 g8 #[.int .i64 (n : Int)] 3) := kept (by rw [hw8, hg8]; exact Blk.fresh _ _ _)
    have HC8 := kept (HCd.out.later hb8)
    have HB8 := kept (HBd.out.trans (Chg.of_below (S := fun _ => False) hb8) (fun _ _ h => h.elim))
    rw [← hw8, ← hg8]
    clear hw8 hg8 hb8
    refine (show _ ∧ _ from ⟨fun h => by simp at h, ?_⟩)
    show T _ _
    rw [← HT.out]
    clear HT T
    unfold wpOrdW
    simp only [pick, List.filterMap_cons, List.filterMap_nil, List.getElem?_cons_zero, List.getElem?_cons_succ]
    refine (show _ ∧ _ from ⟨by first | rfl | trivial, ?_⟩)
    generalize hT : wpOrdW _ _ _ _ _ K _ = T
    have HT := kept hT
    clear hT
    show wpList _ _ _ [_] _ _
    go_wp2_with fail
    obtain ⟨w9, hw9⟩ : ∃ w_, w_ = World.alloc w8 (.cells #[.int .u64 (x : Int)] 56) := ⟨_, rfl⟩
    obtain ⟨g9, hg9⟩ : ∃ g, g = w8.heap.size := ⟨_, rfl⟩
    have hb9 : Below w8.heap.size w8 w9 := by rw [hw9]; exact (Below.refl _ _).alloc (Nat.le_refl _) _
    have HU9 : Kept (Blk w9 g9 #[.int .u64 (x : Int)] 56) := kept (by rw [hw9, hg9]; exact Blk.fresh _ _ _)
    have HI9 := kept ((hb9.block _ (Blk.lt HI8.out)).trans HI8.out)
    have HC9 := kept (HC8.out.later hb9)
    have HB9 := kept (HB8.out.trans (Chg.of_below (S := fun _ => False) hb9) (fun _ _ h => h.elim))
    rw [← hw9, ← hg9]
    clear hw9 hg9 hb9
    refine (show _ ∧ _ from ⟨fun h => by simp at h, ?_⟩)
    show T _ _
    rw [← HT.out]
    clear HT T
    unfold wpOrdW
    simp only [pick, List.filterMap_cons, List.filterMap_nil, List.getElem?_cons_zero, List.getElem?_cons_succ]
    refine (show _ ∧ _ from ⟨by first | rfl | trivial, ?_⟩)
    generalize hT : wpOrdW _ _ _ _ _ K _ = T
    have HT := kept hT
    clear hT
    show wpList _ _ _ [_] _ _
    have HN10 := kept (one_news HU9.out)
    refine wpList_app rfl _ _ 77 rfl 56 iU (.int .u64 0) 8 Try.underlying77 hiU hU0 hU1 hU2 rfl vv _ rfl HC9.out.vals ⟨g9, 0, none⟩ _ _ [.int .u64 (x : Int)] rfl rfl HN10.out ?_ ?_ ?_ ?_
    · intro u hu; simp at hu; subst hu; rfl
    · rw [len_nums]; simp [maxLen]; have := HVs.out; omega
    · rw [len_nums]; have := HVs.out; omega
    intro v10 w10 O10 C10 F10
    rw [← nums_snoc] at O10
    obtain ⟨a10, c10, ev, _⟩ := O10.slice
    rw [len_nums, List.length_append, List.length_singleton] at ev
    subst ev
    have HC10 := kept (HC9.out.turnV C10 O10 F10)
    have HB10 := kept (HB9.out.trans C10 (fun _ _ h => .inr (.inl h)))
    have HI10 : Kept (Blk w10 g8 #[.int .i64 (n : Int)] 3) := kept (C10.keep HI9.out (fun e => HC9.out.vals.ne HI9.out (by decide) e.symm))
    clear O10 C10 F10 HN10
    refine (show _ ∧ _ from ⟨fun _ => kp_of H.out.blk HC10.out.blk, ?_⟩)
    show T _ _
    rw [← HT.out]
    clear HT T
    unfold wpOrdW
    simp only [pick, List.filterMap_cons, List.filterMap_nil, List.getElem?_cons_zero, List.getElem?_cons_succ]
    have HN11 := kept (one_news HI10.out)
    refine wpList_app rfl _ _ 28 rfl 3 iI (.int .i64 0) 8 Try.underlying28 hiI hI0 hI1 hI2 rfl lv _ rfl HC10.out.lens ⟨g8, 0, none⟩ _ _ [.int .i64 (n : Int)] rfl rfl HN11.out ?_ ?_ ?_ ?_
    · intro u hu; simp at hu; subst hu; rfl
    · rw [len_nums]; simp [maxLen]; have := HNs.out; omega
    · rw [len_nums]; have := HNs.out; omega
    intro v11 w11 O11 C11 F11
    rw [← nums_snoc] at O11
    obtain ⟨a11, c11, ev, _⟩ := O11.slice
    rw [len_nums, List.length_append, List.length_singleton] at ev
    subst ev
    have HC11 := kept (HC10.out.turnL C11 O11 F11)
    have HB11 := kept (HB10.out.trans C11 (fun _ _ h => .inr (.inr h)))
    clear O11 C11 F11 HN11
    have q67 := HC11.out.blk.cell (coC_tail (tv := tv) (st := st) (vv := vv) (lv := lv) HC11.out.len).2.1
    have q68 := HC11.out.blk.cell (coC_tail (tv := tv) (st := st) (vv := vv) (lv := lv) HC11.out.len).2.2
    have f67 := HC11.out.blk.free 67
    have f68 := HC11.out.blk.free 68
    have hs1 := HC11.out.store 67 (.slice a10 (vs.length + 1) c10)
    rw [coC_setV HC11.out.len] at hs1
    have hb1 := Chg.setCell w11 ⟨p, 67, none⟩ (.slice a10 (vs.length + 1) c10)
    have hs2 := hs1.store 68 (.slice a11 (ns.length + 1) c11)
    rw [coC_setL HC11.out.len] at hs2
    have hb2 := Chg.setCell (World.setCell w11 ⟨p, 67, none⟩ (.slice a10 (vs.length + 1) c10)) ⟨p, 68, none⟩ (.slice a11 (ns.length + 1) c11)
    have HS2 := kept hs2
    have HB2 := kept ((HB11.out.trans hb1 (fun _ _ h => .inl h)).trans hb2 (fun _ _ h => .inl h))
    clear hs1 hs2 hb1 hb2
    go_wp2_with fail
    refine hK _ _ ?_
    go_wp2_with fail
    go_end0
    exact ⟨rfl, _, _, HS2.out, HB2.out⟩
end Go.Proofs.Yteeegomdaebobaa.St

-- ---- Sg
/- states.coder.forth: the state from which one comes here. Conditions: those that each theorem names. -/
namespace Go.Proofs.Yteeegomdaebobaa.St
set_option maxRecDepth 100000
set_option linter.unusedSimpArgs false
set_option linter.unusedVariables false
open Go.RowKit Mix _root_.Go.Proofs.Yteeegomdaebobaa.Own Nl Sp Go.Sort
attribute [local go_sem] Own.max_int Own.min_int

/-- What a comparison looks at: the coder by a box, its table, the places' states. -/
structure Look (w : World) (bx p gt ct N : Nat) (S : Nat → Nat) : Prop where
  box : w.cell? ⟨bx, 0, none⟩ = some (.pointer (some ⟨p, 0, none⟩))
  tab : w.cell? ⟨p, 0, none⟩ = some (.slice (some ⟨gt, 0, none⟩) N ct)
  at_ : ∀ j, j < N → w.cell? ⟨gt, j * 3 + 2, none⟩ = some (.int .i64 (S j : Int))
theorem Look.chg {w w' : World} {bx p gt ct N : Nat} {S : Nat → Nat} {D : Nat → Prop} (h : Look w bx p gt ct N S) (hc : Chg D w w') (h1 : ¬ D bx) (h2 : ¬ D p) (h3 : ¬ D gt) : Look w' bx p gt ct N S :=
  have f : ∀ (a : Addr) v, w.cell? a = some v → ¬ D a.block → w'.cell? a = some v := fun a v hv hn => (World.cell?_of_block (w := w) (a := a) (hc.block a.block (World.block_lt_of_cell? w a hv) hn)).trans hv
  ⟨f _ _ h.box h1, f _ _ h.tab h2, fun j hj => f _ _ (h.at_ j hj) h3⟩

set_option maxHeartbeats 1000000 in
theorem fcmp_calls (bx p gt ct N : Nat) (S : Nat → Nat) (x s : Nat) (w : World) (h : Look w bx p gt ct N S) (hx : x < N) (hN : N ≤ 4096) (hS : S x ≤ 4096) (hs : s ≤ 4096) :
    Calls Try.prog 60 #[.int .i64 (x : Int), .int .i64 (s : Int), .pointer (some ⟨bx, 0, none⟩)] w fun e w' => e = .returned (.int .i64 ((S x : Int) - (s : Int))) ∧ w' = w := by
  have c0 := h.box
  have c1 := h.tab
  have c2 := h.at_ x hx
  have ew : wrap64 ((S x : Int) - (s : Int)) = (S x : Int) - (s : Int) := by unfold wrap64; omega
  clear h
  go_enter Try.func60, Try.ntmps60
  go_wp2_with fail
  go_ret
  exact ⟨rfl, rfl⟩
theorem fcmp_lays (bx p gt ct K m s : Nat) (l : List Int) (blk off size : Nat) (w : World) (h : Look w bx p gt ct (K + 1) (tS l m)) (hK : K + 1 = 2 ^ m) (hM : MayS l m) (hs : s < 2 ^ m) (h1 : bx ≠ blk) (h2 : p ≠ blk) (h3 : gt ≠ blk) :
    CmpLaysT Try.prog 60 #[.pointer (some ⟨bx, 0, none⟩)] (encF K) (.int .i64 (s : Int)) (fun x => (tS l m x.val : Int) - (s : Int)) blk off size w := fun n os dk _ x => by
  have h12 : 2 ^ m ≤ 4096 := pow12 m hM.hi
  have hx := x.isLt
  have hS := tS_lt hM (show x.val < 2 ^ m by omega)
  refine (fcmp_calls bx p gt ct (K + 1) (tS l m) x.val s _ (h.chg (sortW_chg (encF K) w blk off n dk os) h1 h2 h3) hx (by omega) (by omega) (by omega)).mono ?_
  rintro e w' ⟨rfl, rfl⟩
  exact ⟨rfl, 0, #[], by rw [grow_empty]; rfl⟩
end Go.Proofs.Yteeegomdaebobaa.St

-- ---- Ss
/- The place of a class from which one comes to a state: what the library's search tells. Conditions: those that the theorem names. -/
namespace Go.Proofs.Yteeegomdaebobaa.St
set_option maxRecDepth 100000
set_option linter.unusedSimpArgs false
set_option linter.unusedVariables false
open Go.RowKit Mix _root_.Go.Proofs.Yteeegomdaebobaa.Own Nl Sp Go.Sort

theorem finR_count (K : Nat) (xs : List Nat) (hx : ∀ x ∈ xs, x < K + 1) (S : Nat → Nat) (s : Nat) : (finR K xs).toList.countP (fun x => decide ((S x.val : Int) - (s : Int) < 0)) = xs.countP fun x => decide (S x < s) := by
  unfold finR
  rw [List.toList_toArray, List.countP_map]
  refine List.countP_congr fun x hm => ?_
  have h := hx x hm
  simp only [Function.comp, decide_eq_true_eq]
  have e : (Fin.ofNat (K + 1) x).val = x := by simp [Fin.ofNat, Nat.mod_eq_of_lt h]
  rw [e]; omega
theorem pair_le {S : Nat → Nat} {xs : List Nat} (h : xs.Pairwise fun x y => S x < S y) {a b : Nat} (hab : a ≤ b) (hb : b < xs.length) : S (xs.getD a 0) ≤ S (xs.getD b 0) := by
  rcases Nat.lt_or_ge a b with h1 | h1
  · have := List.pairwise_iff_getElem.1 h a b (by omega) hb h1
    simp only [List.getD_eq_getElem?_getD, List.getElem?_eq_getElem hb, List.getElem?_eq_getElem (show a < xs.length by omega), Option.getD_some]
    omega
  · rw [show a = b by omega]; exact Nat.le_refl _

/-- What a search answers: the place is there, or the one ahead of it is. -/
def Found (xs : List Nat) (f : Nat) (e : Ending) : Prop :=
  (∃ i, i < xs.length ∧ xs.getD i 0 = f ∧ e = .returned (.tuple #[.int .i64 (i : Int), .bool true])) ∨ (∃ i, i < xs.length ∧ xs.getD i 0 = f ∧ e = .returned (.tuple #[.int .i64 ((i + 1 : Nat) : Int), .bool false]))

theorem search_calls (bx p gt ct m s c g cv : Nat) (l : List Int) (xs : List Nat) (w : World) (hL : Look w bx p gt ct (2 ^ m) (tS l m)) (hM : MayS l m) (hR : RowS l m c xs) (hc65 : c < 65) (h0 : 0 < l.getD c 0) (hs : s < 2 ^ m)
    (hO : Owns w 3 (.slice (some ⟨g, 0, none⟩) xs.length cv) (nums .i64 xs)) (h1 : bx ≠ g) (h2 : p ≠ g) (h3 : gt ≠ g) (n : Nat) (hn : n = xs.length) :
    Calls Try.prog 59 #[.slice (some ⟨g, 0, none⟩) n cv, .int .i64 (s : Int), .func (.func 60) #[] #[.pointer (some ⟨bx, 0, none⟩)]] w fun e w' => Found xs (fnd l m c s) e ∧ Below w.heap.size w w' := by
  obtain ⟨K, hK⟩ : ∃ K, K + 1 = 2 ^ m := ⟨2 ^ m - 1, by have := Nat.pow_pos (n := m) (show 0 < 2 by decide); omega⟩
  have hxb : ∀ x ∈ xs, x < K + 1 := fun x hx => by have := ((hR.mem x).1 hx).1; omega
  have hlen := hR.len
  have hcnt := finR_count K xs hxb (tS l m) s
  have hrf := row_find hM hR hc65 h0 hs _ rfl
  have hH := finR_holds hO hxb
  have hsr := Any.slices_BinarySearchFunc Sh.searchC (encF K) (one_encF K) (.int .i64 (s : Int)) (fun x => (tS l m x.val : Int) - (s : Int)) 60 #[.pointer (some ⟨bx, 0, none⟩)] g 0 cv (finR K xs) w
    (enters_of Try.func60 (by kernel_rfl) rfl) (fcmp_lays bx p gt ct K m s l g 0 (finR K xs).size w (by rw [hK]; exact hL) hK hM hs h1 h2 h3)
    hH (hO.lt g rfl) (by rw [size_finR]; omega) (fun a b hab hb hlt => by
      rw [size_finR] at hb
      have e1 := finR_at K xs a (by omega) hxb
      have e2 := finR_at K xs b hb hxb
      simp only [e1, e2] at hlt ⊢
      have := pair_le hR.up hab hb
      omega)
  rw [hcnt, size_finR, ← hn] at hsr
  obtain ⟨i, hi⟩ : ∃ i, i = xs.countP fun x => decide (tS l m x < s) := ⟨_, rfl⟩
  rw [← hi] at hsr hrf
  have hile : i ≤ xs.length := by rw [hi]; exact List.countP_le_length
  refine Calls.mono hsr ?_
  rintro e w' ⟨rfl, hsw⟩
  refine ⟨?_, sortW_same (encF K) w w' g 0 (finR K xs) hH hsw⟩
  have hiff : ∀ (hlt : i < xs.length), decide ((tS l m (finR K xs)[i]!.val : Int) - (s : Int) = 0) = decide (tS l m (xs.getD i 0) = s) := fun hlt => by
    rw [finR_at K xs i hlt hxb]
    by_cases e : tS l m (xs.getD i 0) = s
    · rw [decide_eq_true e, decide_eq_true (by omega)]
    · rw [decide_eq_false e, decide_eq_false (by omega)]
  rcases hrf with ⟨a1, a2, a3⟩ | ⟨a1, a2, a3, a4⟩
  · refine .inl ⟨i, a1, a3, ?_⟩
    rw [hiff a1, decide_eq_true a2, decide_eq_true (by omega)]; rfl
  · refine .inr ⟨i - 1, a3, a4, ?_⟩
    rw [show i - 1 + 1 = i by omega]
    by_cases hlt : i < xs.length
    · rw [hiff hlt, decide_eq_false (fun e => a1 ⟨hlt, e⟩), Bool.and_false]
    · rw [decide_eq_false (show ¬ i < n by omega), Bool.false_and]
end Go.Proofs.Yteeegomdaebobaa.St

-- ---- Sh
/- states.coder.forth: what it does to the coder. Conditions: those that the theorem names. -/
namespace Go.Proofs.Yteeegomdaebobaa.St
set_option maxRecDepth 100000
set_option linter.unusedSimpArgs false
set_option linter.unusedVariables false
open Go.RowKit Mix _root_.Go.Proofs.Yteeegomdaebobaa.Own Nl Sp Go.Sort
attribute [local go_sem] Own.max_int Own.min_int

set_option maxHeartbeats 8000000 in
theorem forth_calls (B p : Nat) (tv : Value) (l : List Int) (m : Nat) (R : List (Value × List Nat)) (st c : Nat) (lv : Value) (ns : List Nat) (vv : Value) (vs : List Nat) (v : Value) (xs : List Nat) (w : World) (h : Co B w p (coC tv R st vv lv) tv (table l m) R lv ns vv vs)
    (hM : MayS l m) (hc : R[c]? = some (v, xs)) (hR : RowS l m c xs) (hc65 : c < 65) (h0 : 0 < l.getD c 0) (hst : st < 2 ^ m) (hvs : vs.length < 90000) (hns : ns.length < 90000) :
    Calls Try.prog 28 #[.pointer (some ⟨p, 0, none⟩), .int .i64 (c : Int)] w fun e w' => e = .returned (.tuple #[]) ∧
      ∃ vv' lv', Co B w' p (coC tv R (fnd l m c st) vv' lv') tv (table l m) R lv' (ns ++ [tB l m (fnd l m c st)]) vv' (vs ++ [st - tS l m (fnd l m c st)]) ∧ Chg (fun k => k = p ∨ some k = vv.ownBlock ∨ some k = lv.ownBlock) w w' := by
  have h12 : 2 ^ m ≤ 4096 := pow12 m hM.hi
  have hlt := length_table l m
  have hrow := h.row hc
  obtain ⟨f1, ⟨f2, f3, f4⟩, _⟩ := fnd_of hM hc65 h0 hst
  have hxs : xs ≠ [] := fun e => by
    have := (hR.mem (fnd l m c st)).2 ⟨f1, f2⟩
    rw [e] at this; cases this
  obtain ⟨av, cv, rfl, hav⟩ := hrow.slice
  obtain ⟨g, rfl⟩ := hav (fun e => by have := congrArg List.length e; rw [len_nums] at this; exact hxs (List.length_eq_zero_iff.1 this))
  rw [len_nums] at hrow hc
  obtain ⟨gt, ct, htv⟩ : ∃ gt ct, tv = .slice (some ⟨gt, 0, none⟩) (2 ^ m) ct := by
    have ht := h.tab
    rw [hlt] at ht
    obtain ⟨a, ct, e, _, _, hg⟩ := ht.slice
    obtain ⟨gt, rfl⟩ := hg (Nat.pow_pos (by decide))
    exact ⟨gt, ct, e⟩
  subst htv
  have htab : OwnK w 105 3 (.slice (some ⟨gt, 0, none⟩) (2 ^ m) ct) (2 ^ m) ((table l m).flatMap cV) := by have := h.tab; rwa [hlt] at this
  have hcells : ∀ j, j < 2 ^ m → w.cell? ⟨gt, j * 3, none⟩ = some (.int .i64 (tC l m j : Int)) ∧ w.cell? ⟨gt, j * 3 + 1, none⟩ = some (.int .i64 (tB l m j : Int)) ∧ w.cell? ⟨gt, j * 3 + 2, none⟩ = some (.int .i64 (tS l m j : Int)) := fun j hj => by
    obtain ⟨a1, a2, a3⟩ := cV_at (table l m) j (by omega)
    rw [(t_bounds hM hj).2.2.2.2] at a1 a2 a3
    exact ⟨htab.cell a1, htab.cell a2, htab.cell a3⟩
  obtain ⟨f, hf⟩ : ∃ f, f = fnd l m c st := ⟨_, rfl⟩
  rw [← hf] at f1 f2 f3 f4 ⊢
  obtain ⟨P, hP⟩ : ∃ P, P = 2 ^ m := ⟨_, rfl⟩
  have hxl : xs.length < 4611686018427387904 := by have := hR.len; omega
  obtain ⟨n, hn⟩ : ∃ n, n = xs.length := ⟨_, rfl⟩
  rw [← hn] at hxl
  have hgp : g ≠ p := fun e => hrow.ne h.blk (by decide) (by rw [e]; rfl)
  have hgt : g ≠ gt := fun e => htab.neO hrow (by decide) (g := g) rfl (by rw [e]; rfl)
  have hglt : g < w.heap.size := hrow.lt g rfl
  have hgtlt : gt < w.heap.size := htab.lt gt rfl
  have hplt : p < w.heap.size := h.blk.lt
  have cof := h.blk.cell (coC_of (tv := .slice (some ⟨gt, 0, none⟩) (2 ^ m) ct) (st := st) (vv := vv) (lv := lv) hc)
  rw [show c + 1 = 1 + c by omega, ← hn] at cof
  have ctb := h.blk.cell (coC_table (.slice (some ⟨gt, 0, none⟩) (2 ^ m) ct) R st vv lv)
  have cst := h.blk.cell (coC_tail (tv := .slice (some ⟨gt, 0, none⟩) (2 ^ m) ct) (st := st) (vv := vv) (lv := lv) h.len).1
  have H := kept h
  have HM := kept hM
  have HC := kept hc
  have HRw := kept hrow
  have HTb := kept htab
  have HCs := kept hcells
  have HFd := kept hf
  have HRs := kept hR
  have H0 := kept h0
  have HN := kept hn
  have HF := kept (show f < 2 ^ m ∧ tC l m f = c ∧ tS l m f ≤ st ∧ st < tS l m f + 2 ^ tB l m f from ⟨f1, f2, f3, f4⟩)
  have HG := kept (show (g ≠ p ∧ g ≠ gt) ∧ g < w.heap.size ∧ gt < w.heap.size ∧ p < w.heap.size from ⟨⟨hgp, hgt⟩, hglt, hgtlt, hplt⟩)
  have HSt := kept hst
  have HLn := kept (show vs.length < 90000 ∧ ns.length < 90000 ∧ n < 4611686018427387904 ∧ 2 ^ m ≤ 4096 from ⟨hvs, hns, hxl, h12⟩)
  clear h hM hc hR hrow htab hcells hf hn f1 f2 f3 f4 hgp hgt hglt hgtlt hplt hst hvs hns hxl h12 hxs hlt h0 hav cst ctb hP P
  go_enter Try.func28, Try.ntmps28
  go_upto_region 1 with fail
  obtain ⟨w1, hw1⟩ : ∃ w_, w_ = World.alloc w (.cells #[.pointer (some ⟨p, 0, none⟩)] 65) := ⟨_, rfl⟩
  obtain ⟨bx, hbx⟩ : ∃ b, b = w.heap.size := ⟨_, rfl⟩
  have hb1 : Below w.heap.size w w1 := by rw [hw1]; exact (Below.refl _ _).alloc (Nat.le_refl _) _
  have HX1 : Kept (Blk w1 bx #[.pointer (some ⟨p, 0, none⟩)] 65) := kept (by rw [hw1, hbx]; exact Blk.fresh _ _ _)
  have HC1 := kept (H.out.later hb1)
  have HB1 : Kept (Chg (fun k => k = p ∨ some k = vv.ownBlock ∨ some k = lv.ownBlock) w w1) := kept (Chg.of_below hb1)
  have HBx : Kept (w.heap.size = bx) := kept hbx.symm
  have k1 : w1.cell? ⟨bx, 0, none⟩ = some (.pointer (some ⟨p, 0, none⟩)) := HX1.out.cell rfl
  have k2 := (hb1.cell (World.block_lt_of_cell? w _ cof)).trans cof
  rw [← hw1, ← hbx]
  clear hw1 hbx hb1 cof
  go_upto_region 2 with fail
  have hlk : Look w1 bx p gt ct (2 ^ m) (tS l m) := by
    refine ⟨k1, HC1.out.blk.cell (coC_table _ _ _ _ _), fun j hj => ?_⟩
    have hb1 := (HCs.out j hj).2.2
    obtain ⟨a1, a2, a3⟩ := cV_at (table l m) j (by rw [length_table]; exact hj)
    rw [(t_bounds HM.out hj).2.2.2.2] at a3
    have ht := HC1.out.tab
    rw [length_table] at ht
    exact ht.cell a3
  have hbx : w.heap.size = bx := HBx.out
  have hg := HG.out
  have hsr := search_calls bx p gt ct m st c g cv l xs w1 hlk HM.out HRs.out hc65 H0.out HSt.out (HC1.out.row HC.out) (by omega) (by omega) (by omega) n HN.out
  rw [← HFd.out] at hsr
  have HSr := kept hsr
  have cst := HC1.out.blk.cell (coC_tail (tv := .slice (some ⟨gt, 0, none⟩) (2 ^ m) ct) (st := st) (vv := vv) (lv := lv) HC1.out.len).1
  clear hsr hlk hbx hg k2
  go_wp2_with (first | (go_at_call 59; refine HSr.out.mono ?_))
  rintro e w2 ⟨hfound, hb2⟩
  have HB2 := kept (HB1.out.trans (Chg.of_below (S := fun _ => False) hb2) (fun _ _ h => h.elim))
  have HX2 : Kept (Blk w2 bx #[.pointer (some ⟨p, 0, none⟩)] 65) := kept ((hb2.block bx HX1.out.lt).trans HX1.out)
  have HC2 := kept (HC1.out.later hb2)
  clear hb2 k1 cst HC1 HX1 HB1 HSr
  rcases hfound with ⟨i, hin, hif, rfl⟩ | ⟨i, hin, hif, rfl⟩
  all_goals (
    rw [← HN.out] at hin
    have HIn := kept (show i < n ∧ xs.getD i 0 = f from ⟨hin, hif⟩)
    have hw1 : wrap64 (i : Int) = (i : Int) := by have := HLn.out.2.2.1; unfold wrap64; omega
    clear hif
    go_upto_region 5 with fail
    try rw [hw1])
  all_goals (
    have hrowc := (HC2.out.row HC.out).cell (nums_at .i64 xs i (by rw [← HN.out]; exact HIn.out.1))
    rw [HIn.out.2] at hrowc
    have cbx := HX2.out.cell (i := 0) rfl
    have ctb := HC2.out.blk.cell (coC_table (.slice (some ⟨gt, 0, none⟩) (2 ^ m) ct) R st vv lv)
    have htab2 := HC2.out.tab
    rw [length_table] at htab2
    obtain ⟨a1, a2, a3⟩ := cV_at (table l m) f (by rw [length_table]; exact HF.out.1)
    rw [(t_bounds HM.out HF.out.1).2.2.2.2] at a1 a2 a3
    have ct1 : w2.cell? ⟨gt, f * 3, none⟩ = some (.int .i64 (tC l m f : Int)) := htab2.cell a1
    have ct2 : w2.cell? ⟨gt, f * 3 + 1, none⟩ = some (.int .i64 (tB l m f : Int)) := htab2.cell a2
    have ct3 : w2.cell? ⟨gt, f * 3 + 2, none⟩ = some (.int .i64 (tS l m f : Int)) := htab2.cell a3
    have hfm := HF.out.1
    clear htab2 a1 a2 a3 hw1
    have q1 := lat_cell hrowc
    have q2 := lat_cell cbx
    have q3 := lat_cell ctb
    have q4 := lat_cell ct1
    have q5 := lat_cell ct2
    have q6 := lat_cell ct3
    refine wp_region_mixL [4,5] [0,1,2,3,6,7,8,9] [10,11] (by kernel_rfl) (by kernel_rfl) ?_
    intro K1 hK1
    simp only [pick, List.filterMap_cons, List.filterMap_nil, List.getElem?_cons_zero, List.getElem?_cons_succ]
    iterate 2 (show wpQuiet _ _ _ _ (_ :: _) _; go_big_quiet_step (fail))
    refine wpQuiet_nil ?_
    iterate 8 (show wpQuiet _ _ _ _ (_ :: _) _; go_big_quiet_step (fail))
    refine wpQuiet_nil ?_
    show wpList _ _ _ [_, _] _ _
    clear q1 q2 q3 q4 q5 q6 hrowc cbx ctb ct1 ct2 ct3 hfm
    have hd : Below w2.heap.size w2 w2.drew := (Below.refl _ _).drew
    have HB3 := kept (HB2.out.trans (Chg.of_below (S := fun _ => False) hd) (fun _ _ h => h.elim))
    have HX3 : Kept (Blk w2.drew bx #[.pointer (some ⟨p, 0, none⟩)] 65) := kept HX2.out
    have HC3 := kept (HC2.out.later hd)
    clear hd HB2 HX2 HC2
    generalize w2.drew = w3 at HB3 HX3 HC3 ⊢
    go_wp2_with fail
    refine hK1 _ _ ?_
    clear hK1
    obtain ⟨w4, hw4⟩ : ∃ w_, w_ = World.alloc w3 (.cells #[.int .i64 (tC l m f : Int), .int .i64 (tB l m f : Int), .int .i64 (tS l m f : Int)] 105) := ⟨_, rfl⟩
    obtain ⟨gx, hgx⟩ : ∃ b, b = w3.heap.size := ⟨_, rfl⟩
    have hb4 : Below w3.heap.size w3 w4 := by rw [hw4]; exact (Below.refl _ _).alloc (Nat.le_refl _) _
    have HD4 : Kept (Blk w4 gx #[.int .i64 (tC l m f : Int), .int .i64 (tB l m f : Int), .int .i64 (tS l m f : Int)] 105) := kept (by rw [hw4, hgx]; exact Blk.fresh _ _ _)
    have HX4 : Kept (Blk w4 bx #[.pointer (some ⟨p, 0, none⟩)] 65) := kept ((hb4.block bx HX3.out.lt).trans HX3.out)
    have HC4 := kept (HC3.out.later hb4)
    have HB4 := kept (HB3.out.trans (Chg.of_below (S := fun _ => False) hb4) (fun _ _ h => h.elim))
    rw [← hw4, ← hgx]
    clear hw4 hgx hb4 HX3 HC3 HB3
    go_upto_region 6 with fail
    have cbx := HX4.out.cell (i := 0) rfl
    have cst := HC4.out.blk.cell (coC_tail (tv := .slice (some ⟨gt, 0, none⟩) (2 ^ m) ct) (st := st) (vv := vv) (lv := lv) HC4.out.len).1
    have cd1 := HD4.out.cell (i := 1) rfl
    have cd2 := HD4.out.cell (i := 2) rfl
    have q1 := lat_cell cbx
    have q2 := lat_cell cst
    have q3 := lat_cell cd1
    have q4 := lat_cell cd2
    have esub : wrap64 ((st : Int) - (tS l m f : Int)) = ((st - tS l m f : Nat) : Int) := by have h1 := HF.out; have h2 := HLn.out; have h3 := HSt.out; unfold wrap64; omega
    refine wp_region_mixL [] [0,1,2,3,4,5,6,7,8,9] [10] (by kernel_rfl) (by kernel_rfl) ?_
    intro K1 hK1
    simp only [pick, List.filterMap_cons, List.filterMap_nil, List.getElem?_cons_zero, List.getElem?_cons_succ]
    refine wpQuiet_nil ?_
    iterate 10 (show wpQuiet _ _ _ _ (_ :: _) _; go_big_quiet_step (fail))
    refine wpQuiet_nil ?_
    show wpList _ _ _ [_] _ _
    try rw [esub]
    clear q1 q2 q3 q4 cbx cst cd1 cd2 esub HD4
    have hd : Below w4.heap.size w4 w4.drew := (Below.refl _ _).drew
    have HB5 := kept (HB4.out.trans (Chg.of_below (S := fun _ => False) hd) (fun _ _ h => h.elim))
    have HX5 : Kept (Blk w4.drew bx #[.pointer (some ⟨p, 0, none⟩)] 65) := kept HX4.out
    have HC5 := kept (HC4.out.later hd)
    clear hd HB4 HX4 HC4
    generalize w4.drew = w5 at HB5 HX5 HC5 ⊢
    have HPut := kept (cput_calls B p _ (table l m) R st lv ns vv vs (st - tS l m f) (tB l m f) w5 HC5.out (by have h1 := HLn.out; have h2 := HSt.out; omega) (by have := HLn.out; omega) (by have := HLn.out; omega))
    go_wp2_with (first | (go_at_call 30; refine HPut.out.mono ?_))
    rintro e w6 ⟨rfl, vv6, lv6, hC6, hb6⟩
    have HB6 := kept (HB5.out.trans hb6 (fun _ _ h => h))
    have HX6 : Kept (Blk w6 bx #[.pointer (some ⟨p, 0, none⟩)] 65) := kept (hb6.keep HX5.out (HC5.out.notP HX5.out (by decide) (by decide) (by decide)))
    have HC6 := kept hC6
    clear hC6 hb6 HPut HB5 HX5 HC5
    go_wp2_with fail
    refine hK1 _ _ ?_
    clear hK1
    go_upto_region 7 with fail
    have cbx := HX6.out.cell (i := 0) rfl
    have hrowc := (HC6.out.row HC.out).cell (nums_at .i64 xs i (by rw [← HN.out]; exact HIn.out.1))
    rw [HIn.out.2] at hrowc
    have q1 := lat_cell cbx
    have q2 := lat_cell hrowc
    refine wp_region_mixL [1,2] [0,3,4,5,6] [7] (by kernel_rfl) (by kernel_rfl) ?_
    intro K2 hK2
    simp only [pick, List.filterMap_cons, List.filterMap_nil, List.getElem?_cons_zero, List.getElem?_cons_succ]
    iterate 2 (show wpQuiet _ _ _ _ (_ :: _) _; go_big_quiet_step (fail))
    refine wpQuiet_nil ?_
    iterate 5 (show wpQuiet _ _ _ _ (_ :: _) _; go_big_quiet_step (fail))
    refine wpQuiet_nil ?_
    show wpList _ _ _ [_] _ _
    clear q1 q2 cbx hrowc
    have hd : Below w6.heap.size w6 w6.drew := (Below.refl _ _).drew
    have HB7 := kept (HB6.out.trans (Chg.of_below (S := fun _ => False) hd) (fun _ _ h => h.elim))
    have HC7 := kept (HC6.out.later hd)
    clear hd HB6 HX6 HC6
    generalize w6.drew = w7 at HB7 HC7 ⊢
    have cst := HC7.out.blk.cell (coC_tail (tv := .slice (some ⟨gt, 0, none⟩) (2 ^ m) ct) (st := st) (vv := vv6) (lv := lv6) HC7.out.len).1
    have fst := HC7.out.blk.free 66
    have hs8 := HC7.out.store 66 (.int .i64 (f : Int))
    rw [coC_setS HC7.out.len] at hs8
    have HC8 := kept hs8
    have HB8 := kept (HB7.out.trans (Chg.setCell w7 ⟨p, 66, none⟩ (.int .i64 (f : Int))) (fun _ _ h => .inl h))
    clear hs8
    go_wp2_with fail
    refine hK2 _ _ ?_
    clear hK2
    go_wp2_with fail
    go_end0
    exact ⟨rfl, _, _, HC8.out, HB8.out⟩)
end Go.Proofs.Yteeegomdaebobaa.St

-- ---- Si
/- slices.Backward over a list of parts: its iterator, for every loop body that keeps the list. Conditions: those that each theorem names. -/
namespace Go.Proofs.Yteeegomdaebobaa.St
set_option maxRecDepth 100000
set_option linter.unusedSimpArgs false
set_option linter.unusedVariables false
open Go.RowKit Go.Shelf Mix

attribute [local go_sem] Oper.semAt_some

/-- The places from the last one down. -/
def dnl (n k : Nat) : List Nat := (List.range k).map fun i => n - 1 - i
theorem dnl_succ (n k : Nat) : dnl n (k + 1) = dnl n k ++ [n - 1 - k] := by simp [dnl, List.range_succ]
theorem length_dnl (n k : Nat) : (dnl n k).length = k := by simp [dnl]
abbrev Pl (n : Nat) : Type := { i : Nat // i < n }
/-- The list's two blocks are kept. -/
def KpB (Bs g : Nat) (W W' : World) : Prop := W'.heap[Bs]? = W.heap[Bs]? ∧ W'.heap[g]? = W.heap[g]?
theorem KpB.refl (Bs g : Nat) (W : World) : KpB Bs g W W := ⟨rfl, rfl⟩
theorem KpB.trans {Bs g : Nat} {A B C : World} (h : KpB Bs g A B) (k : KpB Bs g B C) : KpB Bs g A C := ⟨k.1.trans h.1, k.2.trans h.2⟩
theorem cell_of_block {W W' : World} {g : Nat} (h : W'.heap[g]? = W.heap[g]?) (i : Nat) : W'.cell? ⟨g, i, none⟩ = W.cell? ⟨g, i, none⟩ := by
  simp [World.cell?, h]
theorem KpB.put {Bs g : Nat} {w : World} (h1 : Bs < w.heap.size) (h2 : g < w.heap.size) (W : World) (l : Nat) (o o' : Obj) (hl : w.heap.size ≤ l) (_ : W.heap[l]? = some o) (_ : o.isCells = false) (_ : o.isWalk = false) : KpB Bs g W (W.putObj l o') :=
  ⟨World.putObj_heap_other (by omega), World.putObj_heap_other (by omega)⟩
/-- What a round is handed. -/
def encP (fc fr : Nat → Int) {n : Nat} (x : Pl n) : Array Value := #[.int .i64 (x.1 : Int), .agg #[.int .i64 (fc x.1), .int .u64 (fr x.1)]]

set_option maxRecDepth 100000 in
set_option maxHeartbeats 4000000 in
theorem back1_in (nn l Bs : Nat) (A : Option Addr) (g : Addr) (n cap : Nat) (hA : 0 < n → A = some g) (hnn : 1 ≤ nn) (fc fr : Nat → Int) (hn : n ≤ 100000) (J Jx : List (Pl n) → World → Prop) (W0 : World)
    (hY : ∀ pre (x : Pl n) W1, J pre W1 → pre.length < n → YieldAt Fence.wide (nn - 1) Try.prog l (encP fc fr x) W1 fun e W' =>
      (e = .returned (.bool true) ∧ J (pre ++ [x]) W' ∧ KpB Bs g.block W1 W') ∨ (e = .returned (.bool false) ∧ Jx (pre ++ [x]) W'))
    (W : World) (hBs : W0.cell? ⟨Bs, 0, none⟩ = some (.slice A n cap)) (hc : ∀ i, i < n → W0.cell? (g.add (i * 2)) = some (.int .i64 (fc i)) ∧ W0.cell? ⟨(g.add (i * 2)).block, (g.add (i * 2)).off + 1, none⟩ = some (.int .u64 (fr i))) (hW : KpB Bs g.block W0 W) (h0 : J [] W) :
    CallsIn Fence.wide nn Try.prog 61 #[.func (.yield l) #[] #[], .pointer (some ⟨Bs, 0, none⟩)] W fun e W' => (∃ v, e = .returned v) ∧
      ((∃ ys : List (Pl n), ys.map Subtype.val = dnl n n ∧ J ys W') ∨ (∃ pre, True ∧ Jx pre W')) := by
  have hgb : ∀ (i : Nat) (W1 W2 : World), W2.heap[g.block]? = W1.heap[g.block]? → W2.cell? (g.add i) = W1.cell? (g.add i) := fun i W1 W2 h => World.cell?_of_block (w := W1) (a := g.add i) (by rw [show (g.add i).block = g.block by unfold Addr.add; split <;> rfl]; exact h)
  have hgb2 : ∀ (i : Nat) (W1 W2 : World), W2.heap[g.block]? = W1.heap[g.block]? → W2.cell? ⟨(g.add i).block, (g.add i).off + 1, none⟩ = W1.cell? ⟨(g.add i).block, (g.add i).off + 1, none⟩ := fun i W1 W2 h => cell_of_block (by rw [show (g.add i).block = g.block by unfold Addr.add; split <;> rfl]; exact h) _
  refine callsIn_of_wp Try.func61 rfl trivial ?_ rfl
  simp only [Try.ntmps61, List.size_toArray, List.length_cons, List.length_nil, Nat.reduceAdd, Nat.reduceSub, Array.replicate_succ, Array.replicate_zero, List.push_toArray, List.append_toArray, List.nil_append, List.cons_append]
  have hbw := (cell_of_block hW.1 0).trans hBs
  have HGb := Own.kept hgb
  have HGb2 := Own.kept hgb2
  have HCc := Own.kept hc
  clear hgb hgb2 hc
  gi_wp2
  gi_loopw [3] (fun s3 wr => ∃ (t : Nat) (pre : List (Pl n)), t ≤ n ∧ s3 = .int .i64 ((t : Int) - 1) ∧ pre.map Subtype.val = dnl n (n - t) ∧ J pre wr ∧ KpB Bs g.block W0 wr) (fun s3 _ => (intOf s3 + 1).toNat)
  case atStart => exact ⟨n, [], Nat.le_refl _, rfl, by rw [Nat.sub_self]; rfl, h0, hW⟩
  case round =>
    obtain ⟨t, pre, ht, rfl, hpre, hJ, hK⟩ := hrel
    by_cases ht0 : 0 < t
    · obtain ⟨j, rfl⟩ : ∃ j, t = j + 1 := ⟨t - 1, by omega⟩
      have hj : j < n := by omega
      rw [show (((j + 1 : Nat) : Int) - 1) = (j : Int) by omega]
      have hpl : pre.length < n := by
        have := congrArg List.length hpre
        rw [List.length_map, length_dnl] at this; omega
      have hcb := (cell_of_block hK.1 0).trans hBs
      rw [hA (by omega)] at hcb
      have hcx := (HGb.out (j * 2) W0 wr hK.2).trans (HCc.out j hj).1
      have hcy := (HGb2.out (j * 2) W0 wr hK.2).trans (HCc.out j hj).2
      obtain ⟨fn, tmps, assign, body, hy, hR⟩ := hY pre ⟨j, hj⟩ wr hJ hpl
      dsimp only [encP] at hy
      have hpre2 : (pre ++ [(⟨j, hj⟩ : Pl n)]).map Subtype.val = dnl n (n - j) := by
        rw [List.map_append, hpre, show n - j = (n - (j + 1)) + 1 by omega, dnl_succ]
        simp; omega
      have HP := Own.kept hpre2
      have HKK := Own.kept hK
      clear hpre hpre2 hpl ht0 hK
      gi_wp2
      refine hR.mono ?_
      rintro e W3 (⟨rfl, hJ3, hk3⟩ | ⟨rfl, hJx3⟩)
      · gi_wp2
        go_roundw
        case rel => exact ⟨j, _, by omega, by first | rfl | go_num, HP.out, hJ3, HKK.out.trans hk3⟩
        case measure => simp [intOf]
      · gi_wp2
        refine bodyPost_ret (results_none rfl _ _ _) rfl ?_
        exact ⟨⟨_, rfl⟩, .inr ⟨_, trivial, hJx3⟩⟩
    · have ht2 : t = 0 := by omega
      subst ht2
      rw [show (((0 : Nat) : Int) - 1) = -1 from rfl]
      gi_wp2
      go_end0
      exact ⟨⟨_, rfl⟩, .inl ⟨pre, by rw [hpre]; rfl, hJ⟩⟩

/-- slices.Backward lays the list into a box. -/
theorem back_calls (v : Value) (a : Option Addr) (n c : Nat) (hv : v = .slice a n c) (w : World) :
    Calls Try.prog 29 #[v] w fun e w' => e = .returned (.func (.func 61) #[] #[.pointer (some ⟨w.heap.size, 0, none⟩)]) ∧ w' = w.alloc (.cells #[v] 24) := by
  subst hv
  go_enter Try.func29, Try.ntmps29
  go_wp2_with fail
  go_ret
  exact ⟨rfl, rfl⟩
/-- The iterator's word. -/
theorem back_stops (nn Bs : Nat) (A : Option Addr) (g : Addr) (n cap : Nat) (hA : 0 < n → A = some g) (hnn : 1 ≤ nn) (fc fr : Nat → Int) (hn : n ≤ 100000) (w : World) (h1 : Bs < w.heap.size) (h2 : g.block < w.heap.size) (hBs : w.cell? ⟨Bs, 0, none⟩ = some (.slice A n cap))
    (hc : ∀ i, i < n → w.cell? (g.add (i * 2)) = some (.int .i64 (fc i)) ∧ w.cell? ⟨(g.add (i * 2)).block, (g.add (i * 2)).off + 1, none⟩ = some (.int .u64 (fr i))) :
    SeqStopsK Fence.wide nn Try.prog 61 #[.pointer (some ⟨Bs, 0, none⟩)] (fun x : Pl n => encP fc fr x) (KpB Bs g.block) (fun ys => ys.map Subtype.val = dnl n n) (fun _ => True) n w :=
  fun l J Jx W hW _ _ hY h0 => back1_in nn l Bs A g n cap hA hnn fc fr hn J Jx w hY W hBs hc ⟨hW.block Bs h1, hW.block g.block h2⟩ h0
end Go.Proofs.Yteeegomdaebobaa.St

-- ---- Spt
/- A coder while a range over a function goes on: what stays of it. Conditions: those that each theorem names. -/
namespace Go.Proofs.Yteeegomdaebobaa.St
set_option maxRecDepth 100000
set_option linter.unusedSimpArgs false
set_option linter.unusedVariables false
open Go.RowKit Mix _root_.Go.Proofs.Yteeegomdaebobaa.Own Bits Nl Sp

section
variable {B : Nat} {w w' : World} {p : Nat} {cs : Array Value} {tv : Value} {T : List (Int × Int × Int)} {R : List (Value × List Nat)} {lv : Value} {ns : List Nat} {vv : Value} {vs : List Nat}
/-- What is no cells has turned. -/
theorem Co.turn {row : Option Nat} (h : Co B w p cs tv T R lv ns vv vs) (hg : w.grownBy w' row) (hr : ∀ r, row = some r → ∃ o : Obj, w.heap[r]? = some o ∧ o.isCells = false) : Co B w' p cs tv T R lv ns vv vs := by
  have hc := Chg.of_grown hg
  have ne : ∀ {q : Nat} {ds : Array Value} {t : TypeId}, Blk w q ds t → ¬ some q = row := fun hb e => by
    obtain ⟨o, ho, hf⟩ := hr _ e.symm
    rw [show w.heap[_]? = _ from hb] at ho
    cases ho; cases hf
  have hO : ∀ {e : TypeId} {v : Value} {xs : List Value}, Owns w e v xs → Owns w' e v xs := fun ho => ho.chg hc fun b hb e => by obtain ⟨cur, hbk⟩ := ho.blk b hb; exact ne hbk e
  refine ⟨hc.keep h.blk (ne h.blk), h.tab.chg hc fun b hb e => by obtain ⟨cur, hbk⟩ := h.tab.blk b hb; exact ne hbk e, ?_, hO h.vals, h.len, h.pB, h.tB, h.vB, Nat.le_trans h.sz hc.size⟩
  exact ⟨fun i v xs hi => hO (h.of.own i v xs hi), h.of.new, h.of.sep⟩
theorem blk_turn {row : Option Nat} {q : Nat} {ds : Array Value} {t : TypeId} (hb : Blk w q ds t) (hg : w.grownBy w' row) (hr : ∀ r, row = some r → ∃ o : Obj, w.heap[r]? = some o ∧ o.isCells = false) : Blk w' q ds t :=
  (Chg.of_grown hg).keep hb fun e => by
    obtain ⟨o, ho, hf⟩ := hr _ e.symm
    rw [show w.heap[_]? = _ from hb] at ho
    cases ho; cases hf
/-- What is no cells lies as it lay. -/
theorem Co.keepsNo (h : Co B w p cs tv T R lv ns vv vs) (hc : Chg (fun k => k = p ∨ some k = vv.ownBlock ∨ some k = lv.ownBlock) w w') {D : Nat} {o : Obj} (hD : w.heap[D]? = some o) (ho : o.isCells = false) : w'.heap[D]? = some o := by
  refine hc.keep hD ?_
  rintro (e | e | e)
  · rw [e, show w.heap[p]? = _ from h.blk] at hD; cases hD; cases ho
  · obtain ⟨cur, hb⟩ := h.vals.blk D e.symm
    rw [show w.heap[D]? = _ from hb] at hD; cases hD; cases ho
  · obtain ⟨cur, hb⟩ := h.lens.blk D e.symm
    rw [show w.heap[D]? = _ from hb] at hD; cases hD; cases ho
theorem Co.keepsFrom (h : Co B w p cs tv T R lv ns vv vs) (hc : Chg (fun k => k = p ∨ some k = vv.ownBlock ∨ some k = lv.ownBlock) w w') (C : Nat) : KeepsFrom C w w' := ⟨hc.size, fun k o _ hk ho => h.keepsNo hc hk ho⟩
end

/-- The classes' places, the state, what is told. -/
structure CoS (B : Nat) (w : World) (p : Nat) (tv : Value) (l : List Int) (m : Nat) (R : List (Value × List Nat)) (cs : List Nat) : Prop where
  ex : ∃ vv lv, Co B w p (coC tv R (encs l m cs).1 vv lv) tv (table l m) R lv ((encs l m cs).2.map Prod.snd) vv ((encs l m cs).2.map Prod.fst)
theorem encs_len (l : List Int) (m : Nat) : ∀ cs : List Nat, (encs l m cs).2.length = cs.length := by
  intro cs
  induction cs with
  | nil => rfl
  | cons c cs ih => simp [encs, ih]
theorem encs_bits {l : List Int} {m : Nat} (hM : MayS l m) : ∀ (cs : List Nat), (∀ c ∈ cs, c < 65 ∧ 0 < l.getD c 0) → ∀ q ∈ (encs l m cs).2, q.1 < 2 ^ m ∧ q.2 ≤ m := by
  intro cs
  induction cs with
  | nil => intro _ q hq; cases hq
  | cons c cs ih =>
    intro h q hq
    have hs := encs_lt hM cs fun d hd => h d (List.mem_cons_of_mem _ hd)
    have h1 := h c (by simp)
    obtain ⟨f1, _, _⟩ := fnd_of hM h1.1 h1.2 hs
    have hb := (t_bounds hM f1).2.1
    simp only [encs, List.mem_append, List.mem_singleton] at hq
    rcases hq with hq | rfl
    · exact ih (fun d hd => h d (List.mem_cons_of_mem _ hd)) q hq
    · exact ⟨by simp only; omega, hb⟩
/-- One part more. -/
theorem forthS {B p : Nat} {tv : Value} {l : List Int} {m : Nat} {R : List (Value × List Nat)} {cs : List Nat} {c : Nat} {w : World} (h : CoS B w p tv l m R cs) (hM : MayS l m) (hRs : ∀ c v xs, R[c]? = some (v, xs) → RowS l m c xs) (hall : ∀ d ∈ c :: cs, d < 65 ∧ 0 < l.getD d 0) (hlen : cs.length < 90000) :
    ∃ vv lv, Co B w p (coC tv R (encs l m cs).1 vv lv) tv (table l m) R lv ((encs l m cs).2.map Prod.snd) vv ((encs l m cs).2.map Prod.fst) ∧
    Calls Try.prog 28 #[.pointer (some ⟨p, 0, none⟩), .int .i64 (c : Int)] w fun e w' => e = .returned (.tuple #[]) ∧ CoS B w' p tv l m R (c :: cs) ∧ Chg (fun k => k = p ∨ some k = vv.ownBlock ∨ some k = lv.ownBlock) w w' := by
  obtain ⟨vv, lv, hC⟩ := h.ex
  have h1 := hall c (by simp)
  have hs := encs_lt hM cs fun d hd => hall d (List.mem_cons_of_mem _ hd)
  obtain ⟨v, xs, hrc⟩ : ∃ v xs, R[c]? = some (v, xs) := by
    have hl : c < R.length := by rw [hC.len]; exact h1.1
    exact ⟨R[c].1, R[c].2, List.getElem?_eq_getElem hl⟩
  refine ⟨vv, lv, hC, ?_⟩
  refine (forth_calls B p tv l m R (encs l m cs).1 c lv _ vv _ v xs w hC hM hrc (hRs c v xs hrc) h1.1 h1.2 hs (by rw [List.length_map, encs_len]; exact hlen) (by rw [List.length_map, encs_len]; exact hlen)).mono ?_
  rintro e w' ⟨he, vv', lv', hC', hch⟩
  refine ⟨he, ⟨vv', lv', ?_⟩, hch⟩
  simp only [encs, List.map_append, List.map_cons, List.map_nil]
  exact hC'
end Go.Proofs.Yteeegomdaebobaa.St

-- ---- Zj
/- zig.Join: what it returns. -/
namespace Go.Proofs.Yteeegomdaebobaa
set_option maxRecDepth 100000
set_option linter.unusedSimpArgs false
set_option linter.unusedVariables false
open Go.RowKit Mix _root_.Go.Proofs.Yteeegomdaebobaa.Own Zig

theorem i64_xor_zero (x : Nat) (hx : x < 9223372036854775808) : bits .xor .i64 (x : Int) 0 = (x : Int) := by
  show IntKind.i64.wrap ((BitVec.ofInt 64 (x : Int) ^^^ BitVec.ofInt 64 0).toNat : Int) = _
  have h1 : (BitVec.ofInt 64 0).toNat = 0 := by decide
  have h2 : (BitVec.ofInt 64 (x : Int)).toNat = x := by
    rw [BitVec.ofInt_natCast, BitVec.toNat_ofNat]; exact Nat.mod_eq_of_lt (by omega)
  rw [BitVec.toNat_xor, h1, h2, Nat.xor_zero, IntKind.wrap_i64]
  omega
theorem i64_xor_neg (x : Nat) (hx : x < 9223372036854775808) : bits .xor .i64 (x : Int) (-1) = -(x : Int) - 1 := by
  rw [← Go.Lib.i64_not x hx]
  show IntKind.i64.wrap ((BitVec.ofInt 64 (x : Int) ^^^ BitVec.ofInt 64 (-1)).toNat : Int) = IntKind.i64.wrap ((BitVec.ofInt 64 (-1) ^^^ BitVec.ofInt 64 (x : Int)).toNat : Int)
  rw [BitVec.xor_comm]

theorem zback_bits (u : Nat) (h : u < 18446744073709551616) :
    bits .xor .i64 ((u : Int) / 2) (wrap64 (-wrap64 (bits .and .u64 (u : Int) 1))) = zback u := by
  rw [Go.Lib.u64_and1 _ (by omega) (by omega)]
  have e : (u : Int) / 2 = ((u / 2 : Nat) : Int) := by omega
  unfold zback
  by_cases ho : u % 2 = 1
  · have e2 : wrap64 (-wrap64 ((u : Int) % 2)) = -1 := by unfold wrap64; omega
    rw [e, e2, i64_xor_neg _ (by omega), if_pos ho]
  · have e2 : wrap64 (-wrap64 ((u : Int) % 2)) = 0 := by unfold wrap64; omega
    rw [e, e2, i64_xor_zero _ (by omega), if_neg ho]

theorem top_bits (c : Nat) (h1 : c ≤ 64) : IntKind.u64.wrap ((2 : Int) ^ (c - 1)) = ((2 ^ (c - 1) : Nat) : Int) := by
  have h2 := pow_le63 (c - 1) (by omega)
  have e : ((2 : Int) ^ (c - 1)) = ((2 ^ (c - 1) : Nat) : Int) := by simp
  rw [e, IntKind.wrap_u64]
  generalize 2 ^ (c - 1) = P at h2
  omega

theorem zback_calls (u : Nat) (w : World) (h : u < 18446744073709551616) :
    Calls Try.prog 58 #[.int .u64 (u : Int)] w fun e w' => e = .returned (.int .i64 (zback u)) ∧ w = w' := by
  rw [← zback_bits u h]
  go_enter Try.func58, Try.ntmps58
  go_wp2_with fail
  go_ret
  exact ⟨rfl, rfl⟩

theorem ztop_calls (c : Nat) (w : World) (h0 : 1 ≤ c) (h1 : c ≤ 64) :
    Calls Try.prog 57 #[.int .i64 (c : Int)] w fun e w' => e = .returned (.int .u64 ((2 ^ (c - 1) : Nat) : Int)) ∧ w = w' := by
  rw [← top_bits c h1]
  go_enter Try.func57, Try.ntmps57
  go_wp2_with fail
  go_ret
  exact ⟨rfl, rfl⟩

/-- What is split of a number. -/
def partOf (c : Int) (r : Nat) : Value := .agg #[.int .i64 c, .int .u64 (r : Int)]

theorem may_top (n r : Nat) (h1 : 1 ≤ n) (h2 : n ≤ 64) : may (n : Int) r = decide (r < 2 ^ (n - 1)) := by
  unfold may
  rw [decide_eq_true (by omega), Bool.true_and, if_neg (by omega), Int.toNat_natCast]

set_option maxHeartbeats 2000000 in
theorem zjoin_calls (c : Int) (r : Nat) (w : World) (h0 : -9223372036854775808 ≤ c) (h1 : c ≤ 9223372036854775807) (hr : r < 18446744073709551616) :
    Calls Try.prog 27 #[partOf c r] w fun e w' => e = .returned (.tuple #[.int .i64 (join c r), .bool (may c r)]) ∧ Below w.heap.size w w' := by
  unfold partOf
  by_cases hz : c = 0 ∧ r = 0
  · obtain ⟨hc, hr0⟩ := hz
    have hm : may c r = true := by rw [hc, hr0]; decide
    have hj : join c r = 0 := by rw [hc, hr0]; decide
    rw [hm, hj]
    have t0 : (c == 0) = true := by rw [beq_iff_eq]; exact hc
    have t1 : ((r : Int) == 0) = true := by rw [beq_iff_eq]; omega
    clear hm hj hc hr0 h0 h1 hr
    go_enter Try.func27, Try.ntmps27
    go_wp2_with fail
    go_ret2
    exact ⟨rfl, (Below.refl _ _).alloc (Nat.le_refl _) _⟩
  rcases (show (c = 0 ∧ ¬ r = 0) ∨ c < 0 ∨ 64 < c ∨ (1 ≤ c ∧ c ≤ 64) by omega) with hc | hc | hc | hc
  · have hm : may c r = false := by
      unfold may; rw [hc.1]; simp [hc.2]
    have hj : join c r = 0 := by unfold join; rw [hm]; rfl
    have t0 : (c == 0) = true := by rw [beq_iff_eq]; exact hc.1
    have t1 : ((r : Int) == 0) = false := by rw [beq_eq_false_iff_ne]; omega
    have t2 : decide (c < 1) = true := by simp; omega
    rw [hm, hj]
    clear hm hj h0 h1 hr hz hc
    go_enter Try.func27, Try.ntmps27
    go_wp2_with fail
    generalize hwa : World.alloc w _ = wa
    have hb : Below w.heap.size w wa := by rw [← hwa]; exact (Below.refl _ _).alloc (Nat.le_refl _) _
    have hB : Blk wa w.heap.size #[.int .i64 c, .int .u64 (r : Int)] 58 := by rw [← hwa]; exact Blk.fresh _ _ _
    have l0 := lat_cell (hB.cell (i := 0) rfl)
    have l1 := lat_cell (hB.cell (i := 1) rfl)
    have HB := kept hb
    have HBk := kept hB
    clear hwa hb hB
    refine wp_region_quietL (by kernel_rfl) (by kernel_rfl) ?_
    repeat (go_big_quiet_step (fail))
    refine wpQuiet_nil ?_
    intro nq
    go_wp2_with fail
    go_ret2
    exact ⟨rfl, HB.out.trans (nq.below.mono HB.out.size)⟩
  · have hm : may c r = false := by
      unfold may; rw [decide_eq_false (by omega)]; rfl
    have hj : join c r = 0 := by unfold join; rw [hm]; rfl
    have t0 : (c == 0) = false := by rw [beq_eq_false_iff_ne]; omega
    have t2 : decide (c < 1) = true := by simp; omega
    rw [hm, hj]
    clear hm hj h0 h1 hr hz hc
    go_enter Try.func27, Try.ntmps27
    go_wp2_with fail
    generalize hwa : World.alloc w _ = wa
    have hb : Below w.heap.size w wa := by rw [← hwa]; exact (Below.refl _ _).alloc (Nat.le_refl _) _
    have hB : Blk wa w.heap.size #[.int .i64 c, .int .u64 (r : Int)] 58 := by rw [← hwa]; exact Blk.fresh _ _ _
    have l0 := lat_cell (hB.cell (i := 0) rfl)
    have l1 := lat_cell (hB.cell (i := 1) rfl)
    have HB := kept hb
    have HBk := kept hB
    clear hwa hb hB
    refine wp_region_quietL (by kernel_rfl) (by kernel_rfl) ?_
    repeat (go_big_quiet_step (fail))
    refine wpQuiet_nil ?_
    intro nq
    go_wp2_with fail
    go_ret2
    exact ⟨rfl, HB.out.trans (nq.below.mono HB.out.size)⟩
  · have hm : may c r = false := by
      unfold may; rw [decide_eq_false (by omega)]; rfl
    have hj : join c r = 0 := by unfold join; rw [hm]; rfl
    have t0 : (c == 0) = false := by rw [beq_eq_false_iff_ne]; omega
    have t2 : decide (c < 1) = false := by simp; omega
    have t3 : decide ((65 : Int) ≤ c) = true := by simp; omega
    rw [hm, hj]
    clear hm hj h0 h1 hr hz hc
    go_enter Try.func27, Try.ntmps27
    go_wp2_with fail
    generalize hwa : World.alloc w _ = wa
    have hb : Below w.heap.size w wa := by rw [← hwa]; exact (Below.refl _ _).alloc (Nat.le_refl _) _
    have hB : Blk wa w.heap.size #[.int .i64 c, .int .u64 (r : Int)] 58 := by rw [← hwa]; exact Blk.fresh _ _ _
    have l0 := lat_cell (hB.cell (i := 0) rfl)
    have l1 := lat_cell (hB.cell (i := 1) rfl)
    have HB := kept hb
    have HBk := kept hB
    clear hwa hb hB
    refine wp_region_quietL (by kernel_rfl) (by kernel_rfl) ?_
    repeat (go_big_quiet_step (fail))
    refine wpQuiet_nil ?_
    intro nq
    go_wp2_with fail
    go_ret2
    exact ⟨rfl, HB.out.trans (nq.below.mono HB.out.size)⟩
  · obtain ⟨n, rfl⟩ := Int.eq_ofNat_of_zero_le (show 0 ≤ c by omega)
    have hn1 : 1 ≤ n := by omega
    have hn2 : n ≤ 64 := by omega
    have t0 : ((n : Int) == 0) = false := by rw [beq_eq_false_iff_ne]; omega
    have t2 : decide ((n : Int) < 1) = false := by simp; omega
    have t3 : decide ((65 : Int) ≤ (n : Int)) = false := by simp; omega
    have hmt := may_top n r hn1 hn2
    have hp63 := pow_le63 (n - 1) (by omega)
    obtain ⟨P, hP⟩ : ∃ P, P = 2 ^ (n - 1) := ⟨_, rfl⟩
    have ht : ∀ w', Calls Try.prog 57 #[.int .i64 (n : Int)] w' fun e w'' => e = .returned (.int .u64 (P : Int)) ∧ w' = w'' := fun w' => by
      rw [hP]; exact ztop_calls n w' hn1 hn2
    rw [← hP] at hmt hp63
    have HT := kept ht
    clear ht
    by_cases hlt : r < P
    · have hm : may (n : Int) r = true := by rw [hmt]; simpa using hlt
      have hj : join (n : Int) r = zback (P + r) := by
        unfold join Zig.sizeOf
        rw [hm, if_pos rfl, if_neg (by omega), Int.toNat_natCast, ← hP]
      have hbk : ∀ w', Calls Try.prog 58 #[.int .u64 ((P : Int) + (r : Int))] w' fun e w'' => e = .returned (.int .i64 (zback (P + r))) ∧ w' = w'' := fun w' => by
        have := zback_calls (P + r) w' (by omega)
        rw [show ((P + r : Nat) : Int) = (P : Int) + (r : Int) by omega] at this
        exact this
      have hw2 : IntKind.u64.wrap ((P : Int) + (r : Int)) = (P : Int) + (r : Int) := by rw [IntKind.wrap_u64]; omega
      obtain ⟨J, hJ⟩ : ∃ J, J = zback (P + r) := ⟨_, rfl⟩
      rw [← hJ] at hbk hj
      have HBack := kept hbk
      have t4 : decide ((P : Int) ≤ (r : Int)) = false := by simp; omega
      rw [hm, hj]
      clear hm hj h0 h1 hr hz hc hmt hP hbk hJ
      go_enter Try.func27, Try.ntmps27
      go_wp2_with fail
      generalize hwa : World.alloc w _ = wa
      have hb : Below w.heap.size w wa := by rw [← hwa]; exact (Below.refl _ _).alloc (Nat.le_refl _) _
      have hB : Blk wa w.heap.size #[.int .i64 (n : Int), .int .u64 (r : Int)] 58 := by rw [← hwa]; exact Blk.fresh _ _ _
      have l0 := lat_cell (hB.cell (i := 0) rfl)
      have l1 := lat_cell (hB.cell (i := 1) rfl)
      have HB := kept hb
      have HBk := kept hB
      clear hwa hb hB
      refine wp_region_quietL (by kernel_rfl) (by kernel_rfl) ?_
      repeat (go_big_quiet_step ((first | (go_at_call 57; exact lat_call_same (HT.out _)))))
      refine wpQuiet_nil ?_
      intro nq
      have HB2 := kept (HB.out.trans (nq.below.mono HB.out.size))
      have HBk2 : Kept (Blk nq.w w.heap.size #[.int .i64 (n : Int), .int .u64 (r : Int)] 58) := kept (lat_block HBk.out nq)
      clear l0 l1
      generalize nq.w = w2 at HB2 HBk2 ⊢
      have l0 := lat_cell (HBk2.out.cell (i := 0) rfl)
      have l1 := lat_cell (HBk2.out.cell (i := 1) rfl)
      go_wp2_with fail
      refine wp_region_quietL (by kernel_rfl) (by kernel_rfl) ?_
      repeat (go_big_quiet_step ((first | (go_at_call 57; exact lat_call_same (HT.out _)) | (go_at_call 58; exact lat_call_same (HBack.out _)))))
      refine wpQuiet_nil ?_
      intro nq2
      go_wp2_with fail
      go_ret2
      exact ⟨rfl, HB2.out.trans (nq2.below.mono HB2.out.size)⟩
    · have hm : may (n : Int) r = false := by rw [hmt]; simpa using hlt
      have hj : join (n : Int) r = 0 := by unfold join; rw [hm]; rfl
      have t4 : decide ((P : Int) ≤ (r : Int)) = true := by simp; omega
      rw [hm, hj]
      clear hm hj h0 h1 hr hz hc hmt hP
      go_enter Try.func27, Try.ntmps27
      go_wp2_with fail
      generalize hwa : World.alloc w _ = wa
      have hb : Below w.heap.size w wa := by rw [← hwa]; exact (Below.refl _ _).alloc (Nat.le_refl _) _
      have hB : Blk wa w.heap.size #[.int .i64 (n : Int), .int .u64 (r : Int)] 58 := by rw [← hwa]; exact Blk.fresh _ _ _
      have l0 := lat_cell (hB.cell (i := 0) rfl)
      have l1 := lat_cell (hB.cell (i := 1) rfl)
      have HB := kept hb
      have HBk := kept hB
      clear hwa hb hB
      refine wp_region_quietL (by kernel_rfl) (by kernel_rfl) ?_
      repeat (go_big_quiet_step ((first | (go_at_call 57; exact lat_call_same (HT.out _)))))
      refine wpQuiet_nil ?_
      intro nq
      go_wp2_with fail
      go_ret2
      exact ⟨rfl, HB.out.trans (nq.below.mono HB.out.size)⟩
end Go.Proofs.Yteeegomdaebobaa

-- ---- PAx35

namespace Go.Proofs.Yteeegomdaebobaa.PA
open Go.RowKit Go.Proofs.YteeegomdaebobaaW.PrintWords Go.Proofs.YteeegomdaebobaaW.PrintLast Go.Proofs.YteeegomdaebobaaW.PrintMore
attribute [local go_sem] max2_int min2_int max_two min_two max_three min_three max_four min_four   -- for this text's walks alone
set_option linter.unusedVariables false
set_option linter.unusedSimpArgs false

/-! ### vint_Put: function 34 -/
def vint_Put.l0 : Nat → Int → List Int → Option (ByteArray)
  | 0, _, _ => none
  | k + 1, x0, x3 => if x0 ≥ 128 then (if x3.length < 140737488355328 then (vint_Put.l0 k (x0 / 128) (x3 ++ [Go.bits .or .u8 ((x0) % 256) 128])) else (none)) else (if x3.length < 140737488355328 then (some (strOfNums (x3 ++ [(x0) % 256]))) else (none))
def vint_Put.f (k : Nat) (a0 : Int) : Option (ByteArray) := vint_Put.l0 k a0 ([] : List Int)
theorem vint_Put.mono_l : ∀ k, (∀ y0 y1, LeO (vint_Put.l0 k y0 y1) (vint_Put.l0 (k + 1) y0 y1))
  | 0 => fun _ _ r h => by simp [vint_Put.l0] at h
  | k + 1 => by
    have ih0 := vint_Put.mono_l k
    · intro y0 y1
      unfold vint_Put.l0
      repeat' first
      | (with_reducible exact ih0 _ _)
      | (with_reducible exact LeO.refl _)
      | (with_reducible exact LeO.none _)
      | (with_reducible refine LeO.ite ?_ ?_)
      | (with_reducible refine LeO.bind ?_ (fun _ => ?_))
      | exact ih0 _ _
      | exact LeO.none _
      | refine LeO.ite ?_ ?_
      | refine LeO.bind ?_ (fun _ => ?_)
theorem vint_Put.mono : ∀ a0 k, LeO (vint_Put.f k a0) (vint_Put.f (k + 1) a0) := by
  intro a0 k
  have ih0 := vint_Put.mono_l k
  unfold vint_Put.f
  repeat' first
      | (with_reducible exact ih0 _ _)
      | (with_reducible exact LeO.refl _)
      | (with_reducible exact LeO.none _)
      | (with_reducible refine LeO.ite ?_ ?_)
      | (with_reducible refine LeO.bind ?_ (fun _ => ?_))
      | exact ih0 _ _
      | exact LeO.none _
      | refine LeO.ite ?_ ?_
      | refine LeO.bind ?_ (fun _ => ?_)
set_option maxHeartbeats 8000000 in
set_option maxRecDepth 100000 in
theorem vint_Put.calls (k : Nat) (a0 : Int) (r : ByteArray) (w : World) (h : vint_Put.f k a0 = some r) :
    Calls Try.prog 34 #[.int .u64 a0] w fun e w' => e = .returned (.string r) ∧ Below w.heap.size w w' := by
  have HB := Aside0.mk (Below.refl w.heap.size w)
  have H : (vint_Put.l0 k a0 ([] : List Int)) = some r := h
  clear h
  have H' := Aside0.mk H
  clear H
  go_enter Try.func34, Try.ntmps34
  go_wp2
  go_loopg [0, 3] k (fun kq v0 v3 w' => ∃ (x0_1 : Int) (x3_1 : List Int), v0 = .int .u64 x0_1 ∧ Aside0 (vint_Put.l0 kq x0_1 x3_1 = some r) ∧ Aside0 (kq ≤ k) ∧ Aside0 (Kd.R (Kd.int .u8) 5 w' w.heap.size (fun _ => True) v3 x3_1) ∧ Aside0 (Below w.heap.size w w'))
  case atStart => exact ⟨(a0), (([] : List Int)), (by first | rfl | (simp; done) | (simp [*]; done)), H', ⟨Nat.le_refl _⟩, ⟨by first | exact Kd.R_nil _ _ _ _ _ | exact Kd.N_nil _ _ _ _ _ | exact Kd.V_nil _ _ _ _ _ | exact Kd.Q_nil _ _ _ _ _ | exact Kd.S_nil _ _ _ _ _⟩, ⟨by repeat (first | (with_reducible first | exact HB.out | apply below_alloc | apply pw_below_drewN | apply below_drew1) | exact HB.out)⟩⟩
  case round =>
    clear H'
    obtain ⟨x0_1, x3_1, rfl, HA, HK1, HO_3, HB⟩ := hrel
    cases gk with
    | zero => exact absurd HA.out (by simp [vint_Put.l0])
    | succ k1 =>
      have H := HA.out
      clear HA
      simp only [vint_Put.l0] at H
      by_cases c2 : x0_1 ≥ 128
      · rw [if_pos c2] at H
        have c2b0 : decide (128 ≤ x0_1) = true := decide_eq_true c2
        clear c2
        by_cases c3 : x3_1.length < 140737488355328
        · rw [if_pos c3] at H
          have LMc3 := Aside0.mk c3
          clear c3
          obtain ⟨y129, hy129⟩ : ∃ y_ : List Int, y_ = (x3_1 ++ [Go.bits .or .u8 ((x0_1) % 256) 128]) := ⟨_, rfl⟩
          replace H : (vint_Put.l0 k1 (x0_1 / 128) y129) = some r := by first | (rw [hy129]; with_reducible exact H) | (have H2_ := (Option.bind_some _ _).symm.trans H; rw [hy129]; with_reducible exact H2_) | (have H2_ := (Option.bind_some _ _).symm.trans H; with_reducible exact H2_) | with_reducible exact H | (rw [hy129]; exact H) | exact H
          have Ny129 := Aside0.mk hy129
          clear hy129
          have H' := Aside0.mk H
          clear H
          go_wp2_with (first | ((with_reducible refine gate_builtin (b := .append) (xs := #[.tmp 8, .tmp 12]) rfl ?_); at_builtin; refine Kd.R_append (Kd.int .u8) (w0 := w) w.heap.size rfl (.tmp 8) (.tmp 12) 43 5 (.int .u8 0) 1 rfl Try.underlying43 info5 rfl (by decide) (by omega) u3 x3_1 (Go.bits .or .u8 ((x0_1) % 256) 128) [.int .u8 (Go.bits .or .u8 ((x0_1) % 256) 128)] (fun _ => True) (fun _ => False) rfl rfl ?aP (fun _ hk => hk.elim) ?aF ?aO ?aB ?aS ?aL ?_; (case aP => exact rfl); (case aB => exact (by repeat (first | (with_reducible first | exact HB.out | apply below_alloc | apply pw_below_drewN | apply below_drew1) | exact HB.out))); (case aF => exact (fun _ _ => trivial)); (case aO => exact (by (with_reducible repeat (first | apply Kd.R_alloc | apply Kd.R_drewN | apply Kd.R_drew)); exact HO_3.out)); (case aS => exact (below_size (by repeat (first | (with_reducible first | exact HB.out | apply below_alloc | apply pw_below_drewN | apply below_drew1) | exact HB.out)))); (case aL => have := LMc3.out; omega); intro v130 w4 ho hb hg hat; rw [← Ny129.out] at ho; have n0_ := Aside0.mk (hb); have n1_ := Aside0.mk (ho); clear HB; clear HO_3; have HB := n0_; have HO131 := n1_; clear n0_ n1_; clear ho hb hg hat))
          go_roundg k1
          case measure => have := HK1.out; omega
          case rel => exact ⟨(x0_1 / 128), (y129), (by first | rfl | (simp; done) | (simp [*]; done)), H', ⟨by have := HK1.out; omega⟩, ⟨by (with_reducible repeat (first | apply Kd.R_alloc | apply Kd.R_drewN | apply Kd.R_drew)); exact HO131.out⟩, ⟨by repeat (first | (with_reducible first | exact HB.out | apply below_alloc | apply pw_below_drewN | apply below_drew1) | exact HB.out)⟩⟩
        · rw [if_neg c3] at H
          exact absurd H (by simp)
      · rw [if_neg c2] at H
        have c2b0 : decide (128 ≤ x0_1) = false := decide_eq_false c2
        clear c2
        by_cases c5 : x3_1.length < 140737488355328
        · rw [if_pos c5] at H
          have LMc5 := Aside0.mk c5
          clear c5
          obtain ⟨y132, hy132⟩ : ∃ y_ : List Int, y_ = (x3_1 ++ [(x0_1) % 256]) := ⟨_, rfl⟩
          replace H : (some (strOfNums y132)) = some r := by first | (rw [hy132]; with_reducible exact H) | (have H2_ := (Option.bind_some _ _).symm.trans H; rw [hy132]; with_reducible exact H2_) | (have H2_ := (Option.bind_some _ _).symm.trans H; with_reducible exact H2_) | with_reducible exact H | (rw [hy132]; exact H) | exact H
          have Ny132 := Aside0.mk hy132
          clear hy132
          obtain rfl := Option.some.inj H
          go_wp2_with (first | ((with_reducible refine gate_builtin (b := .append) (xs := #[.tmp 14, .tmp 17]) rfl ?_); at_builtin; refine Kd.R_append (Kd.int .u8) (w0 := w) w.heap.size rfl (.tmp 14) (.tmp 17) 43 5 (.int .u8 0) 1 rfl Try.underlying43 info5 rfl (by decide) (by omega) u3 x3_1 ((x0_1) % 256) [.int .u8 ((x0_1) % 256)] (fun _ => True) (fun _ => False) rfl rfl ?aP (fun _ hk => hk.elim) ?aF ?aO ?aB ?aS ?aL ?_; (case aP => exact rfl); (case aB => exact (by repeat (first | (with_reducible first | exact HB.out | apply below_alloc | apply pw_below_drewN | apply below_drew1) | exact HB.out))); (case aF => exact (fun _ _ => trivial)); (case aO => exact (by (with_reducible repeat (first | apply Kd.R_alloc | apply Kd.R_drewN | apply Kd.R_drew)); exact HO_3.out)); (case aS => exact (below_size (by repeat (first | (with_reducible first | exact HB.out | apply below_alloc | apply pw_below_drewN | apply below_drew1) | exact HB.out)))); (case aL => have := LMc5.out; omega); intro v133 w6 ho hb hg hat; rw [← Ny132.out] at ho; have n0_ := Aside0.mk (hb); have n1_ := Aside0.mk (ho); clear HB; clear HO_3; have HB := n0_; have HO134 := n1_; clear n0_ n1_; clear ho hb hg hat; have hcv7 := own_string (P := Try.prog) Try.underlying43 Try.underlying5 Try.underlying9 (Kd.own_of_R HO134.out)))
          go_ret
          exact ⟨by first | rfl | (simp [errW_none, errW_some] <;> rfl) | (simp [*, errW_none, errW_some] <;> rfl), by repeat (first | (with_reducible first | exact HB.out | apply below_alloc | apply pw_below_drewN | apply below_drew1) | exact HB.out)⟩
        · rw [if_neg c5] at H
          exact absurd H (by simp)

end Go.Proofs.Yteeegomdaebobaa.PA

-- ---- PAx60

namespace Go.Proofs.Yteeegomdaebobaa.PA
open Go.RowKit Go.Proofs.YteeegomdaebobaaW.PrintWords Go.Proofs.YteeegomdaebobaaW.PrintLast Go.Proofs.YteeegomdaebobaaW.PrintMore
attribute [local go_sem] max2_int min2_int max_two min_two max_three min_three max_four min_four   -- for this text's walks alone
set_option linter.unusedVariables false
set_option linter.unusedSimpArgs false

/-! ### wringerref1_PutVint: function 44 -/
def wringerref1_PutVint.l0 : Nat → Int → List Int → Option (ByteArray)
  | 0, _, _ => none
  | k + 1, x0, x3 => if x0 ≥ 128 then (if x3.length < 140737488355328 then (wringerref1_PutVint.l0 k (x0 / 128) (x3 ++ [Go.bits .or .u8 ((x0) % 256) 128])) else (none)) else (if x3.length < 140737488355328 then (some (strOfNums (x3 ++ [(x0) % 256]))) else (none))
def wringerref1_PutVint.f (k : Nat) (a0 : Int) : Option (ByteArray) := wringerref1_PutVint.l0 k a0 ([] : List Int)
theorem wringerref1_PutVint.mono_l : ∀ k, (∀ y0 y1, LeO (wringerref1_PutVint.l0 k y0 y1) (wringerref1_PutVint.l0 (k + 1) y0 y1))
  | 0 => fun _ _ r h => by simp [wringerref1_PutVint.l0] at h
  | k + 1 => by
    have ih0 := wringerref1_PutVint.mono_l k
    · intro y0 y1
      unfold wringerref1_PutVint.l0
      repeat' first
      | (with_reducible exact ih0 _ _)
      | (with_reducible exact LeO.refl _)
      | (with_reducible exact LeO.none _)
      | (with_reducible refine LeO.ite ?_ ?_)
      | (with_reducible refine LeO.bind ?_ (fun _ => ?_))
      | exact ih0 _ _
      | exact LeO.none _
      | refine LeO.ite ?_ ?_
      | refine LeO.bind ?_ (fun _ => ?_)
theorem wringerref1_PutVint.mono : ∀ a0 k, LeO (wringerref1_PutVint.f k a0) (wringerref1_PutVint.f (k + 1) a0) := by
  intro a0 k
  have ih0 := wringerref1_PutVint.mono_l k
  unfold wringerref1_PutVint.f
  repeat' first
      | (with_reducible exact ih0 _ _)
      | (with_reducible exact LeO.refl _)
      | (with_reducible exact LeO.none _)
      | (with_reducible refine LeO.ite ?_ ?_)
      | (with_reducible refine LeO.bind ?_ (fun _ => ?_))
      | exact ih0 _ _
      | exact LeO.none _
      | refine LeO.ite ?_ ?_
      | refine LeO.bind ?_ (fun _ => ?_)
set_option maxHeartbeats 8000000 in
set_option maxRecDepth 100000 in
theorem wringerref1_PutVint.calls (k : Nat) (a0 : Int) (r : ByteArray) (w : World) (h : wringerref1_PutVint.f k a0 = some r) :
    Calls Try.prog 44 #[.int .u64 a0] w fun e w' => e = .returned (.string r) ∧ Below w.heap.size w w' := by
  have HB := Aside0.mk (Below.refl w.heap.size w)
  have H : (wringerref1_PutVint.l0 k a0 ([] : List Int)) = some r := h
  clear h
  have H' := Aside0.mk H
  clear H
  go_enter Try.func44, Try.ntmps44
  go_wp2
  go_loopg [0, 3] k (fun kq v0 v3 w' => ∃ (x0_1 : Int) (x3_1 : List Int), v0 = .int .u64 x0_1 ∧ Aside0 (wringerref1_PutVint.l0 kq x0_1 x3_1 = some r) ∧ Aside0 (kq ≤ k) ∧ Aside0 (Kd.R (Kd.int .u8) 5 w' w.heap.size (fun _ => True) v3 x3_1) ∧ Aside0 (Below w.heap.size w w'))
  case atStart => exact ⟨(a0), (([] : List Int)), (by first | rfl | (simp; done) | (simp [*]; done)), H', ⟨Nat.le_refl _⟩, ⟨by first | exact Kd.R_nil _ _ _ _ _ | exact Kd.N_nil _ _ _ _ _ | exact Kd.V_nil _ _ _ _ _ | exact Kd.Q_nil _ _ _ _ _ | exact Kd.S_nil _ _ _ _ _⟩, ⟨by repeat (first | (with_reducible first | exact HB.out | apply below_alloc | apply pw_below_drewN | apply below_drew1) | exact HB.out)⟩⟩
  case round =>
    clear H'
    obtain ⟨x0_1, x3_1, rfl, HA, HK1, HO_3, HB⟩ := hrel
    cases gk with
    | zero => exact absurd HA.out (by simp [wringerref1_PutVint.l0])
    | succ k1 =>
      have H := HA.out
      clear HA
      simp only [wringerref1_PutVint.l0] at H
      by_cases c2 : x0_1 ≥ 128
      · rw [if_pos c2] at H
        have c2b0 : decide (128 ≤ x0_1) = true := decide_eq_true c2
        clear c2
        by_cases c3 : x3_1.length < 140737488355328
        · rw [if_pos c3] at H
          have LMc3 := Aside0.mk c3
          clear c3
          obtain ⟨y205, hy205⟩ : ∃ y_ : List Int, y_ = (x3_1 ++ [Go.bits .or .u8 ((x0_1) % 256) 128]) := ⟨_, rfl⟩
          replace H : (wringerref1_PutVint.l0 k1 (x0_1 / 128) y205) = some r := by first | (rw [hy205]; with_reducible exact H) | (have H2_ := (Option.bind_some _ _).symm.trans H; rw [hy205]; with_reducible exact H2_) | (have H2_ := (Option.bind_some _ _).symm.trans H; with_reducible exact H2_) | with_reducible exact H | (rw [hy205]; exact H) | exact H
          have Ny205 := Aside0.mk hy205
          clear hy205
          have H' := Aside0.mk H
          clear H
          go_wp2_with (first | ((with_reducible refine gate_builtin (b := .append) (xs := #[.tmp 6, .tmp 10]) rfl ?_); at_builtin; refine Kd.R_append (Kd.int .u8) (w0 := w) w.heap.size rfl (.tmp 6) (.tmp 10) 43 5 (.int .u8 0) 1 rfl Try.underlying43 info5 rfl (by decide) (by omega) u3 x3_1 (Go.bits .or .u8 ((x0_1) % 256) 128) [.int .u8 (Go.bits .or .u8 ((x0_1) % 256) 128)] (fun _ => True) (fun _ => False) rfl rfl ?aP (fun _ hk => hk.elim) ?aF ?aO ?aB ?aS ?aL ?_; (case aP => exact rfl); (case aB => exact (by repeat (first | (with_reducible first | exact HB.out | apply below_alloc | apply pw_below_drewN | apply below_drew1) | exact HB.out))); (case aF => exact (fun _ _ => trivial)); (case aO => exact (by (with_reducible repeat (first | apply Kd.R_alloc | apply Kd.R_drewN | apply Kd.R_drew)); exact HO_3.out)); (case aS => exact (below_size (by repeat (first | (with_reducible first | exact HB.out | apply below_alloc | apply pw_below_drewN | apply below_drew1) | exact HB.out)))); (case aL => have := LMc3.out; omega); intro v206 w4 ho hb hg hat; rw [← Ny205.out] at ho; have n0_ := Aside0.mk (hb); have n1_ := Aside0.mk (ho); clear HB; clear HO_3; have HB := n0_; have HO207 := n1_; clear n0_ n1_; clear ho hb hg hat))
          go_roundg k1
          case measure => have := HK1.out; omega
          case rel => exact ⟨(x0_1 / 128), (y205), (by first | rfl | (simp; done) | (simp [*]; done)), H', ⟨by have := HK1.out; omega⟩, ⟨by (with_reducible repeat (first | apply Kd.R_alloc | apply Kd.R_drewN | apply Kd.R_drew)); exact HO207.out⟩, ⟨by repeat (first | (with_reducible first | exact HB.out | apply below_alloc | apply pw_below_drewN | apply below_drew1) | exact HB.out)⟩⟩
        · rw [if_neg c3] at H
          exact absurd H (by simp)
      · rw [if_neg c2] at H
        have c2b0 : decide (128 ≤ x0_1) = false := decide_eq_false c2
        clear c2
        by_cases c5 : x3_1.length < 140737488355328
        · rw [if_pos c5] at H
          have LMc5 := Aside0.mk c5
          clear c5
          obtain ⟨y208, hy208⟩ : ∃ y_ : List Int, y_ = (x3_1 ++ [(x0_1) % 256]) := ⟨_, rfl⟩
          replace H : (some (strOfNums y208)) = some r := by first | (rw [hy208]; with_reducible exact H) | (have H2_ := (Option.bind_some _ _).symm.trans H; rw [hy208]; with_reducible exact H2_) | (have H2_ := (Option.bind_some _ _).symm.trans H; with_reducible exact H2_) | with_reducible exact H | (rw [hy208]; exact H) | exact H
          have Ny208 := Aside0.mk hy208
          clear hy208
          obtain rfl := Option.some.inj H
          go_wp2_with (first | ((with_reducible refine gate_builtin (b := .append) (xs := #[.tmp 14, .tmp 17]) rfl ?_); at_builtin; refine Kd.R_append (Kd.int .u8) (w0 := w) w.heap.size rfl (.tmp 14) (.tmp 17) 43 5 (.int .u8 0) 1 rfl Try.underlying43 info5 rfl (by decide) (by omega) u3 x3_1 ((x0_1) % 256) [.int .u8 ((x0_1) % 256)] (fun _ => True) (fun _ => False) rfl rfl ?aP (fun _ hk => hk.elim) ?aF ?aO ?aB ?aS ?aL ?_; (case aP => exact rfl); (case aB => exact (by repeat (first | (with_reducible first | exact HB.out | apply below_alloc | apply pw_below_drewN | apply below_drew1) | exact HB.out))); (case aF => exact (fun _ _ => trivial)); (case aO => exact (by (with_reducible repeat (first | apply Kd.R_alloc | apply Kd.R_drewN | apply Kd.R_drew)); exact HO_3.out)); (case aS => exact (below_size (by repeat (first | (with_reducible first | exact HB.out | apply below_alloc | apply pw_below_drewN | apply below_drew1) | exact HB.out)))); (case aL => have := LMc5.out; omega); intro v209 w6 ho hb hg hat; rw [← Ny208.out] at ho; have n0_ := Aside0.mk (hb); have n1_ := Aside0.mk (ho); clear HB; clear HO_3; have HB := n0_; have HO210 := n1_; clear n0_ n1_; clear ho hb hg hat; have hcv7 := own_string (P := Try.prog) Try.underlying43 Try.underlying5 Try.underlying9 (Kd.own_of_R HO210.out)))
          go_ret
          exact ⟨by first | rfl | (simp [errW_none, errW_some] <;> rfl) | (simp [*, errW_none, errW_some] <;> rfl), by repeat (first | (with_reducible first | exact HB.out | apply below_alloc | apply pw_below_drewN | apply below_drew1) | exact HB.out)⟩
        · rw [if_neg c5] at H
          exact absurd H (by simp)

end Go.Proofs.Yteeegomdaebobaa.PA

-- ---- PAx62

namespace Go.Proofs.Yteeegomdaebobaa.PA
open Go.RowKit Go.Proofs.YteeegomdaebobaaW.PrintWords Go.Proofs.YteeegomdaebobaaW.PrintLast Go.Proofs.YteeegomdaebobaaW.PrintMore
attribute [local go_sem] max2_int min2_int max_two min_two max_three min_three max_four min_four   -- for this text's walks alone
set_option linter.unusedVariables false
set_option linter.unusedSimpArgs false

/-! ### wringerref1_GetVint: function 46 -/
mutual
def wringerref1_GetVint.j0 : Nat → ByteArray → Int → Bool → Option (Int × Int × Int)
  | 0, _, _, _ => none
  | k + 1, x0, x1, x15 => if x15 = true then (some (0, 0, 1)) else (wringerref1_GetVint.l0 k x0 x1 0 0)
def wringerref1_GetVint.l0 : Nat → ByteArray → Int → Int → Int → Option (Int × Int × Int)
  | 0, _, _, _, _ => none
  | k + 1, x0, x1, x5, x6 => if x6 < 10 then (if (wrap64 (x1 + x6)) ≥ (x0.size : Int) then (some (0, 0, 2)) else (if 0 ≤ (wrap64 (x1 + x6)) then (if (wrap64 (x1 + x6)) < (x0.size : Int) then (if 0 ≤ (wrap64 (7 * x6)) then (if (bt x0 (wrap64 (x1 + x6))) < 128 then ((wringerref1_PutVint.f k (Go.bits .or .u64 x5 (shl .u64 (IntKind.u64.wrap (Go.bits .and .u8 (bt x0 (wrap64 (x1 + x6))) 127)) (wrap64 (7 * x6))))).bind fun t218 => (if 0 ≤ x1 then (if x1 ≤ (wrap64 ((wrap64 (x1 + x6)) + 1)) then (if (wrap64 ((wrap64 (x1 + x6)) + 1)) ≤ (x0.size : Int) then (if t218.toList = (x0.extract (x1 : Int).toNat ((wrap64 ((wrap64 (x1 + x6)) + 1)) : Int).toNat).toList then (some (Go.bits .or .u64 x5 (shl .u64 (IntKind.u64.wrap (Go.bits .and .u8 (bt x0 (wrap64 (x1 + x6))) 127)) (wrap64 (7 * x6))), wrap64 ((wrap64 (x1 + x6)) + 1), 0)) else (some (0, 0, 3))) else (none)) else (none)) else (none))) else (wringerref1_GetVint.l0 k x0 x1 (Go.bits .or .u64 x5 (shl .u64 (IntKind.u64.wrap (Go.bits .and .u8 (bt x0 (wrap64 (x1 + x6))) 127)) (wrap64 (7 * x6)))) (wrap64 (x6 + 1)))) else (none)) else (none)) else (none))) else (some (0, 0, 3))
end
def wringerref1_GetVint.f (k : Nat) (a0 : ByteArray) (a1 : Int) : Option (Int × Int × Int) := if a1 < 0 then (wringerref1_GetVint.j0 k a0 a1 true) else (wringerref1_GetVint.j0 k a0 a1 (decide (a1 > (a0.size : Int))))
theorem wringerref1_GetVint.mono_l : ∀ k, (∀ y0 y1 y2, LeO (wringerref1_GetVint.j0 k y0 y1 y2) (wringerref1_GetVint.j0 (k + 1) y0 y1 y2)) ∧ (∀ y0 y1 y2 y3, LeO (wringerref1_GetVint.l0 k y0 y1 y2 y3) (wringerref1_GetVint.l0 (k + 1) y0 y1 y2 y3))
  | 0 => ⟨fun _ _ _ r h => by simp [wringerref1_GetVint.j0] at h, fun _ _ _ _ r h => by simp [wringerref1_GetVint.l0] at h⟩
  | k + 1 => by
    obtain ⟨ih0, ih1⟩ := wringerref1_GetVint.mono_l k
    refine ⟨?_, ?_⟩
    · intro y0 y1 y2
      unfold wringerref1_GetVint.j0
      repeat' first
      | (with_reducible exact ih0 _ _ _)
      | (with_reducible exact ih1 _ _ _ _)
      | (with_reducible exact wringerref1_PutVint.mono _ _)
      | (with_reducible exact LeO.refl _)
      | (with_reducible exact LeO.none _)
      | (with_reducible refine LeO.ite ?_ ?_)
      | (with_reducible refine LeO.bind ?_ (fun _ => ?_))
      | exact ih0 _ _ _
      | exact ih1 _ _ _ _
      | exact wringerref1_PutVint.mono _ _
      | exact LeO.none _
      | refine LeO.ite ?_ ?_
      | refine LeO.bind ?_ (fun _ => ?_)
    · intro y0 y1 y2 y3
      unfold wringerref1_GetVint.l0
      repeat' first
      | (with_reducible exact ih0 _ _ _)
      | (with_reducible exact ih1 _ _ _ _)
      | (with_reducible exact wringerref1_PutVint.mono _ _)
      | (with_reducible exact LeO.refl _)
      | (with_reducible exact LeO.none _)
      | (with_reducible refine LeO.ite ?_ ?_)
      | (with_reducible refine LeO.bind ?_ (fun _ => ?_))
      | exact ih0 _ _ _
      | exact ih1 _ _ _ _
      | exact wringerref1_PutVint.mono _ _
      | exact LeO.none _
      | refine LeO.ite ?_ ?_
      | refine LeO.bind ?_ (fun _ => ?_)
theorem wringerref1_GetVint.mono : ∀ a0 a1 k, LeO (wringerref1_GetVint.f k a0 a1) (wringerref1_GetVint.f (k + 1) a0 a1) := by
  intro a0 a1 k
  obtain ⟨ih0, ih1⟩ := wringerref1_GetVint.mono_l k
  unfold wringerref1_GetVint.f
  repeat' first
      | (with_reducible exact ih0 _ _ _)
      | (with_reducible exact ih1 _ _ _ _)
      | (with_reducible exact wringerref1_PutVint.mono _ _)
      | (with_reducible exact LeO.refl _)
      | (with_reducible exact LeO.none _)
      | (with_reducible refine LeO.ite ?_ ?_)
      | (with_reducible refine LeO.bind ?_ (fun _ => ?_))
      | exact ih0 _ _ _
      | exact ih1 _ _ _ _
      | exact wringerref1_PutVint.mono _ _
      | exact LeO.none _
      | refine LeO.ite ?_ ?_
      | refine LeO.bind ?_ (fun _ => ?_)
def wringerref1_GetVint.T12 : Bool × List (List Nat × List Nat) := (true, [([], []), ([0], [0]), ([], []), ([], []), ([], []), ([], []), ([4, 5], [4, 5]), ([6], [6]), ([2, 3, 7], [2, 3, 7]), ([1, 8], [1, 8])])
def wringerref1_GetVint.B12 : List Nat := [0, 1, 0, 0, 0, 0, 48, 112, 252, 511]
theorem wringerref1_GetVint.tab12 : rtab .any (opsOf Try.f46 12) = wringerref1_GetVint.T12 := by kernel_rfl
theorem wringerref1_GetVint.bits12 : waitsOk wringerref1_GetVint.T12.2 wringerref1_GetVint.B12 = true := by kernel_rfl
set_option maxHeartbeats 8000000 in
set_option maxRecDepth 100000 in
theorem wringerref1_GetVint.calls (k : Nat) (a0 : ByteArray) (a1 : Int) (r1 : Int) (r2 : Int) (r3 : Int) (w : World) (h : wringerref1_GetVint.f k a0 a1 = some (r1, r2, r3)) :
    Calls Try.prog 46 #[.string a0, .int .i64 a1] w fun e w' => e = .returned (.agg #[.int .u64 r1, .int .i64 r2, .int .i64 r3]) ∧ Below w.heap.size w w' := by
  have hu107 := Try.underlying107
  have HB := Aside0.mk (Below.refl w.heap.size w)
  have H : (if a1 < 0 then (wringerref1_GetVint.j0 k a0 a1 true) else (wringerref1_GetVint.j0 k a0 a1 (decide (a1 > (a0.size : Int))))) = some (r1, r2, r3) := h
  clear h
  have HC3 := Aside0.mk H
  clear H
  go_enter Try.func46, Try.ntmps46
  go_upto_region 1 with (first | ((with_reducible refine gate_dst (N := 4) rfl ?_); (try (refine gate_guard (by rfl) ?_; dsimp only)); refine box_event ?hg (N := 4) ?hd (cs := #[.int .u64 0, .int .i64 0, .int .i64 0]) (t := 107) ?hr ?_; (case hd => rfl); (case hg => rfl); (case hr => first | (go_simp; done) | (go_simp; rfl)); intro gb217 hg w4 hbox hb; have n0_ := Aside0.mk (below_step (by repeat (first | (with_reducible first | exact HB.out | apply below_alloc | apply pw_below_drewN | apply below_drew1) | exact HB.out)) hb); have n1_ := Aside0.mk (hbox); have n2_ := Aside0.mk ((by rw [hg]; exact (below_size (by repeat (first | (with_reducible first | exact HB.out | apply below_alloc | apply pw_below_drewN | apply below_drew1) | exact HB.out))) : w.heap.size ≤ gb217)); have n3_ := Aside0.mk ((by rw [hg]; exact (below_size (by repeat (first | (with_reducible first | exact HB.out | apply below_alloc | apply pw_below_drewN | apply below_drew1) | exact HB.out))) : w.heap.size ≤ gb217)); clear HB; have HB := n0_; have BK217 := n1_; have GW217 := n2_; have GE217 := n3_; clear n0_ n1_ n2_ n3_; clear hb hbox hg))
  (try simp only [Act.put, List.setIfInBounds_toArray, List.set_cons_zero, List.set_cons_succ])
  go_cut [15] (fun v15 wc => ∃ (kq : Nat) (x15_2 : Bool), v15 = .bool x15_2 ∧ Aside0 (wringerref1_GetVint.j0 kq a0 a1 x15_2 = some (r1, r2, r3)) ∧ Aside0 (kq ≤ k) ∧ Aside0 (wc.heap[gb217]? = some (.cells #[.int .u64 0, .int .i64 0, .int .i64 0] 107 (0, 0))) ∧ Aside0 (Below w.heap.size w wc))
  case first =>
    have H := HC3.out
    clear HC3
    by_cases c5 : a1 < 0
    · rw [if_pos c5] at H
      have c5b0 : decide (a1 < 0) = true := decide_eq_true c5
      clear c5
      (first | rw [c5b0] | (simp only [i64_w, i32_w]; rw [c5b0]) | skip)
      have H' := Aside0.mk H
      clear H
      go_wp2
      go_meet
      case rel => exact ⟨_, (true), (by first | rfl | (simp; done) | (simp [*]; done)), H', ⟨by first | omega | exact Nat.le_refl _⟩, ⟨by (with_reducible repeat (first | refine blk_drewN ?_ _ | refine blk_drew ?_ | refine blk_alloc ?_ _)); exact BK217.out⟩, ⟨by repeat (first | (with_reducible first | exact HB.out | apply below_alloc | apply pw_below_drewN | apply below_drew1 | refine below_set ?_ GE217.out) | exact HB.out)⟩⟩
    · rw [if_neg c5] at H
      have c5b0 : decide (a1 < 0) = false := decide_eq_false c5
      clear c5
      (first | rw [c5b0] | (simp only [i64_w, i32_w]; rw [c5b0]) | skip)
      have H' := Aside0.mk H
      clear H
      go_wp2
      go_meet
      case rel => exact ⟨_, (decide (a1 > (a0.size : Int))), (by first | rfl | (simp; done) | (simp [*]; done)), H', ⟨by first | omega | exact Nat.le_refl _⟩, ⟨by (with_reducible repeat (first | refine blk_drewN ?_ _ | refine blk_drew ?_ | refine blk_alloc ?_ _)); exact BK217.out⟩, ⟨by repeat (first | (with_reducible first | exact HB.out | apply below_alloc | apply pw_below_drewN | apply below_drew1 | refine below_set ?_ GE217.out) | exact HB.out)⟩⟩
  case rest =>
    clear HC3
    try clear p2
    try clear c4
    try clear c5
    try clear c5b0
    obtain ⟨kq, x15_2, rfl, HA, HJ2, BK217, HB⟩ := hcut
    cases kq with
    | zero => exact absurd HA.out (by simp [wringerref1_GetVint.j0])
    | succ kj2 =>
      have H := HA.out
      clear HA
      simp only [wringerref1_GetVint.j0] at H
      by_cases c6 : x15_2 = true
      · subst c6
        have H1 : (some (0, 0, 1)) = some (r1, r2, r3) := by rw [if_pos rfl] at H; exact H
        clear H
        have H := H1
        clear H1
        simp only [Option.some.injEq, Prod.mk.injEq] at H
        obtain ⟨rfl, rfl, rfl⟩ := H
        have hcz7_0 : wc.cell? ⟨gb217, 0, none⟩ = some (.int .u64 0) := (blk_cell BK217.out 0).trans rfl
        have hcz7_1 : wc.cell? ⟨gb217, 1, none⟩ = some (.int .i64 0) := (blk_cell BK217.out 1).trans rfl
        have hcz7_2 : wc.cell? ⟨gb217, 2, none⟩ = some (.int .i64 0) := (blk_cell BK217.out 2).trans rfl
        have hfz7_0 := blk_frozen BK217.out 0
        have hfz7_1 := blk_frozen BK217.out 1
        have hfz7_2 := blk_frozen BK217.out 2
        go_wp2
        refine bodyPost_ret (results_cell_row rfl _ _ gb217 107 #[.int .u64 0, .int .i64 0, .int .i64 1] (0, 0) _ rfl (by (with_reducible repeat (first | refine blk_drewN ?_ _ | refine blk_drew ?_ | refine blk_alloc ?_ _)); refine blk_put (cs := #[.int .u64 0, .int .i64 0, .int .i64 0]) ?_ 2 _ rfl; (with_reducible repeat (first | refine blk_drewN ?_ _ | refine blk_drew ?_ | refine blk_alloc ?_ _)); refine blk_put (cs := #[.int .u64 0, .int .i64 0, .int .i64 0]) ?_ 1 _ rfl; (with_reducible repeat (first | refine blk_drewN ?_ _ | refine blk_drew ?_ | refine blk_alloc ?_ _)); refine blk_put (cs := #[.int .u64 0, .int .i64 0, .int .i64 0]) ?_ 0 _ rfl; (with_reducible repeat (first | refine blk_drewN ?_ _ | refine blk_drew ?_ | refine blk_alloc ?_ _)); exact BK217.out) Try.underlying107 rfl (by kernel_rfl)) rfl ?_
        exact ⟨by first | rfl | (simp [errW_none, errW_some] <;> rfl) | (simp [*, errW_none, errW_some] <;> rfl), by repeat (first | (with_reducible first | exact HB.out | apply below_alloc | apply pw_below_drewN | apply below_drew1 | refine below_set ?_ GE217.out) | exact HB.out)⟩
      · replace c6 := Bool.eq_false_iff.mpr c6
        subst c6
        have H1 : (wringerref1_GetVint.l0 kj2 a0 a1 0 0) = some (r1, r2, r3) := by rw [if_neg (show ¬ (false = true) by decide)] at H; exact H
        clear H
        have H := H1
        clear H1
        have H' := Aside0.mk H
        clear H
        go_wp2
        go_loopg [5, 6] kj2 (fun kq v5 v6 w' => ∃ (x5_2 : Int) (x6_2 : Int) (x218000_2 : Int) (x218001_2 : Int) (x218002_2 : Int), v5 = .int .u64 x5_2 ∧ v6 = .int .i64 x6_2 ∧ Aside0 (wringerref1_GetVint.l0 kq a0 a1 x5_2 x6_2 = some (r1, r2, r3)) ∧ Aside0 (kq ≤ kj2) ∧ Aside0 (w'.heap[gb217]? = some (.cells #[.int .u64 x218000_2, .int .i64 x218001_2, .int .i64 x218002_2] 107 (0, 0))) ∧ Aside0 (Below w.heap.size w w'))
        case atStart => exact ⟨(0), (0), (0), (0), (0), (by first | rfl | (simp; done) | (simp [*]; done)), (by first | rfl | (simp; done) | (simp [*]; done)), H', ⟨Nat.le_refl _⟩, ⟨by (with_reducible repeat (first | refine blk_drewN ?_ _ | refine blk_drew ?_ | refine blk_alloc ?_ _)); exact BK217.out⟩, ⟨by repeat (first | (with_reducible first | exact HB.out | apply below_alloc | apply pw_below_drewN | apply below_drew1 | refine below_set ?_ GE217.out) | exact HB.out)⟩⟩
        case round =>
          clear H'
          try clear p2
          try clear c4
          try clear c5
          try clear c5b0
          try clear c6
          try clear hcz7_0
          try clear hcz7_1
          try clear hcz7_2
          try clear hfz7_0
          try clear hfz7_1
          try clear hfz7_2
          try clear p2
          obtain ⟨x5_2, x6_2, x218000_2, x218001_2, x218002_2, rfl, rfl, HA, HK2, BK217, HB⟩ := hrel
          cases gk with
          | zero => exact absurd HA.out (by simp [wringerref1_GetVint.l0])
          | succ k2 =>
            have H := HA.out
            clear HA
            simp only [wringerref1_GetVint.l0] at H
            by_cases c8 : x6_2 < 10
            · rw [if_pos c8] at H
              have c8b0 : decide (x6_2 < 10) = true := decide_eq_true c8
              clear c8
              by_cases c9 : (wrap64 (a1 + x6_2)) ≥ (a0.size : Int)
              · rw [if_pos c9] at H
                have c9b0 : decide ((a0.size : Int) ≤ (wrap64 (a1 + x6_2))) = true := decide_eq_true c9
                clear c9
                simp only [Option.some.injEq, Prod.mk.injEq] at H
                obtain ⟨rfl, rfl, rfl⟩ := H
                have hcz10_0 : wr.cell? ⟨gb217, 0, none⟩ = some (.int .u64 x218000_2) := (blk_cell BK217.out 0).trans rfl
                have hcz10_1 : wr.cell? ⟨gb217, 1, none⟩ = some (.int .i64 x218001_2) := (blk_cell BK217.out 1).trans rfl
                have hcz10_2 : wr.cell? ⟨gb217, 2, none⟩ = some (.int .i64 x218002_2) := (blk_cell BK217.out 2).trans rfl
                have hfz10_0 := blk_frozen BK217.out 0
                have hfz10_1 := blk_frozen BK217.out 1
                have hfz10_2 := blk_frozen BK217.out 2
                go_wp2
                refine bodyPost_ret (results_cell_row rfl _ _ gb217 107 #[.int .u64 0, .int .i64 0, .int .i64 2] (0, 0) _ rfl (by (with_reducible repeat (first | refine blk_drewN ?_ _ | refine blk_drew ?_ | refine blk_alloc ?_ _)); refine blk_put (cs := #[.int .u64 0, .int .i64 0, .int .i64 x218002_2]) ?_ 2 _ rfl; (with_reducible repeat (first | refine blk_drewN ?_ _ | refine blk_drew ?_ | refine blk_alloc ?_ _)); refine blk_put (cs := #[.int .u64 0, .int .i64 x218001_2, .int .i64 x218002_2]) ?_ 1 _ rfl; (with_reducible repeat (first | refine blk_drewN ?_ _ | refine blk_drew ?_ | refine blk_alloc ?_ _)); refine blk_put (cs := #[.int .u64 x218000_2, .int .i64 x218001_2, .int .i64 x218002_2]) ?_ 0 _ rfl; (with_reducible repeat (first | refine blk_drewN ?_ _ | refine blk_drew ?_ | refine blk_alloc ?_ _)); exact BK217.out) Try.underlying107 rfl (by kernel_rfl)) rfl ?_
                exact ⟨by first | rfl | (simp [errW_none, errW_some] <;> rfl) | (simp [*, errW_none, errW_some] <;> rfl), by repeat (first | (with_reducible first | exact HB.out | apply below_alloc | apply pw_below_drewN | apply below_drew1 | refine below_set ?_ GE217.out) | exact HB.out)⟩
              · rw [if_neg c9] at H
                have c9b0 : decide ((a0.size : Int) ≤ (wrap64 (a1 + x6_2))) = false := decide_eq_false c9
                clear c9
                obtain ⟨ji11, hji11⟩ : ∃ j_ : Int, (wrap64 (a1 + x6_2)) = j_ := ⟨_, rfl⟩
                replace H : (if 0 ≤ (ji11) then (if (ji11) < (a0.size : Int) then (if 0 ≤ (wrap64 (7 * x6_2)) then (if (bt a0 (ji11)) < 128 then ((wringerref1_PutVint.f k2 (Go.bits .or .u64 x5_2 (shl .u64 (IntKind.u64.wrap (Go.bits .and .u8 (bt a0 (ji11)) 127)) (wrap64 (7 * x6_2))))).bind fun t218 => (if 0 ≤ a1 then (if a1 ≤ (wrap64 ((ji11) + 1)) then (if (wrap64 ((ji11) + 1)) ≤ (a0.size : Int) then (if t218.toList = (a0.extract (a1 : Int).toNat ((wrap64 ((ji11) + 1)) : Int).toNat).toList then (some (Go.bits .or .u64 x5_2 (shl .u64 (IntKind.u64.wrap (Go.bits .and .u8 (bt a0 (ji11)) 127)) (wrap64 (7 * x6_2))), wrap64 ((ji11) + 1), 0)) else (some (0, 0, 3))) else (none)) else (none)) else (none))) else (wringerref1_GetVint.l0 k2 a0 a1 (Go.bits .or .u64 x5_2 (shl .u64 (IntKind.u64.wrap (Go.bits .and .u8 (bt a0 (ji11)) 127)) (wrap64 (7 * x6_2)))) (wrap64 (x6_2 + 1)))) else (none)) else (none)) else (none)) = some (r1, r2, r3) := by first | (rw [hji11] at H; exact H) | (simp only [hji11] at H ⊢; exact H)
                (try rw [hji11] at c9b0)
                have hji11w : (IntKind.i64.wrap (a1 + x6_2)) = ji11 := (i64_w _).trans hji11
                by_cases c12 : 0 ≤ (ji11)
                · rw [if_pos c12] at H
                  have c12b0 : decide (0 ≤ (ji11)) = true := decide_eq_true c12
                  clear c12
                  by_cases c13 : (ji11) < (a0.size : Int)
                  · rw [if_pos c13] at H
                    have c13b0 : decide ((ji11) < (a0.size : Int)) = true := decide_eq_true c13
                    clear c13
                    obtain ⟨ji15, hji15⟩ : ∃ j_ : Int, (wrap64 (7 * x6_2)) = j_ := ⟨_, rfl⟩
                    replace H : (if 0 ≤ (ji15) then (if (bt a0 (ji11)) < 128 then ((wringerref1_PutVint.f k2 (Go.bits .or .u64 x5_2 (shl .u64 (IntKind.u64.wrap (Go.bits .and .u8 (bt a0 (ji11)) 127)) (ji15)))).bind fun t218 => (if 0 ≤ a1 then (if a1 ≤ (wrap64 ((ji11) + 1)) then (if (wrap64 ((ji11) + 1)) ≤ (a0.size : Int) then (if t218.toList = (a0.extract (a1 : Int).toNat ((wrap64 ((ji11) + 1)) : Int).toNat).toList then (some (Go.bits .or .u64 x5_2 (shl .u64 (IntKind.u64.wrap (Go.bits .and .u8 (bt a0 (ji11)) 127)) (ji15)), wrap64 ((ji11) + 1), 0)) else (some (0, 0, 3))) else (none)) else (none)) else (none))) else (wringerref1_GetVint.l0 k2 a0 a1 (Go.bits .or .u64 x5_2 (shl .u64 (IntKind.u64.wrap (Go.bits .and .u8 (bt a0 (ji11)) 127)) (ji15))) (wrap64 (x6_2 + 1)))) else (none)) = some (r1, r2, r3) := by first | (rw [hji15] at H; exact H) | (simp only [hji15] at H ⊢; exact H)
                    have hji15w : (IntKind.i64.wrap (7 * x6_2)) = ji15 := (i64_w _).trans hji15
                    by_cases c16 : 0 ≤ (ji15)
                    · rw [if_pos c16] at H
                      have c16b0 := eq_true c16
                      have c16b1 : decide (0 ≤ (ji15)) = true := decide_eq_true c16
                      clear c16
                      obtain ⟨ji17, hji17⟩ : ∃ j_ : Int, (shl .u64 (IntKind.u64.wrap (Go.bits .and .u8 (bt a0 (ji11)) 127)) (ji15)) = j_ := ⟨_, rfl⟩
                      replace H : (if (bt a0 (ji11)) < 128 then ((wringerref1_PutVint.f k2 (Go.bits .or .u64 x5_2 (ji17))).bind fun t218 => (if 0 ≤ a1 then (if a1 ≤ (wrap64 ((ji11) + 1)) then (if (wrap64 ((ji11) + 1)) ≤ (a0.size : Int) then (if t218.toList = (a0.extract (a1 : Int).toNat ((wrap64 ((ji11) + 1)) : Int).toNat).toList then (some (Go.bits .or .u64 x5_2 (ji17), wrap64 ((ji11) + 1), 0)) else (some (0, 0, 3))) else (none)) else (none)) else (none))) else (wringerref1_GetVint.l0 k2 a0 a1 (Go.bits .or .u64 x5_2 (ji17)) (wrap64 (x6_2 + 1)))) = some (r1, r2, r3) := by first | (rw [hji17] at H; exact H) | (simp only [hji17] at H ⊢; exact H)
                      have hji17_ : (IntKind.u64.wrap ((IntKind.u64.wrap (Go.bits .and .u8 (bt a0 (ji11)) 127)) * 2 ^ min (ji15).toNat 64)) = ji17 := hji17
                      have hji17z : (ji15) ≤ 64 → (IntKind.u64.wrap ((IntKind.u64.wrap (Go.bits .and .u8 (bt a0 (ji11)) 127)) * 2 ^ (ji15).toNat)) = ji17 := shl_small hji17
                      by_cases c18 : (bt a0 (ji11)) < 128
                      · rw [if_pos c18] at H
                        have c18b0 : decide ((bt a0 (ji11)) < 128) = true := decide_eq_true c18
                        clear c18
                        replace H := Option.bind_eq_some_iff.mp H
                        obtain ⟨t218, A190, H⟩ := H
                        replace H : (if 0 ≤ a1 then (if a1 ≤ (wrap64 ((ji11) + 1)) then (if (wrap64 ((ji11) + 1)) ≤ (a0.size : Int) then (if t218.toList = (a0.extract (a1 : Int).toNat ((wrap64 ((ji11) + 1)) : Int).toNat).toList then (some (Go.bits .or .u64 x5_2 (ji17), wrap64 ((ji11) + 1), 0)) else (some (0, 0, 3))) else (none)) else (none)) else (none)) = some (r1, r2, r3) := H
                        have A19 := Aside0.mk A190
                        clear A190
                        by_cases c20 : 0 ≤ a1
                        · rw [if_pos c20] at H
                          have c20b0 := eq_true c20
                          have c20b1 : decide (0 ≤ a1) = true := decide_eq_true c20
                          clear c20
                          by_cases c21 : a1 ≤ (wrap64 ((ji11) + 1))
                          · rw [if_pos c21] at H
                            have c21b0 := eq_true c21
                            have c21b1 : decide (a1 ≤ (wrap64 ((ji11) + 1))) = true := decide_eq_true c21
                            by_cases c22 : (wrap64 ((ji11) + 1)) ≤ (a0.size : Int)
                            · rw [if_pos c22] at H
                              have c22b0 := eq_true c22
                              have c22b1 : decide ((wrap64 ((ji11) + 1)) ≤ (a0.size : Int)) = true := decide_eq_true c22
                              by_cases c23 : t218.toList = (a0.extract (a1 : Int).toNat ((wrap64 ((ji11) + 1)) : Int).toNat).toList
                              · rw [if_pos c23] at H
                                have c23b0 : (t218.toList == (a0.extract (a1 : Int).toNat ((wrap64 ((ji11) + 1)) : Int).toNat).toList) = true := beq_iff_eq.mpr c23
                                have c23b1 : (t218.toList != (a0.extract (a1 : Int).toNat ((wrap64 ((ji11) + 1)) : Int).toNat).toList) = false := bne_eq_false_iff_eq.mpr c23
                                clear c23
                                simp only [Option.some.injEq, Prod.mk.injEq] at H
                                obtain ⟨rfl, rfl, rfl⟩ := H
                                have p14 : 0 ≤ ((ji11) : Int) := of_decide_eq_true (by first | (with_reducible assumption) | assumption)
                                have q14 : (ji11) < (a0.size : Int) := of_decide_eq_true (by first | (with_reducible assumption) | assumption)
                                have hx14 := bt_at a0 (ji11)
                                replace p14 := eq_true p14
                                replace q14 := eq_true q14
                                try go_wp2
                                have n0_ := Aside0.mk (blk_drew BK217.out)
                                have n1_ := Aside0.mk (below_drew1 HB.out)
                                clear BK217
                                clear HB
                                have BK217 := n0_
                                have HB := n1_
                                clear n0_ n1_
                                refine start_ (n := 10) (S := fun w' => True) (ds := []) #[false, false, false, false, false, false, false, false, false, false] (by kernel_rfl) rfl rfl trivial (fun hHeld => ?_); refine with_tabW wringerref1_GetVint.tab12 wringerref1_GetVint.bits12 (fun HT_ HW_ => ?_)
                                generalize wr.drew = w24 at BK217 HB hHeld ⊢
                                refine pure_ (i := 0) (N := some 43) (v := ?_) (a' := ?_) #[true, false, false, false, false, false, false, false, false, false] rfl rfl (any_of HT_.out (by kernel_rfl)) (fun _ _ _ h => h) (Or.inl ⟨by rfl, ?_⟩) ?_ ?_
                                rotate_left
                                · intro w'
                                  go_simp
                                  with_reducible rfl
                                rotate_left
                                · simp only [Act.put, List.setIfInBounds_toArray, List.set_cons_zero, List.set_cons_succ, i64_w, i32_w]
                                  rfl
                                refine pure_ (i := 2) (N := some 45) (v := ?_) (a' := ?_) #[true, false, true, false, false, false, false, false, false, false] rfl rfl (any_of HT_.out (by kernel_rfl)) (fun _ _ _ h => h) (Or.inl ⟨by rfl, ?_⟩) ?_ ?_
                                rotate_left
                                · intro w'
                                  go_simp
                                  with_reducible rfl
                                rotate_left
                                · simp only [Act.put, List.setIfInBounds_toArray, List.set_cons_zero, List.set_cons_succ, i64_w, i32_w]
                                  rfl
                                refine pure_ (i := 3) (N := some 46) (v := ?_) (a' := ?_) #[true, false, true, true, false, false, false, false, false, false] rfl rfl (any_of HT_.out (by kernel_rfl)) (fun _ _ _ h => h) (Or.inl ⟨by rfl, ?_⟩) ?_ ?_
                                rotate_left
                                · intro w'
                                  go_simp
                                  with_reducible rfl
                                rotate_left
                                · simp only [Act.put, List.setIfInBounds_toArray, List.set_cons_zero, List.set_cons_succ, i64_w, i32_w]
                                  rfl
                                refine pure_ (i := 4) (N := some 47) (v := ?_) (a' := ?_) #[true, false, true, true, true, false, false, false, false, false] rfl rfl (any_of HT_.out (by kernel_rfl)) (fun _ _ _ h => h) (Or.inl ⟨by rfl, ?_⟩) ?_ ?_
                                rotate_left
                                · intro w'
                                  go_simp
                                  with_reducible rfl
                                rotate_left
                                · simp only [Act.put, List.setIfInBounds_toArray, List.set_cons_zero, List.set_cons_succ, i64_w, i32_w]
                                  rfl
                                refine pure_ (i := 5) (N := some 48) (v := ?_) (a' := ?_) #[true, false, true, true, true, true, false, false, false, false] rfl rfl (any_of HT_.out (by kernel_rfl)) (fun _ _ _ h => h) (Or.inl ⟨by rfl, ?_⟩) ?_ ?_
                                rotate_left
                                · intro w'
                                  go_simp
                                  with_reducible rfl
                                rotate_left
                                · simp only [Act.put, List.setIfInBounds_toArray, List.set_cons_zero, List.set_cons_succ, i64_w, i32_w]
                                  rfl
                                refine pure_ (i := 6) (N := some 49) (v := ?_) (a' := ?_) #[true, false, true, true, true, true, true, false, false, false] rfl rfl (any_of HT_.out (by kernel_rfl)) (fun _ _ _ h => h) (Or.inl ⟨by rfl, ?_⟩) ?_ ?_
                                rotate_left
                                · intro w'
                                  go_simp
                                  with_reducible rfl
                                rotate_left
                                · simp only [Act.put, List.setIfInBounds_toArray, List.set_cons_zero, List.set_cons_succ, i64_w, i32_w]
                                  rfl
                                refine pure_ (i := 7) (N := some 50) (v := ?_) (a' := ?_) #[true, false, true, true, true, true, true, true, false, false] rfl rfl (any_of HT_.out (by kernel_rfl)) (fun _ _ _ h => h) (Or.inl ⟨by rfl, ?_⟩) ?_ ?_
                                rotate_left
                                · intro w'
                                  go_simp
                                  with_reducible rfl
                                rotate_left
                                · simp only [Act.put, List.setIfInBounds_toArray, List.set_cons_zero, List.set_cons_succ, i64_w, i32_w]
                                  rfl
                                refine pure_ (i := 8) (N := some 51) (v := ?_) (a' := ?_) #[true, false, true, true, true, true, true, true, true, false] rfl rfl (any_of HT_.out (by kernel_rfl)) (fun _ _ _ h => h) (Or.inl ⟨by rfl, ?_⟩) ?_ ?_
                                rotate_left
                                · intro w'
                                  go_simp
                                  with_reducible rfl
                                rotate_left
                                · simp only [Act.put, List.setIfInBounds_toArray, List.set_cons_zero, List.set_cons_succ, i64_w, i32_w]
                                  rfl
                                refine one_ (i := 1) (N := some 44) #[true, true, true, true, true, true, true, true, true, false] rfl rfl (one_of HT_.out (by kernel_rfl)) (by decide) (fun K hK => ?_)
                                refine goes_ Try.func44 (by kernel_rfl) rfl #[.int .u64 (Go.bits .or .u64 x5_2 (ji17))] (by rfl) rfl rfl (by (try simp only [List.map_toArray, List.map_cons, List.map_nil]); first | done | (simp only [hji17]; rfl) | rfl | (simp only [List.length_drop, List.length_take]; rfl)) ?_
                                with_reducible refine (wringerref1_PutVint.calls k2 (Go.bits .or .u64 x5_2 (ji17)) t218 _ A19.out).mono ?_
                                rintro e w25 ⟨rfl, hb⟩
                                refine ⟨_, rfl, ?_⟩
                                have n0_ := Aside0.mk (blk_below (g := gb217) (o := .cells #[.int .u64 x218000_2, .int .i64 x218001_2, .int .i64 x218002_2] 107 (0, 0)) (by (with_reducible repeat (first | refine blk_drewN ?_ _ | refine blk_drew ?_ | refine blk_alloc ?_ _)); exact BK217.out) hb)
                                have n1_ := Aside0.mk (below_step (by repeat (first | (with_reducible first | exact HB.out | apply below_alloc | apply pw_below_drewN | apply below_drew1 | refine below_set ?_ GE217.out) | exact HB.out)) hb)
                                clear BK217
                                clear HB
                                have BK217 := n0_
                                have HB := n1_
                                clear n0_ n1_
                                (try clear hb)
                                (try clear hb2)
                                (try clear hk)
                                (try clear hi)
                                refine hK.out _ _ trivial (fun hHeld => ?_)
                                clear hK K
                                refine norm_ (a' := ?_) ?_ ?_
                                rotate_left
                                · show Act.put _ (some 44) _ = _
                                  simp only [Act.put, List.setIfInBounds_toArray, List.set_cons_zero, List.set_cons_succ, i64_w, i32_w]
                                  rfl
                                refine pure_ (i := 9) (N := some 52) (v := ?_) (a' := ?_) #[true, true, true, true, true, true, true, true, true, true] rfl rfl (any_of HT_.out (by kernel_rfl)) (fun _ _ _ h => h) (Or.inl ⟨by rfl, ?_⟩) ?_ ?_
                                rotate_left
                                · intro w'
                                  go_simp
                                  with_reducible rfl
                                rotate_left
                                · simp only [Act.put, List.setIfInBounds_toArray, List.set_cons_zero, List.set_cons_succ, i64_w, i32_w]
                                  rfl
                                refine done_ (done_of HT_.out (by kernel_rfl)) ?_
                                have hcz26_0 : w25.cell? ⟨gb217, 0, none⟩ = some (.int .u64 x218000_2) := (blk_cell BK217.out 0).trans rfl
                                have hcz26_1 : w25.cell? ⟨gb217, 1, none⟩ = some (.int .i64 x218001_2) := (blk_cell BK217.out 1).trans rfl
                                have hcz26_2 : w25.cell? ⟨gb217, 2, none⟩ = some (.int .i64 x218002_2) := (blk_cell BK217.out 2).trans rfl
                                have hfz26_0 := blk_frozen BK217.out 0
                                have hfz26_1 := blk_frozen BK217.out 1
                                have hfz26_2 := blk_frozen BK217.out 2
                                try go_wp2
                                refine bodyPost_ret (results_cell_row rfl _ _ gb217 107 #[.int .u64 (Go.bits .or .u64 x5_2 (ji17)), .int .i64 (wrap64 ((ji11) + 1)), .int .i64 0] (0, 0) _ rfl (by (with_reducible repeat (first | refine blk_drewN ?_ _ | refine blk_drew ?_ | refine blk_alloc ?_ _)); refine blk_put (cs := #[.int .u64 (Go.bits .or .u64 x5_2 (ji17)), .int .i64 (wrap64 ((ji11) + 1)), .int .i64 x218002_2]) ?_ 2 _ rfl; (with_reducible repeat (first | refine blk_drewN ?_ _ | refine blk_drew ?_ | refine blk_alloc ?_ _)); refine blk_put (cs := #[.int .u64 (Go.bits .or .u64 x5_2 (ji17)), .int .i64 x218001_2, .int .i64 x218002_2]) ?_ 1 _ rfl; (with_reducible repeat (first | refine blk_drewN ?_ _ | refine blk_drew ?_ | refine blk_alloc ?_ _)); refine blk_put (cs := #[.int .u64 x218000_2, .int .i64 x218001_2, .int .i64 x218002_2]) ?_ 0 _ rfl; (with_reducible repeat (first | refine blk_drewN ?_ _ | refine blk_drew ?_ | refine blk_alloc ?_ _)); exact BK217.out) Try.underlying107 rfl (by kernel_rfl)) rfl ?_
                                exact ⟨by first | rfl | (simp [errW_none, errW_some] <;> rfl) | (simp only [← hji11, ← hji15, ← hji17]; first | rfl | (simp [errW_none, errW_some] <;> rfl)) | (simp [*, errW_none, errW_some] <;> rfl), by repeat (first | (with_reducible first | exact HB.out | apply below_alloc | apply pw_below_drewN | apply below_drew1 | refine below_set ?_ GE217.out) | exact HB.out)⟩
                              · rw [if_neg c23] at H
                                have c23b0 : (t218.toList == (a0.extract (a1 : Int).toNat ((wrap64 ((ji11) + 1)) : Int).toNat).toList) = false := beq_eq_false_iff_ne.mpr c23
                                have c23b1 : (t218.toList != (a0.extract (a1 : Int).toNat ((wrap64 ((ji11) + 1)) : Int).toNat).toList) = true := bne_iff_ne.mpr c23
                                simp only [Option.some.injEq, Prod.mk.injEq] at H
                                obtain ⟨rfl, rfl, rfl⟩ := H
                                have p14 : 0 ≤ ((ji11) : Int) := of_decide_eq_true (by first | (with_reducible assumption) | assumption)
                                have q14 : (ji11) < (a0.size : Int) := of_decide_eq_true (by first | (with_reducible assumption) | assumption)
                                have hx14 := bt_at a0 (ji11)
                                replace p14 := eq_true p14
                                replace q14 := eq_true q14
                                try go_wp2
                                have n0_ := Aside0.mk (blk_drew BK217.out)
                                have n1_ := Aside0.mk (below_drew1 HB.out)
                                clear BK217
                                clear HB
                                have BK217 := n0_
                                have HB := n1_
                                clear n0_ n1_
                                refine start_ (n := 10) (S := fun w' => True) (ds := []) #[false, false, false, false, false, false, false, false, false, false] (by kernel_rfl) rfl rfl trivial (fun hHeld => ?_); refine with_tabW wringerref1_GetVint.tab12 wringerref1_GetVint.bits12 (fun HT_ HW_ => ?_)
                                generalize wr.drew = w27 at BK217 HB hHeld ⊢
                                refine pure_ (i := 0) (N := some 43) (v := ?_) (a' := ?_) #[true, false, false, false, false, false, false, false, false, false] rfl rfl (any_of HT_.out (by kernel_rfl)) (fun _ _ _ h => h) (Or.inl ⟨by rfl, ?_⟩) ?_ ?_
                                rotate_left
                                · intro w'
                                  go_simp
                                  with_reducible rfl
                                rotate_left
                                · simp only [Act.put, List.setIfInBounds_toArray, List.set_cons_zero, List.set_cons_succ, i64_w, i32_w]
                                  rfl
                                refine pure_ (i := 2) (N := some 45) (v := ?_) (a' := ?_) #[true, false, true, false, false, false, false, false, false, false] rfl rfl (any_of HT_.out (by kernel_rfl)) (fun _ _ _ h => h) (Or.inl ⟨by rfl, ?_⟩) ?_ ?_
                                rotate_left
                                · intro w'
                                  go_simp
                                  with_reducible rfl
                                rotate_left
                                · simp only [Act.put, List.setIfInBounds_toArray, List.set_cons_zero, List.set_cons_succ, i64_w, i32_w]
                                  rfl
                                refine pure_ (i := 3) (N := some 46) (v := ?_) (a' := ?_) #[true, false, true, true, false, false, false, false, false, false] rfl rfl (any_of HT_.out (by kernel_rfl)) (fun _ _ _ h => h) (Or.inl ⟨by rfl, ?_⟩) ?_ ?_
                                rotate_left
                                · intro w'
                                  go_simp
                                  with_reducible rfl
                                rotate_left
                                · simp only [Act.put, List.setIfInBounds_toArray, List.set_cons_zero, List.set_cons_succ, i64_w, i32_w]
                                  rfl
                                refine pure_ (i := 4) (N := some 47) (v := ?_) (a' := ?_) #[true, false, true, true, true, false, false, false, false, false] rfl rfl (any_of HT_.out (by kernel_rfl)) (fun _ _ _ h => h) (Or.inl ⟨by rfl, ?_⟩) ?_ ?_
                                rotate_left
                                · intro w'
                                  go_simp
                                  with_reducible rfl
                                rotate_left
                                · simp only [Act.put, List.setIfInBounds_toArray, List.set_cons_zero, List.set_cons_succ, i64_w, i32_w]
                                  rfl
                                refine pure_ (i := 5) (N := some 48) (v := ?_) (a' := ?_) #[true, false, true, true, true, true, false, false, false, false] rfl rfl (any_of HT_.out (by kernel_rfl)) (fun _ _ _ h => h) (Or.inl ⟨by rfl, ?_⟩) ?_ ?_
                                rotate_left
                                · intro w'
                                  go_simp
                                  with_reducible rfl
                                rotate_left
                                · simp only [Act.put, List.setIfInBounds_toArray, List.set_cons_zero, List.set_cons_succ, i64_w, i32_w]
                                  rfl
                                refine pure_ (i := 6) (N := some 49) (v := ?_) (a' := ?_) #[true, false, true, true, true, true, true, false, false, false] rfl rfl (any_of HT_.out (by kernel_rfl)) (fun _ _ _ h => h) (Or.inl ⟨by rfl, ?_⟩) ?_ ?_
                                rotate_left
                                · intro w'
                                  go_simp
                                  with_reducible rfl
                                rotate_left
                                · simp only [Act.put, List.setIfInBounds_toArray, List.set_cons_zero, List.set_cons_succ, i64_w, i32_w]
                                  rfl
                                refine pure_ (i := 7) (N := some 50) (v := ?_) (a' := ?_) #[true, false, true, true, true, true, true, true, false, false] rfl rfl (any_of HT_.out (by kernel_rfl)) (fun _ _ _ h => h) (Or.inl ⟨by rfl, ?_⟩) ?_ ?_
                                rotate_left
                                · intro w'
                                  go_simp
                                  with_reducible rfl
                                rotate_left
                                · simp only [Act.put, List.setIfInBounds_toArray, List.set_cons_zero, List.set_cons_succ, i64_w, i32_w]
                                  rfl
                                refine pure_ (i := 8) (N := some 51) (v := ?_) (a' := ?_) #[true, false, true, true, true, true, true, true, true, false] rfl rfl (any_of HT_.out (by kernel_rfl)) (fun _ _ _ h => h) (Or.inl ⟨by rfl, ?_⟩) ?_ ?_
                                rotate_left
                                · intro w'
                                  go_simp
                                  with_reducible rfl
                                rotate_left
                                · simp only [Act.put, List.setIfInBounds_toArray, List.set_cons_zero, List.set_cons_succ, i64_w, i32_w]
                                  rfl
                                refine one_ (i := 1) (N := some 44) #[true, true, true, true, true, true, true, true, true, false] rfl rfl (one_of HT_.out (by kernel_rfl)) (by decide) (fun K hK => ?_)
                                refine goes_ Try.func44 (by kernel_rfl) rfl #[.int .u64 (Go.bits .or .u64 x5_2 (ji17))] (by rfl) rfl rfl (by (try simp only [List.map_toArray, List.map_cons, List.map_nil]); first | done | (simp only [hji17]; rfl) | rfl | (simp only [List.length_drop, List.length_take]; rfl)) ?_
                                with_reducible refine (wringerref1_PutVint.calls k2 (Go.bits .or .u64 x5_2 (ji17)) t218 _ A19.out).mono ?_
                                rintro e w28 ⟨rfl, hb⟩
                                refine ⟨_, rfl, ?_⟩
                                have n0_ := Aside0.mk (blk_below (g := gb217) (o := .cells #[.int .u64 x218000_2, .int .i64 x218001_2, .int .i64 x218002_2] 107 (0, 0)) (by (with_reducible repeat (first | refine blk_drewN ?_ _ | refine blk_drew ?_ | refine blk_alloc ?_ _)); exact BK217.out) hb)
                                have n1_ := Aside0.mk (below_step (by repeat (first | (with_reducible first | exact HB.out | apply below_alloc | apply pw_below_drewN | apply below_drew1 | refine below_set ?_ GE217.out) | exact HB.out)) hb)
                                clear BK217
                                clear HB
                                have BK217 := n0_
                                have HB := n1_
                                clear n0_ n1_
                                (try clear hb)
                                (try clear hb2)
                                (try clear hk)
                                (try clear hi)
                                refine hK.out _ _ trivial (fun hHeld => ?_)
                                clear hK K
                                refine norm_ (a' := ?_) ?_ ?_
                                rotate_left
                                · show Act.put _ (some 44) _ = _
                                  simp only [Act.put, List.setIfInBounds_toArray, List.set_cons_zero, List.set_cons_succ, i64_w, i32_w]
                                  rfl
                                refine pure_ (i := 9) (N := some 52) (v := ?_) (a' := ?_) #[true, true, true, true, true, true, true, true, true, true] rfl rfl (any_of HT_.out (by kernel_rfl)) (fun _ _ _ h => h) (Or.inl ⟨by rfl, ?_⟩) ?_ ?_
                                rotate_left
                                · intro w'
                                  go_simp
                                  with_reducible rfl
                                rotate_left
                                · simp only [Act.put, List.setIfInBounds_toArray, List.set_cons_zero, List.set_cons_succ, i64_w, i32_w]
                                  rfl
                                refine done_ (done_of HT_.out (by kernel_rfl)) ?_
                                have hcz29_0 : w28.cell? ⟨gb217, 0, none⟩ = some (.int .u64 x218000_2) := (blk_cell BK217.out 0).trans rfl
                                have hcz29_1 : w28.cell? ⟨gb217, 1, none⟩ = some (.int .i64 x218001_2) := (blk_cell BK217.out 1).trans rfl
                                have hcz29_2 : w28.cell? ⟨gb217, 2, none⟩ = some (.int .i64 x218002_2) := (blk_cell BK217.out 2).trans rfl
                                have hfz29_0 := blk_frozen BK217.out 0
                                have hfz29_1 := blk_frozen BK217.out 1
                                have hfz29_2 := blk_frozen BK217.out 2
                                try go_wp2
                                refine bodyPost_ret (results_cell_row rfl _ _ gb217 107 #[.int .u64 0, .int .i64 0, .int .i64 3] (0, 0) _ rfl (by (with_reducible repeat (first | refine blk_drewN ?_ _ | refine blk_drew ?_ | refine blk_alloc ?_ _)); refine blk_put (cs := #[.int .u64 0, .int .i64 0, .int .i64 x218002_2]) ?_ 2 _ rfl; (with_reducible repeat (first | refine blk_drewN ?_ _ | refine blk_drew ?_ | refine blk_alloc ?_ _)); refine blk_put (cs := #[.int .u64 0, .int .i64 x218001_2, .int .i64 x218002_2]) ?_ 1 _ rfl; (with_reducible repeat (first | refine blk_drewN ?_ _ | refine blk_drew ?_ | refine blk_alloc ?_ _)); refine blk_put (cs := #[.int .u64 x218000_2, .int .i64 x218001_2, .int .i64 x218002_2]) ?_ 0 _ rfl; (with_reducible repeat (first | refine blk_drewN ?_ _ | refine blk_drew ?_ | refine blk_alloc ?_ _)); exact BK217.out) Try.underlying107 rfl (by kernel_rfl)) rfl ?_
                                exact ⟨by first | rfl | (simp [errW_none, errW_some] <;> rfl) | (simp only [← hji11, ← hji15, ← hji17]; first | rfl | (simp [errW_none, errW_some] <;> rfl)) | (simp [*, errW_none, errW_some] <;> rfl), by repeat (first | (with_reducible first | exact HB.out | apply below_alloc | apply pw_below_drewN | apply below_drew1 | refine below_set ?_ GE217.out) | exact HB.out)⟩
                            · rw [if_neg c22] at H
                              exact absurd H (by simp)
                          · rw [if_neg c21] at H
                            exact absurd H (by simp)
                        · rw [if_neg c20] at H
                          exact absurd H (by simp)
                      · rw [if_neg c18] at H
                        have c18b0 : decide ((bt a0 (ji11)) < 128) = false := decide_eq_false c18
                        clear c18
                        have H' := Aside0.mk H
                        clear H
                        have p14 : 0 ≤ ((ji11) : Int) := of_decide_eq_true (by first | (with_reducible assumption) | assumption)
                        have q14 : (ji11) < (a0.size : Int) := of_decide_eq_true (by first | (with_reducible assumption) | assumption)
                        have hx14 := bt_at a0 (ji11)
                        replace p14 := eq_true p14
                        replace q14 := eq_true q14
                        go_wp2
                        go_roundg k2
                        case measure => have := HJ2.out; have := HK2.out; omega
                        case rel => exact ⟨(Go.bits .or .u64 x5_2 (ji17)), (wrap64 (x6_2 + 1)), (x218000_2), (x218001_2), (x218002_2), (by first | rfl | (simp; done) | (simp only [← hji17] <;> (first | rfl | simp)) | (simp [*]; done)), (by first | rfl | (simp; done) | (simp [*]; done)), H', ⟨by have := HJ2.out; have := HK2.out; omega⟩, ⟨by (with_reducible repeat (first | refine blk_drewN ?_ _ | refine blk_drew ?_ | refine blk_alloc ?_ _)); exact BK217.out⟩, ⟨by repeat (first | (with_reducible first | exact HB.out | apply below_alloc | apply pw_below_drewN | apply below_drew1 | refine below_set ?_ GE217.out) | exact HB.out)⟩⟩
                    · rw [if_neg c16] at H
                      exact absurd H (by simp)
                  · rw [if_neg c13] at H
                    exact absurd H (by simp)
                · rw [if_neg c12] at H
                  exact absurd H (by simp)
            · rw [if_neg c8] at H
              have c8b0 : decide (x6_2 < 10) = false := decide_eq_false c8
              clear c8
              simp only [Option.some.injEq, Prod.mk.injEq] at H
              obtain ⟨rfl, rfl, rfl⟩ := H
              have hcz30_0 : wr.cell? ⟨gb217, 0, none⟩ = some (.int .u64 x218000_2) := (blk_cell BK217.out 0).trans rfl
              have hcz30_1 : wr.cell? ⟨gb217, 1, none⟩ = some (.int .i64 x218001_2) := (blk_cell BK217.out 1).trans rfl
              have hcz30_2 : wr.cell? ⟨gb217, 2, none⟩ = some (.int .i64 x218002_2) := (blk_cell BK217.out 2).trans rfl
              have hfz30_0 := blk_frozen BK217.out 0
              have hfz30_1 := blk_frozen BK217.out 1
              have hfz30_2 := blk_frozen BK217.out 2
              go_wp2
              refine bodyPost_ret (results_cell_row rfl _ _ gb217 107 #[.int .u64 0, .int .i64 0, .int .i64 3] (0, 0) _ rfl (by (with_reducible repeat (first | refine blk_drewN ?_ _ | refine blk_drew ?_ | refine blk_alloc ?_ _)); refine blk_put (cs := #[.int .u64 0, .int .i64 0, .int .i64 x218002_2]) ?_ 2 _ rfl; (with_reducible repeat (first | refine blk_drewN ?_ _ | refine blk_drew ?_ | refine blk_alloc ?_ _)); refine blk_put (cs := #[.int .u64 0, .int .i64 x218001_2, .int .i64 x218002_2]) ?_ 1 _ rfl; (with_reducible repeat (first | refine blk_drewN ?_ _ | refine blk_drew ?_ | refine blk_alloc ?_ _)); refine blk_put (cs := #[.int .u64 x218000_2, .int .i64 x218001_2, .int .i64 x218002_2]) ?_ 0 _ rfl; (with_reducible repeat (first | refine blk_drewN ?_ _ | refine blk_drew ?_ | refine blk_alloc ?_ _)); exact BK217.out) Try.underlying107 rfl (by kernel_rfl)) rfl ?_
              exact ⟨by first | rfl | (simp [errW_none, errW_some] <;> rfl) | (simp [*, errW_none, errW_some] <;> rfl), by repeat (first | (with_reducible first | exact HB.out | apply below_alloc | apply pw_below_drewN | apply below_drew1 | refine below_set ?_ GE217.out) | exact HB.out)⟩

end Go.Proofs.Yteeegomdaebobaa.PA

-- ---- Ux
/- Whole numbers in bytes: what the print's functions come to. No program in sight. -/
namespace Go.Proofs.Yteeegomdaebobaa.PA
set_option maxRecDepth 100000
set_option linter.unusedVariables false
set_option linter.unusedSimpArgs false
open Go.RowKit Go.Proofs.YteeegomdaebobaaW.PrintWords Go.Proofs.YteeegomdaebobaaW.PrintLast Go.Proofs.YteeegomdaebobaaW.PrintMore Vt Np Bits VintH

theorem strOf_txt (l : List Nat) : strOfNums (l.map fun b : Nat => (b : Int)) = txt l := by
  unfold strOfNums txt
  rw [List.map_map]
  congr 2
set_option maxRecDepth 10000 in
theorem or128 (n : Nat) : Go.bits .or .u8 ((n : Int) % 256) 128 = ((n % 128 + 128 : Nat) : Int) := by
  have e : (n : Int) % 256 = ((n % 256 : Nat) : Int) := by omega
  have key : ∀ x : Fin 256, x.val ||| 128 = x.val % 128 + 128 := by decide
  rw [e]
  have h := u8_or_nat (n % 256) 128 (by omega) (by decide)
  rw [show ((128 : Nat) : Int) = 128 from rfl] at h
  have h2 := key ⟨n % 256, by omega⟩
  simp only at h2
  rw [h, h2]
  congr 1; omega
theorem vput_l0 (d : Nat) : ∀ (n : Nat) (acc : List Nat), n < 128 ^ (d + 1) → acc.length + d < 1000 → Ev (fun k => vint_Put.l0 k (n : Int) (acc.map fun b : Nat => (b : Int))) (txt (acc ++ putV n)) := by
  induction d with
  | zero =>
    intro n acc hn hl
    have hn : n < 128 := by simpa using hn
    refine Ev.step (f := fun _ => some (txt (acc ++ [n]))) (fun k => ?_) (Ev.ofSome (by rw [putV_lt hn]))
    simp only [vint_Put.l0, List.length_map]
    rw [if_neg (by omega), if_pos (by omega), show (n : Int) % 256 = (n : Int) by omega]
    have := strOf_txt (acc ++ [n])
    rw [List.map_append] at this
    rw [← this]; rfl
  | succ d ih =>
    intro n acc hn hl
    rcases Nat.lt_or_ge n 128 with h | h
    · refine Ev.step (f := fun _ => some (txt (acc ++ [n]))) (fun k => ?_) (Ev.ofSome (by rw [putV_lt h]))
      simp only [vint_Put.l0, List.length_map]
      rw [if_neg (by omega), if_pos (by omega), show (n : Int) % 256 = (n : Int) by omega]
      have := strOf_txt (acc ++ [n])
      rw [List.map_append] at this
      rw [← this]; rfl
    · have e : txt (acc ++ putV n) = txt ((acc ++ [n % 128 + 128]) ++ putV (n / 128)) := by rw [putV_ge h]; simp
      rw [e]
      refine Ev.step (f := fun k => vint_Put.l0 k ((n / 128 : Nat) : Int) ((acc ++ [n % 128 + 128]).map fun b : Nat => (b : Int))) (fun k => ?_) (ih (n / 128) (acc ++ [n % 128 + 128]) (by rw [Nat.div_lt_iff_lt_mul (by decide)]; rwa [Nat.pow_succ] at hn) (by simp; omega))
      simp only [vint_Put.l0, List.length_map]
      rw [if_pos (by omega), if_pos (by omega), or128, List.map_append]; rfl
theorem vput_is (n : Nat) (h : n < 18446744073709551616) : Ev (fun k => vint_Put.f k (n : Int)) (txt (putV n)) := by
  have := vput_l0 9 n [] (Nat.lt_trans h (by decide)) (by decide)
  simpa [vint_Put.f] using this
theorem rvput_l0 (d : Nat) : ∀ (n : Nat) (acc : List Nat), n < 128 ^ (d + 1) → acc.length + d < 1000 → Ev (fun k => wringerref1_PutVint.l0 k (n : Int) (acc.map fun b : Nat => (b : Int))) (txt (acc ++ putV n)) := by
  induction d with
  | zero =>
    intro n acc hn hl
    have hn : n < 128 := by simpa using hn
    refine Ev.step (f := fun _ => some (txt (acc ++ [n]))) (fun k => ?_) (Ev.ofSome (by rw [putV_lt hn]))
    simp only [wringerref1_PutVint.l0, List.length_map]
    rw [if_neg (by omega), if_pos (by omega), show (n : Int) % 256 = (n : Int) by omega]
    have := strOf_txt (acc ++ [n])
    rw [List.map_append] at this
    rw [← this]; rfl
  | succ d ih =>
    intro n acc hn hl
    rcases Nat.lt_or_ge n 128 with h | h
    · refine Ev.step (f := fun _ => some (txt (acc ++ [n]))) (fun k => ?_) (Ev.ofSome (by rw [putV_lt h]))
      simp only [wringerref1_PutVint.l0, List.length_map]
      rw [if_neg (by omega), if_pos (by omega), show (n : Int) % 256 = (n : Int) by omega]
      have := strOf_txt (acc ++ [n])
      rw [List.map_append] at this
      rw [← this]; rfl
    · have e : txt (acc ++ putV n) = txt ((acc ++ [n % 128 + 128]) ++ putV (n / 128)) := by rw [putV_ge h]; simp
      rw [e]
      refine Ev.step (f := fun k => wringerref1_PutVint.l0 k ((n / 128 : Nat) : Int) ((acc ++ [n % 128 + 128]).map fun b : Nat => (b : Int))) (fun k => ?_) (ih (n / 128) (acc ++ [n % 128 + 128]) (by rw [Nat.div_lt_iff_lt_mul (by decide)]; rwa [Nat.pow_succ] at hn) (by simp; omega))
      simp only [wringerref1_PutVint.l0, List.length_map]
      rw [if_pos (by omega), if_pos (by omega), or128, List.map_append]; rfl
theorem rvput_is (n : Nat) (h : n < 18446744073709551616) : Ev (fun k => wringerref1_PutVint.f k (n : Int)) (txt (putV n)) := by
  have := rvput_l0 9 n [] (Nat.lt_trans h (by decide)) (by decide)
  simpa [wringerref1_PutVint.f] using this

theorem bt_byteV (s : ByteArray) (i : Nat) (h : i < s.size) : bt s (i : Int) = (byteS s i : Int) := by
  unfold bt
  rw [dif_pos (by rw [Int.toNat_natCast]; exact h)]
  congr 1
  exact byteS_eq s i h
theorem toList_injV {a b : ByteArray} : a.toList = b.toList ↔ a = b := by
  constructor
  · intro h
    have : a.data.toList = b.data.toList := by simpa [ByteArray.toList_eq] using h
    exact ByteArray.ext (Array.toList_inj.1 this)
  · rintro rfl; rfl
theorem shl_u64v (x k : Nat) (hk : k ≤ 64) : shl .u64 (x : Int) (k : Int) = IntKind.u64.wrap ((x : Int) * 2 ^ k) := by
  unfold shl
  have e : min ((k : Int).toNat) (IntKind.bits .u64) = k := by simp [IntKind.bits]; omega
  first | rw [e] | (simp only [Int.toNat_natCast]; rw [Nat.min_eq_left (by simpa [IntKind.bits] using hk)])
/-- The number so far, as both reckon it. -/
theorem num_next (acc b i : Nat) (hi9 : i ≤ 9) (haccb : acc < 128 ^ i) : ∃ n : Nat, Go.bits .or .u64 (acc : Int) (IntKind.u64.wrap (((b % 128 : Nat) : Int) * 2 ^ (7 * i))) = (n : Int) ∧ n < 18446744073709551616 ∧ (¬ (i = 9 ∧ 1 < b % 128) → n = acc + 128 ^ i * (b % 128)) := by
  have hacc2 : acc < 18446744073709551616 := by
    have hp63 : (128 : Nat) ^ i ≤ 128 ^ 9 := Nat.pow_le_pow_right (by decide) hi9
    have : (128 : Nat) ^ 9 < 18446744073709551616 := by decide
    omega
  by_cases h9 : i = 9 ∧ 1 < b % 128
  · have hx : (IntKind.u64.wrap (((b % 128 : Nat) : Int) * 2 ^ (7 * i))) = ((((b % 128) * 2 ^ (7 * i)) % 18446744073709551616 : Nat) : Int) := by
      have e0 : ((b % 128 : Nat) : Int) * 2 ^ (7 * i) = (((b % 128) * 2 ^ (7 * i) : Nat) : Int) := by simp
      rw [e0, IntKind.wrap_u64]; rfl
    rw [hx, u64_or_nat _ _ hacc2 (Nat.mod_lt _ (by decide))]
    exact ⟨_, rfl, Nat.or_lt_two_pow (n := 64) hacc2 (Nat.mod_lt _ (by decide)), fun h => absurd h9 h⟩
  · rw [or_shl acc (b % 128) i hi9 haccb (Nat.mod_lt _ (by decide)) (fun h => Nat.not_lt.1 fun h2 => h9 ⟨h, h2⟩)]
    refine ⟨_, rfl, ?_, fun _ => rfl⟩
    by_cases h : i = 9
    · subst h
      have h1 : b % 128 ≤ 1 := Nat.not_lt.1 fun h2 => h9 ⟨rfl, h2⟩
      have h2 := Nat.mul_le_mul_left (128 ^ 9) h1
      have : (128 : Nat) ^ 9 = 9223372036854775808 := by decide
      rw [this] at *
      omega
    · have h2 := Nat.mul_le_mul_left (128 ^ i) (show b % 128 ≤ 127 by have := Nat.mod_lt b (show 0 < 128 by decide); omega)
      have h3 : (128 : Nat) ^ i ≤ 128 ^ 8 := Nat.pow_le_pow_right (by decide) (by omega)
      have : (128 : Nat) ^ 8 = 72057594037927936 := by decide
      omega
def resV (m : Nat) (r : Nat × Nat × Nat) : Int × Int × Int := if r.2.2 = 0 then ((r.1 : Int), (m : Int) + (r.2.1 : Int), 0) else (0, 0, (r.2.2 : Int))
theorem resV_bad (m e : Nat) (h : e ≠ 0) : resV m (0, 0, e) = (0, 0, (e : Int)) := by unfold resV; rw [if_neg h]
theorem goV_nil (d : Nat) (f : Bool) : goV (d + 1) f [] = (0, 0, 2) := by rw [goV]
theorem goV_zero (f : Bool) (l : List Nat) : goV 0 f l = (0, 0, 3) := by rw [goV]
theorem comb_err (i acc e : Nat) (h : e ≠ 0) : comb i acc (0, 0, e) = (0, 0, e) := by unfold comb; rw [if_neg h]
theorem vgetE_res (s : ByteArray) (m : Nat) (h : m ≤ s.size) : vgetE s (m : Int) = resV m (goV 10 true ((bsOf s).drop m)) := by
  unfold vgetE resV
  rw [if_neg (by omega), Int.toNat_natCast]
theorem rgetv_end (s : ByteArray) (m : Int) (x : Int) : Ev (fun k => wringerref1_GetVint.l0 k s m x 10) (0, 0, 3) :=
  Ev.step (f := fun _ => some (0, 0, 3)) (fun k => by simp only [wringerref1_GetVint.l0]; rw [if_neg (by omega)]) (Ev.now _)
theorem w_add (m i : Nat) (h : m + i < 4611686018427387904) : wrap64 ((m : Int) + (i : Int)) = ((m + i : Nat) : Int) := by rw [w64 (by omega) (by omega)]; rfl
theorem w_mul7 (i : Nat) (h : 7 * i < 4611686018427387904) : wrap64 (7 * (i : Int)) = ((7 * i : Nat) : Int) := by rw [w64 (by omega) (by omega)]; omega
theorem w_succ (m : Nat) (h : m + 1 < 4611686018427387904) : wrap64 ((m : Int) + 1) = ((m + 1 : Nat) : Int) := by rw [w64 (by omega) (by omega)]; rfl
theorem rgetv_l0 (s : ByteArray) (m : Nat) (hs : s.size ≤ 1000000000000) : ∀ (d i : Nat) (acc : Nat) (p : List Nat), i + d = 10 → m + i ≤ s.size → p.length = i → (∀ x ∈ p, 128 ≤ x ∧ x < 256) → acc = vval p → ((bsOf s).take (m + i)).drop m = p →
    Ev (fun k => wringerref1_GetVint.l0 k s (m : Int) (acc : Int) (i : Int)) (resV m (comb i acc (goV (10 - i) (decide (i = 0)) ((bsOf s).drop (m + i))))) := by
  intro d
  induction d with
  | zero =>
    intro i acc p hi hmi hp hpb hacc hpre
    have : i = 10 := by omega
    subst this
    refine evq ?_ (rgetv_end s (m : Int) (acc : Int))
    rw [Nat.sub_self, goV_zero, comb_err _ _ _ (by decide), resV_bad _ _ (by decide)]; rfl
  | succ d ih =>
    intro i acc p hi hmi hp hpb hacc hpre
    have hi9 : i ≤ 9 := by omega
    have hb1 : m + i + 1 < 4611686018427387904 := by omega
    have hb2 : m + i < 4611686018427387904 := by omega
    have hb3 : 7 * i < 4611686018427387904 := by omega
    have hb4 : i + 1 < 4611686018427387904 := by omega
    by_cases hend : s.size ≤ m + i
    · have hd : (bsOf s).drop (m + i) = [] := List.drop_eq_nil_of_le (by rw [length_bsOf]; omega)
      rw [hd, show 10 - i = (9 - i) + 1 by omega, goV_nil, comb_err _ _ _ (by decide), resV_bad _ _ (by decide)]
      refine Ev.step (f := fun _ => some (0, 0, 2)) (fun k => ?_) (Ev.ofSome rfl)
      simp only [wringerref1_GetVint.l0, w_add m i hb2]
      rw [if_pos (by omega), if_pos (by omega)]
    · have hlt : m + i < s.size := by omega
      have hat := bsOf_at s (m + i) hlt
      have hbt := bt_byteV s (m + i) hlt
      have hb := byteS_lt s (m + i)
      obtain ⟨b, hbb⟩ : ∃ b, b = byteS s (m + i) := ⟨_, rfl⟩
      rw [← hbb] at hat hbt hb
      have hpos : ¬ s.size ≤ m + i := hend
      have hpre2 : ((bsOf s).take (m + i + 1)).drop m = p ++ [b] := by
        have hl := length_bsOf s
        have e1 : (bsOf s).take (m + i + 1) = (bsOf s).take (m + i) ++ [b] := by
          rw [List.take_succ_eq_append_getElem (by omega)]
          congr 2
          have := List.drop_eq_getElem_cons (l := bsOf s) (i := m + i) (by omega)
          rw [hat] at this
          injection this with h1 _
          exact h1.symm
        rw [e1, List.drop_append_of_le_length (by rw [List.length_take]; omega), hpre]
      have hand : IntKind.u64.wrap (Go.bits .and .u8 (b : Int) 127) = ((b % 128 : Nat) : Int) := by rw [and127 b hb, IntKind.wrap_u64]; omega
      have hv : vval (p ++ [b]) = acc + 128 ^ i * (b % 128) := by rw [vval_append, hp, ← hacc]; simp [vval]
      have haccb : acc < 128 ^ i := by rw [hacc, ← hp]; exact vval_lt p
      -- the number so far
      obtain ⟨n, hn⟩ := num_next acc b i hi9 haccb
      rw [← hv] at hn
      obtain ⟨hn1, hn2, hn3⟩ := hn
      have hsh : shl .u64 ((b % 128 : Nat) : Int) ((7 * i : Nat) : Int) = IntKind.u64.wrap (((b % 128 : Nat) : Int) * 2 ^ (7 * i)) := shl_u64v _ _ (by omega)
      rw [hat]
      by_cases h128 : b < 128
      · -- the last one
        have hres : resV m (comb i acc (goV (10 - i) (decide (i = 0)) (b :: (bsOf s).drop (m + i + 1)))) = if putV n = p ++ [b] then ((n : Int), ((m + i + 1 : Nat) : Int), 0) else (0, 0, 3) := by
          by_cases h9 : i = 9 ∧ 1 < b % 128
          · rw [comb_bad i acc b _ _ hi9 h9, if_neg]
            · rw [resV_bad _ _ (by decide)]; rfl
            · intro h
              have := ((putV_is p b n hpb h128).1 h).1
              rw [hv, h9.1] at this
              have h3 := Nat.mul_le_mul_left (128 ^ 9) (show 2 ≤ b % 128 by omega)
              omega
          · have hnv := hn3 h9
            by_cases h0 : b = 0 ∧ decide (i = 0) = false
            · rw [comb_zero i acc b _ _ hi9 h9 h128 h0, if_neg]
              · rw [resV_bad _ _ (by decide)]; rfl
              · intro h
                rcases ((putV_is p b n hpb h128).1 h).2 with h | h
                · have := of_decide_eq_false h0.2
                  rw [h] at hp; simp at hp; omega
                · exact h h0.1
            · rw [comb_last i acc b _ _ hi9 h9 h128 h0, if_pos]
              · unfold resV
                rw [if_pos rfl, hnv, hv, Nat.mod_eq_of_lt h128]
                simp only [Prod.mk.injEq]
                exact ⟨trivial, by omega, trivial⟩
              · refine (putV_is p b n hpb h128).2 ⟨hnv, ?_⟩
                by_cases hb0 : b = 0
                · left
                  have : i = 0 := by
                    apply Classical.byContradiction
                    intro hne
                    exact h0 ⟨hb0, decide_eq_false hne⟩
                  exact List.length_eq_zero_iff.1 (by omega)
                · exact .inr hb0
        rw [show m + i + 1 = m + i + 1 from rfl, hres]
        refine Ev.step (f := fun k => (wringerref1_PutVint.f k (n : Int)).bind fun t177 => (if t177.toList = (s.extract m (m + i + 1)).toList then some ((n : Int), ((m + i + 1 : Nat) : Int), 0) else some (0, 0, 3))) (fun k => ?_) (Ev.bind (rvput_is n hn2) ?_)
        · simp only [wringerref1_GetVint.l0, w_add m i hb2, w_mul7 i hb3, hbt, hand, hsh, hn1, w_succ (m + i) hb1, Int.toNat_natCast]
          clear hbt hand hsh hn1 hres hpre hpre2 hv hacc
          have g1 : (0 : Int) ≤ (m : Int) := by omega
          have g2 : (m : Int) ≤ ((m + i + 1 : Nat) : Int) := by omega
          have g3 : ((m + i + 1 : Nat) : Int) ≤ (s.size : Int) := by omega
          rw [if_pos (by omega), if_neg (by omega), if_pos (by omega), if_pos (by omega), if_pos (by omega), if_pos (by omega)]
          simp only [g1, g2, g3, if_true]
        · have hq : (txt (putV n)).toList = (s.extract m (m + i + 1)).toList ↔ putV n = p ++ [b] := by
            rw [toList_injV]
            constructor
            · intro h
              have := congrArg bsOf h
              rwa [bsOf_txt _ (putV_byte n), bsOf_extract, hpre2] at this
            · intro h
              apply bsOf_inj
              rw [bsOf_txt _ (putV_byte n), bsOf_extract, hpre2, h]
          by_cases hc : putV n = p ++ [b]
          · rw [if_pos hc]; exact Ev.ite_pos (hq.2 hc) (Ev.now _)
          · rw [if_neg hc]; exact Ev.ite_neg (fun h => hc (hq.1 h)) (Ev.now _)
      · -- one more
        have step : ∀ k, wringerref1_GetVint.l0 (k + 1) s (m : Int) (acc : Int) (i : Int) = wringerref1_GetVint.l0 k s (m : Int) (n : Int) ((i + 1 : Nat) : Int) := fun k => by
          simp only [wringerref1_GetVint.l0, w_add m i hb2, w_mul7 i hb3, hbt, hand, hsh, hn1, w_succ i hb4]
          clear hbt hand hsh hn1 hpre hpre2 hv hacc
          rw [if_pos (by omega), if_neg (by omega), if_pos (by omega), if_pos (by omega), if_pos (by omega), if_neg (by omega)]
        by_cases h9 : i = 9 ∧ 1 < b % 128
        · rw [comb_bad i acc b _ _ hi9 h9, resV_bad _ _ (by decide)]
          obtain ⟨rfl, _⟩ := h9
          exact Ev.step (f := fun k => wringerref1_GetVint.l0 k s (m : Int) (n : Int) ((9 + 1 : Nat) : Int)) step (rgetv_end s (m : Int) (n : Int))
        · have hnv := hn3 h9
          rw [comb_more (bsOf s) i acc b _ _ hi9 h9 (by omega), ← hv, ← hnv]
          refine Ev.step (f := fun k => wringerref1_GetVint.l0 k s (m : Int) (n : Int) ((i + 1 : Nat) : Int)) step ?_
          have := ih (i + 1) n (p ++ [b]) (by omega) (by omega) (by simp; omega) (fun x hx => by
            rcases List.mem_append.1 hx with h | h
            · exact hpb x h
            · have : x = b := by simpa using h
              omega) hnv (by rw [show m + (i + 1) = m + i + 1 by omega]; exact hpre2)
          rw [show decide (i + 1 = 0) = false from rfl, show m + (i + 1) = m + i + 1 by omega] at this
          exact this
theorem rgetv_is (s : ByteArray) (a : Int) (hs : s.size ≤ 1000000000000) : Ev (fun k => wringerref1_GetVint.f k s a) (vgetE s a) := by
  unfold wringerref1_GetVint.f
  have bad : Ev (fun k => wringerref1_GetVint.j0 k s a true) (0, 0, 1) := Ev.step (f := fun _ => some (0, 0, 1)) (fun k => by simp only [wringerref1_GetVint.j0]; rfl) (Ev.now _)
  by_cases h0 : a < 0
  · have e : vgetE s a = (0, 0, 1) := by unfold vgetE; rw [if_pos (.inl h0)]
    rw [e]; exact Ev.ite_pos h0 bad
  · refine Ev.ite_neg h0 ?_
    by_cases h1 : a > (s.size : Int)
    · have e : vgetE s a = (0, 0, 1) := by unfold vgetE; rw [if_pos (.inr h1)]
      rw [e, decide_eq_true h1]; exact bad
    · obtain ⟨m, rfl⟩ := Int.eq_ofNat_of_zero_le (show 0 ≤ a by omega)
      have h := rgetv_l0 s m hs 10 0 0 [] rfl (by omega) rfl (fun x hx => by simp at hx) rfl (by rw [Nat.add_zero]; exact List.drop_eq_nil_of_le (by rw [List.length_take]; omega))
      rw [Nat.add_zero, show decide (0 = 0) = true from rfl, show 10 - 0 = 10 from rfl, comb_start _ (goV_err 10 true _), ← vgetE_res s m (by omega)] at h
      rw [decide_eq_false h1]
      refine Ev.step (f := fun k => wringerref1_GetVint.l0 k s (m : Int) ((0 : Nat) : Int) ((0 : Nat) : Int)) (fun k => ?_) h
      simp only [wringerref1_GetVint.j0]; rfl
end Go.Proofs.Yteeegomdaebobaa.PA

-- ---- Spu
/- states.Put: the bytes of parts: what the call answers. Conditions: those that each theorem names. -/
namespace Go.Proofs.Yteeegomdaebobaa.St
set_option maxRecDepth 100000
set_option linter.unusedSimpArgs false
set_option linter.unusedVariables false
open Go.RowKit Go.Shelf Go.Proofs.YteeegomdaebobaaW.PrintWords Mix _root_.Go.Proofs.Yteeegomdaebobaa.Own Bits Nl Sp
attribute [local go_sem] Own.max_int Own.min_int
attribute [local go_sem] Oper.semAt_some

set_option maxHeartbeats 2000000 in
theorem stput_form (A0 : Option Addr) (n0 c0 : Nat) (A1 : Option Addr) (c1 : Nat) (L : List Int) (a2 : Int) (ps : List (Int × Nat)) (w : World) (hr1 : Kd.C (Kd.int .i64) w A1 L.length L) (hc1 : L.length ≤ c1) (hm : mayN L a2 = false) :
    Calls Try.prog 13 #[.slice A0 n0 c0, .slice A1 L.length c1, .int .i64 a2] w fun e w' => e = .returned (.tuple #[.string (putSE L a2 ps).1, .int .i64 (putSE L a2 ps).2]) ∧ Below w.heap.size w w' := by
  have HC := kept (made_bad A1 c1 L a2 w hr1 hc1 hm)
  have hg : putSE L a2 ps = (⟨#[]⟩, 3) := by unfold putSE; rw [hm]; rfl
  rw [hg]
  obtain ⟨l, hl⟩ : ∃ l, l = L.length := ⟨_, rfl⟩
  rw [← hl] at HC ⊢
  clear hr1 hc1 hm hg hl
  go_enter Try.func13, Try.ntmps13
  go_wp2_with (go_at_call 26; refine HC.out.mono ?_; rintro e w1 ⟨rfl, hb⟩; have HB := kept hb; clear hb)
  go_ret2
  exact ⟨rfl, HB.out⟩

/-- A part's class, its rest. -/
def clsP (ps : List (Int × Nat)) (k : Nat) : Nat := (ps.getD k (0, 0)).1.toNat
def rstP (ps : List (Int × Nat)) (k : Nat) : Nat := (ps.getD k (0, 0)).2
theorem parts_at {w : World} {A : Option Addr} {n : Nat} {ps : List (Int × Nat)} {L : List Int} {m : Nat} (h : RdQ w A n ps) (hM : MayS L m) (hok : ∀ q ∈ ps, okS L q = true) {k : Nat} (hk : k < n) : ps[k]? = some ((clsP ps k : Int), rstP ps k) ∧ clsP ps k < 65 ∧ 0 < L.getD (clsP ps k) 0 ∧ rstP ps k < 2 ^ (clsP ps k - 1) := by
  have hl : k < ps.length := by rw [h.len]; exact hk
  have e : ps[k]? = some (ps.getD k (0, 0)) := by simp [List.getD_eq_getElem?_getD, List.getElem?_eq_getElem hl]
  obtain ⟨h1, h2, h3, h4, h5⟩ := okS_able hM (hok _ (List.mem_of_getElem? e))
  refine ⟨?_, h3, h4, h5⟩
  rw [e]
  unfold clsP rstP
  rw [Int.toNat_of_nonneg h1]
/-- A round's part in its box. -/
def BoxP (ps : List (Int × Nat)) {n : Nat} (F : Pl n → Nat → Act) (x : Pl n) (a' : Act) (W : World) : Prop := ∃ Bx, Blk W Bx #[.int .i64 (clsP ps x.1 : Int), .int .u64 (rstP ps x.1 : Int)] 58 ∧ a' = F x Bx
theorem boxP_own (ps : List (Int × Nat)) {n : Nat} (F : Pl n → Nat → Act) (C : Nat) (x : Pl n) (a' : Act) : OwnFrom C (fun (_ : Unit) W => BoxP ps F x a' W) := fun _ X Y row h hg hr => by
  obtain ⟨Bx, hb, he⟩ := h
  exact ⟨Bx, blk_turn hb hg (fun r e => (hr r e).2), he⟩
theorem rev_cls (ps : List (Int × Nat)) (n : Nat) (ys : List (Pl n)) (hy : ys.map Subtype.val = dnl n n) (hn : n = ps.length) : (ys.map fun x => clsP ps x.1).reverse = ps.map fun q => q.1.toNat := by
  have e : (ys.map fun x => clsP ps x.1) = (dnl n n).map (clsP ps) := by rw [← hy, List.map_map]; rfl
  rw [e]
  unfold dnl
  rw [List.map_map, ← List.map_reverse]
  apply List.ext_getElem
  · simp [hn]
  · intro j h1 h2
    simp only [List.length_map] at h2
    simp only [List.getElem_map, List.getElem_reverse, List.getElem_range, Function.comp, List.length_range]
    unfold clsP
    have : n - 1 - (n - 1 - j) = j := by omega
    rw [this]
    simp [List.getD_eq_getElem?_getD, h2]

theorem zip_fs {α β : Type} : ∀ l : List (α × β), (l.map Prod.fst).zip (l.map Prod.snd) = l
  | [] => rfl
  | a :: t => by simp [zip_fs t]
theorem cls_nat (ps : List (Int × Nat)) : (ps.map natS).map Prod.fst = ps.map fun q => q.1.toNat := by rw [List.map_map]; rfl
theorem cls_of {L : List Int} {m : Nat} (hM : MayS L m) {ps : List (Int × Nat)} (hok : ∀ q ∈ ps, okS L q = true) : ∀ d ∈ ps.map (fun q => q.1.toNat), d < 65 ∧ 0 < L.getD d 0 := fun d hd => by
  obtain ⟨q, hq, rfl⟩ := List.mem_map.1 hd
  have := (okS_able hM (hok q hq)).2.2
  exact ⟨this.1, this.2.1⟩
/-- What was sealed. -/
theorem seal_is {L : List Int} {m : Nat} (hM : MayS L m) {ps : List (Int × Nat)} (hok : ∀ q ∈ ps, okS L q = true) (n : Nat) (hn : n = ps.length + 1) :
    textOf (pack (catC ((encs L m (ps.map fun q => q.1.toNat)).2.map Prod.fst ++ [(encs L m (ps.map fun q => q.1.toNat)).1]) ((((encs L m (ps.map fun q => q.1.toNat)).2.map Prod.snd ++ [m]).map fun n : Nat => (n : Int))) n ++ [true])) = sealedP L m ((ps.map natS).map Prod.fst) := by
  rw [cls_nat]
  have h12 := hM.hi
  have hcl := cls_of hM hok
  obtain ⟨cs, hcs⟩ : ∃ cs, cs = ps.map fun q => q.1.toNat := ⟨_, rfl⟩
  have hl : cs.length = ps.length := by rw [hcs, List.length_map]
  rw [← hcs] at hcl ⊢
  have hb := encs_bits hM cs hcl
  have he := encs_len L m cs
  unfold sealedP markS
  have e1 : (encs L m cs).2.map Prod.fst ++ [(encs L m cs).1] = (toldP L m cs).map Prod.fst := by simp [toldP]
  have e2 : (encs L m cs).2.map Prod.snd ++ [m] = (toldP L m cs).map Prod.snd := by simp [toldP]
  rw [e1, e2, cat_bits _ _ (by simp) (fun n hn => by
    obtain ⟨q, hq, rfl⟩ := List.mem_map.1 hn
    simp only [toldP, List.mem_append, List.mem_singleton] at hq
    rcases hq with hq | rfl
    · have := (hb q hq).2; omega
    · simp only; omega) trivial n (by simp [toldP]; omega), zip_fs, List.take_of_length_le (by simp [toldP]; omega)]
theorem seal_size {L : List Int} {m : Nat} (hM : MayS L m) {ps : List (Int × Nat)} (hok : ∀ q ∈ ps, okS L q = true) (hl : ps.length ≤ 900) : (sealedP L m ((ps.map natS).map Prod.fst)).size ≤ 10000 := by
  rw [cls_nat]
  have h12 := hM.hi
  have hcl := cls_of hM hok
  obtain ⟨cs, hcs⟩ : ∃ cs, cs = ps.map fun q => q.1.toNat := ⟨_, rfl⟩
  have hl2 : cs.length = ps.length := by rw [hcs, List.length_map]
  rw [← hcs] at hcl ⊢
  have hb := encs_bits hM cs hcl
  have he := encs_len L m cs
  have := bitsP_len (toldP L m cs) (fun q hq => by
    simp only [toldP, List.mem_append, List.mem_singleton] at hq
    rcases hq with hq | rfl
    · have := (hb q hq).2; omega
    · simp only; omega)
  have h3 : (toldP L m cs).length = cs.length + 1 := by simp [toldP, he]
  unfold sealedP
  rw [markS_size]
  omega

set_option maxRecDepth 100000 in
set_option maxHeartbeats 16000000 in
theorem stput_calls (A0 : Option Addr) (n0 c0 : Nat) (A1 : Option Addr) (c1 : Nat) (L : List Int) (m : Nat) (ps : List (Int × Nat)) (w : World) (hr0 : RdQ w A0 n0 ps) (hr1 : Kd.C (Kd.int .i64) w A1 L.length L) (hc1 : L.length ≤ c1) (hm : mayN L (m : Int) = true) (hn : n0 ≤ 900) :
    Calls Try.prog 13 #[.slice A0 n0 c0, .slice A1 L.length c1, .int .i64 (m : Int)] w fun e w' => e = .returned (.tuple #[.string (putSE L (m : Int) ps).1, .int .i64 (putSE L (m : Int) ps).2]) ∧ Below w.heap.size w w' := by
  have HMd := kept (made_ok A1 c1 L m w hr1 hc1 hm)
  have HM := kept (mayS_of hm)
  have HMy := kept hm
  have HRd := kept (Own.rd_of_C hr1)
  have h65 := HM.out.len
  have HR := kept hr0
  rw [h65] at HMd HRd ⊢
  obtain ⟨B, hB⟩ : ∃ B, B = w.heap.size := ⟨_, rfl⟩
  have HBe := kept hB
  rw [← hB] at HMd ⊢
  clear hr0 hr1 hc1 hm h65 hB
  refine callsIn_wide.1 (callsIn_of_wp_marks (n := 9) Try.func13 rfl trivial ?_ rfl)
  simp only [Try.ntmps13, List.size_toArray, List.length_cons, List.length_nil, Nat.reduceAdd, Nat.reduceSub, Array.replicate_succ, Array.replicate_zero, List.push_toArray, List.append_toArray, List.nil_append, List.cons_append]
  refine wpIn_wide.2 ?_
  go_upto_region 4 with (go_at_call 26; refine HMd.out.mono ?_)
  rintro e w1 ⟨p, tv, R, rfl, hC, hRows, hb⟩
  have HC1 := kept hC
  have HRows := kept hRows
  have HB1 := kept hb
  clear hC hRows hb HMd
  go_upto_block 0 with fail
  go_wp2_with fail
  go_loopw [32] (fun s32 wr => ∃ i : Nat, i ≤ n0 ∧ s32 = .int .i64 (i : Int) ∧ (∀ q ∈ ps.take i, okS L q = true) ∧ Co B wr p (coC tv R 0 (.slice none 0 0) (.slice none 0 0)) tv (table L m) R (.slice none 0 0) [] (.slice none 0 0) [] ∧ Below B w wr) (fun s32 _ => n0 - (intOf s32).toNat)
  case atStart => exact ⟨0, Nat.zero_le _, rfl, by simp, HC1.out, HB1.out⟩
  case round =>
    obtain ⟨i, hi, rfl, hok, hC, hB⟩ := hrel
    obtain ⟨wq, rfl⟩ : ∃ wq, wq = wr := ⟨wr, rfl⟩
    have HOk := kept hok
    have HC := kept hC
    have HBl := kept hB
    clear hok hC hB HC1 HB1
    by_cases hlt : i < n0
    · obtain ⟨c, r, hpi⟩ : ∃ c r, ps[i]? = some (c, r) := ⟨_, _, List.getElem?_eq_getElem (by rw [HR.out.len]; exact hlt)⟩
      have hmem : (c, r) ∈ ps := List.mem_of_getElem? hpi
      obtain ⟨w0c, w1c, w2c⟩ := HR.out.wf _ hmem
      obtain ⟨x0, rfl, hcs⟩ := HR.out.at_ (by omega)
      obtain ⟨hc0, hc1⟩ := hcs i (c, r) hpi
      have hx0 : (x0.add (i * 2)).block < B := by rw [HBe.out]; exact World.block_lt_of_cell? w _ hc0
      have hx1 : (x0.add (i * 2 + 1)).block < B := by rw [HBe.out]; exact World.block_lt_of_cell? w _ hc1
      have k0 := (HBl.out.cell hx0).trans hc0
      have k1 := (HBl.out.cell hx1).trans hc1
      have k1b := cellN_next k1
      have htk : ps.take (i + 1) = ps.take i ++ [(c, r)] := by
        rw [List.take_succ_eq_append_getElem (by rw [HR.out.len]; exact hlt)]
        rw [List.getElem?_eq_getElem (by rw [HR.out.len]; exact hlt)] at hpi
        rw [Option.some.inj hpi]
      have HTk := kept htk
      have HMem := kept hmem
      clear hpi hmem hcs hc0 hc1 htk
      go_upto_region 7 with fail
      generalize hw3 : World.alloc wq _ = w3
      obtain ⟨gp, hgp⟩ : ∃ gp, gp = wq.heap.size := ⟨_, rfl⟩
      have hal : Below wq.heap.size wq w3 := by rw [← hw3]; exact (Below.refl _ _).alloc (Nat.le_refl _) _
      have hP3 : Blk w3 gp #[.int .i64 c, .int .u64 (r : Int)] 58 := by rw [hgp, ← hw3]; exact Blk.fresh _ _ _
      have HP3 := kept hP3
      have HC3 := kept (HC.out.later hal)
      have HB3 := kept (HBl.out.trans (hal.mono HC.out.sz))
      have p0 : w3.cell? ⟨gp, 0, none⟩ = some (.int .i64 c) := Blk.cell hP3 rfl
      have p1 : w3.cell? ⟨gp, 1, none⟩ = some (.int .u64 (r : Int)) := Blk.cell hP3 rfl
      have HJ : Own.Kept (Calls Try.prog 27 #[.agg #[.int .i64 c, .int .u64 (r : Int)]] w3 fun e w' => e = .returned (.tuple #[.int .i64 (Zig.join c r), .bool (Zig.may c r)]) ∧ Below w3.heap.size w3 w') := kept (zjoin_calls c r w3 w0c w1c w2c)
      rw [← hgp]
      clear hw3 hgp hal hP3 k0 k1 k1b hx0 hx1
      have hbad : okS L (c, r) = false → putSE L (m : Int) ps = (⟨#[]⟩, 1) := fun h => by
        unfold putSE
        rw [if_pos HMy.out, if_neg]
        intro hall
        have := List.all_eq_true.1 hall _ HMem.out
        rw [h] at this; cases this
      obtain ⟨jn, hjn⟩ : ∃ jn, jn = Zig.join c r := ⟨_, rfl⟩
      rw [← hjn] at HJ
      clear hjn
      cases hmay : Zig.may c r with
      | false =>
        rw [hmay] at HJ
        have HPe := kept (hbad (by unfold okS; rw [hmay]; rfl))
        clear hmay hbad
        go_wp2_with (go_at_call 27; refine HJ.out.mono ?_)
        rintro e w4 rfl hb4
        have HB4 := kept (HB3.out.trans (hb4.mono HC3.out.sz))
        clear hb4
        go_wp2_with fail
        exact ⟨_, results_tmp2 rfl _ _ _, by rw [HPe.out]; rfl, HB4.out⟩
      | true =>
        rw [hmay] at HJ
        have hm2 := hmay
        unfold Zig.may at hm2
        rw [Bool.and_eq_true, decide_eq_true_eq] at hm2
        obtain ⟨⟨hcl0, hcl1⟩, _⟩ := hm2
        obtain ⟨cN, rfl⟩ := Int.eq_ofNat_of_zero_le hcl0
        have hc64 : cN ≤ 64 := by omega
        obtain ⟨y, hy⟩ : ∃ y, y = L.getD cN 0 := ⟨_, rfl⟩
        have HY := kept hy
        have HMay := kept hmay
        clear hmay hcl0 hcl1 w0c w1c hy
        go_wp2_with (go_at_call 27; refine HJ.out.mono ?_)
        rintro e w4 rfl hb4
        have HP4 : Own.Kept (Blk w4 gp #[.int .i64 (cN : Int), .int .u64 (r : Int)] 58) := kept ((hb4.block gp (Blk.lt HP3.out)).trans HP3.out)
        have HC4 := kept (HC3.out.later hb4)
        have HB4 := kept (HB3.out.trans (hb4.mono HC3.out.sz))
        clear p0 p1
        have p0 : w4.cell? ⟨gp, 0, none⟩ = some (.int .i64 (cN : Int)) := Blk.cell HP4.out rfl
        have hrd := HRd.out.below HB4.out (fun g hg => by rw [HBe.out]; exact HRd.out.lt g hg)
        obtain ⟨x1, rfl, hxc⟩ := hrd.at (Own.ints_at .i64 L cN (by rw [HM.out.len]; omega))
        rw [← HY.out] at hxc
        clear hb4 hrd
        have hc65 : (cN : Int) < 65 := by omega
        by_cases hpos : y = 0
        · have HPe := kept (hbad (by unfold okS; rw [HMay.out, Int.toNat_natCast, ← HY.out, hpos]; rfl))
          have tz : (y == 0) = true := by rw [beq_iff_eq]; exact hpos
          clear hbad hpos
          go_wp2_with fail
          exact ⟨_, results_tmp2 rfl _ _ _, by rw [HPe.out]; rfl, HB4.out⟩
        · have tz : (y == 0) = false := by rw [beq_eq_false_iff_ne]; exact hpos
          have HOkc := kept (show okS L ((cN : Int), r) = true from by unfold okS; rw [HMay.out, Int.toNat_natCast, ← HY.out]; simpa using hpos)
          clear hbad hpos
          go_wp2_with fail
          go_roundw
          case rel => exact ⟨i + 1, by omega, by go_num, fun q hq => by
            rw [HTk.out] at hq
            rcases List.mem_append.1 hq with hq | hq
            · exact HOk.out q hq
            · rw [List.mem_singleton.1 hq]; exact HOkc.out, HC4.out, HB4.out⟩
          case measure => simp [intOf]; omega
    · have hie : i = n0 := by omega
      subst hie
      have htk : ps.take i = ps := List.take_of_length_le (by rw [HR.out.len]; exact Nat.le_refl _)
      rw [htk] at HOk
      clear htk hi hlt
      go_upto_region 12 with fail
      obtain ⟨w5, hw5⟩ : ∃ w_, w_ = World.alloc wq (.cells #[.func (.func 28) #[.pointer (some ⟨p, 0, none⟩)] #[]] 70) := ⟨_, rfl⟩
      obtain ⟨bf, hbf⟩ : ∃ b, b = wq.heap.size := ⟨_, rfl⟩
      have hb5 : Below wq.heap.size wq w5 := by rw [hw5]; exact (Below.refl _ _).alloc (Nat.le_refl _) _
      have HF5 : Own.Kept (Blk w5 bf #[.func (.func 28) #[.pointer (some ⟨p, 0, none⟩)] #[]] 70) := kept (by rw [hw5, hbf]; exact Blk.fresh _ _ _)
      have HC5 := kept (HC.out.later hb5)
      have HB5 := kept (HBl.out.trans (hb5.mono HC.out.sz))
      rw [← hw5, ← hbf]
      clear hw5 hbf hb5 HC HBl
      go_wp2_with (first | (go_at_call 29; refine (back_calls _ _ _ _ rfl _).mono ?_; rintro e w' ⟨rfl, rfl⟩))
      obtain ⟨w6, hw6⟩ : ∃ w_, w_ = World.alloc w5 (.cells #[.slice A0 i c0] 24) := ⟨_, rfl⟩
      obtain ⟨Bs, hBs⟩ : ∃ b, b = w5.heap.size := ⟨_, rfl⟩
      have hb6 : Below w5.heap.size w5 w6 := by rw [hw6]; exact (Below.refl _ _).alloc (Nat.le_refl _) _
      have hS6 : Blk w6 Bs #[.slice A0 i c0] 24 := by rw [hw6, hBs]; exact Blk.fresh _ _ _
      have HF6 : Own.Kept (Blk w6 bf #[.func (.func 28) #[.pointer (some ⟨p, 0, none⟩)] #[]] 70) := kept ((hb6.block bf HF5.out.lt).trans HF5.out)
      have HC6 := kept (HC5.out.later hb6)
      have HB6 := kept (HB5.out.trans (hb6.mono HC5.out.sz))
      have HS6 := kept hS6
      have hBsB : B ≤ Bs := by rw [hBs]; exact HC5.out.sz
      rw [← hw6, ← hBs]
      clear hw6 hBs hb6 HF5 HC5 HB5
      have hR6 := HR.out.later (show Below w.heap.size w w6 by rw [← HBe.out]; exact HB6.out)
      obtain ⟨g, hgA, hgc, hgl, hgB⟩ : ∃ g : Addr, (0 < i → A0 = some g) ∧ (∀ k, k < i → w6.cell? (g.add (k * 2)) = some (.int .i64 (clsP ps k : Int)) ∧ w6.cell? ⟨(g.add (k * 2)).block, (g.add (k * 2)).off + 1, none⟩ = some (.int .u64 (rstP ps k : Int))) ∧ g.block < w6.heap.size ∧ (g.block < B ∨ g.block = Bs) := by
        by_cases h0 : 0 < i
        · obtain ⟨x, hx, hc⟩ := hR6.at_ h0
          obtain ⟨x', hx', hc'⟩ := HR.out.at_ h0
          rw [hx] at hx'
          have hxx := Option.some.inj hx'
          subst hxx
          refine ⟨x, fun _ => hx, fun k hk => ?_, ?_, .inl ?_⟩
          · obtain ⟨e, _⟩ := parts_at HR.out HM.out HOk.out hk
            obtain ⟨a, b⟩ := hc k _ e
            exact ⟨a, cellN_next b⟩
          · obtain ⟨e, _⟩ := parts_at HR.out HM.out HOk.out h0
            have := World.block_lt_of_cell? w6 _ (hc 0 _ e).1
            simpa [Addr.add] using this
          · obtain ⟨e, _⟩ := parts_at HR.out HM.out HOk.out h0
            have := World.block_lt_of_cell? w _ (hc' 0 _ e).1
            rw [HBe.out]
            simpa [Addr.add] using this
        · exact ⟨⟨Bs, 0, none⟩, fun h => absurd h h0, fun k hk => absurd hk (by omega), hS6.lt, .inr rfl⟩
      have HG := kept (And.intro hgl hgB)
      clear hR6
      generalize hA : Act.mk _ _ = a0
      refine' wpIn_wide.1 (wpIn_rangeFunc_ownH (F := Fence.wide) (n := 9) rfl (by decide) (gf := 61) (lb := #[.pointer (some ⟨Bs, 0, none⟩)]) (by rw [← hA]; rfl) trivial (enters_of Try.func61 (by kernel_rfl) rfl)
        (back_stops 8 Bs A0 g i c0 hgA (by decide) (fun k => (clsP ps k : Int)) (fun k => (rstP ps k : Int)) (by omega) w6 hS6.lt hgl (hS6.cell rfl) hgc) KpB.trans (KpB.put hS6.lt hgl) (Below.refl _ _) (fun _ => rfl)
        (fun pre W => CoS B W p tv L m R ((pre.map fun x => clsP ps x.1).reverse) ∧ Blk W bf #[.func (.func 28) #[.pointer (some ⟨p, 0, none⟩)] #[]] 70 ∧ Blk W Bs #[.slice A0 i c0] 24 ∧ Below B w W)
        (fun _ _ _ => False) ?own (fun _ _ _ _ _ hs _ _ => hs) ⟨⟨_, _, HC6.out⟩, HF6.out, hS6, HB6.out⟩
        (BoxP ps (fun x Bx => { tmps := ((a0.tmps.setIfInBounds 56 (.int .i64 (x.1 : Int))).setIfInBounds 57 (.agg #[.int .i64 (clsP ps x.1 : Int), .int .u64 (rstP ps x.1 : Int)])).setIfInBounds 16 (.pointer (some ⟨Bx, 0, none⟩)), defers := [] })) (boxP_own ps _ _) ?assign ?body ?done ?stop)
      case own =>
        rintro s X Y row ⟨⟨vv, lv, hC⟩, hf, hs, hb⟩ hg hr
        exact ⟨⟨vv, lv, hC.turn hg (fun r e => (hr r e).2)⟩, blk_turn hf hg (fun r e => (hr r e).2), blk_turn hs hg (fun r e => (hr r e).2), hb.grown hg hC.sz (fun k e => Nat.le_trans HC6.out.sz (hr k e).1)⟩
      case stop =>
        rintro D c pre W _ _ h _
        exact h.elim
      case assign =>
        rintro l pre x W K ⟨⟨vv, lv, hC⟩, hf, hs, hb⟩ hK
        have hCk := kept hC
        have HFk := kept hf
        have HSk := kept hs
        have HBk := kept hb
        clear hC hf hs hb
        dsimp only [encP]
        rw [← hA]
        gi_wp2
        obtain ⟨Bx, hBx⟩ : ∃ b, b = W.heap.size := ⟨_, rfl⟩
        have hb7 : Below W.heap.size W (W.alloc (.cells #[.int .i64 (clsP ps x.1 : Int), .int .u64 (rstP ps x.1 : Int)] 58)) := (Below.refl _ _).alloc (Nat.le_refl _) _
        have hP7 : Blk (W.alloc (.cells #[.int .i64 (clsP ps x.1 : Int), .int .u64 (rstP ps x.1 : Int)] 58)) Bx #[.int .i64 (clsP ps x.1 : Int), .int .u64 (rstP ps x.1 : Int)] 58 := by rw [hBx]; exact Blk.fresh _ _ _
        have hK2 := fun a' => hK a' _ ((KeepsOthers.alloc W (.cells #[.int .i64 (clsP ps x.1 : Int), .int .u64 (rstP ps x.1 : Int)] 58)).from _)
        rw [← hBx]
        refine hK2 _ ⟨hb7.block Bs HSk.out.lt, ?_⟩ ⟨⟨_, _, hCk.out.later hb7⟩, (hb7.block bf HFk.out.lt).trans HFk.out, (hb7.block Bs HSk.out.lt).trans HSk.out, HBk.out.trans (hb7.mono hCk.out.sz)⟩ ⟨Bx, hP7, by rw [← hA]; rfl⟩
        rcases HG.out.2 with hgb | hgb
        · exact hb7.block g.block (Nat.lt_of_lt_of_le hgb hCk.out.sz)
        · rw [hgb]; exact hb7.block Bs HSk.out.lt
      case body =>
        rintro l pre x a' W hl ⟨r, hr⟩ ⟨hCS, hf, hs, hb⟩ ⟨Bx, hP, rfl⟩ hlen
        have hall : ∀ d ∈ clsP ps x.1 :: (pre.map fun x => clsP ps x.1).reverse, d < 65 ∧ 0 < L.getD d 0 := fun d hd => by
          rcases List.mem_cons.1 hd with rfl | hd
          · have := parts_at HR.out HM.out HOk.out x.2; exact ⟨this.2.1, this.2.2.1⟩
          · obtain ⟨y, _, rfl⟩ := List.mem_map.1 (List.mem_reverse.1 hd)
            have := parts_at HR.out HM.out HOk.out y.2; exact ⟨this.2.1, this.2.2.1⟩
        obtain ⟨vv, lv, hC, hcall⟩ := forthS hCS HM.out HRows.out hall (by rw [List.length_reverse, List.length_map]; omega)
        have HCall := kept hcall
        have HCk := kept hC
        have HFk := kept hf
        have HSk := kept hs
        have HBk := kept hb
        have kf := hf.cell (i := 0) rfl
        have kp := hP.cell (i := 0) rfl
        clear hcall hC hf hs hb hCS hall
        rw [← hA]
        simp only [List.setIfInBounds_toArray, List.set_cons_zero, List.set_cons_succ]
        gi_wp2_with (refine ⟨trivial, ?_⟩; gi_at_call 28; refine (CallsIn.inRound l (callsIn_wide.2 HCall.out)).mono ?_)
        rintro e W2 ⟨rfl, hCS2, hch⟩
        have hkf := HCk.out.keepsFrom hch w6.heap.size
        have hb2 := HCk.out.belowP hch
        have hf2 := hch.keep HFk.out (HCk.out.notP HFk.out (by decide) (by decide) (by decide))
        have hs2 := hch.keep HSk.out (HCk.out.notP HSk.out (by decide) (by decide) (by decide))
        have hkp : KpB Bs g.block W W2 := by
          refine ⟨by rw [show W2.heap[Bs]? = _ from hs2, show W.heap[Bs]? = _ from HSk.out], ?_⟩
          rcases HG.out.2 with hgb | hgb
          · exact hb2.block g.block hgb
          · rw [hgb, show W2.heap[Bs]? = _ from hs2, show W.heap[Bs]? = _ from HSk.out]
        have HFin := kept (show _ ∧ _ ∧ _ from ⟨hkf, hkp, (show CoS B W2 p tv L m R (((pre ++ [x]).map fun x => clsP ps x.1).reverse) ∧ _ ∧ _ ∧ _ from ⟨by simpa using hCS2, hf2, hs2, HBk.out.trans hb2⟩)⟩)
        clear hkf hb2 hf2 hs2 hkp hCS2 hch kf kp
        gi_wp2
        exact HFin.out
      case done =>
        rintro D ys W hD hys ⟨hCS, hf, hs, hb⟩ hK
        rw [rev_cls ps i ys hys HR.out.len.symm] at hCS
        obtain ⟨vv, lv, hC⟩ := hCS.ex
        have HC7 := kept hC
        have HB7 := kept hb
        have HDk := kept hK
        have HDB := kept (Nat.le_trans HC6.out.sz hD)
        clear hCS hf hs hb hK hys hD hC hgA hgc hgl hgB hS6 HC6 HF6 HB6 HS6 HG
        rw [← hA]
        clear hA
        have hcl := cls_of HM.out HOk.out
        have hsl := encs_lt HM.out _ hcl
        have hsi := seal_is HM.out HOk.out (i + 1) (by rw [HR.out.len])
        have hsz := seal_size HM.out HOk.out (by rw [HR.out.len]; exact hn)
        have hel := encs_len L m (ps.map fun q => q.1.toNat)
        rw [List.length_map, HR.out.len] at hel
        obtain ⟨E, hE⟩ : ∃ E, E = encs L m (ps.map fun q => q.1.toNat) := ⟨_, rfl⟩
        rw [← hE] at HC7 hsl hsi hel
        obtain ⟨st, E2⟩ := E
        simp only at HC7 hsl hsi hel
        obtain ⟨xs, hxs⟩ : ∃ xs, xs = E2.map Prod.fst := ⟨_, rfl⟩
        obtain ⟨ys, hys⟩ : ∃ ys, ys = E2.map Prod.snd := ⟨_, rfl⟩
        rw [← hxs, ← hys] at HC7 hsi
        have hxl : xs.length = i := by rw [hxs, List.length_map]; exact hel
        have hyl : ys.length = i := by rw [hys, List.length_map]; exact hel
        obtain ⟨S, hS⟩ : ∃ S, S = sealedP L m ((ps.map natS).map Prod.fst) := ⟨_, rfl⟩
        rw [← hS] at hsi hsz
        have HSi := kept hsi
        have HSz := kept hsz
        have HSe := kept hS
        have HSl := kept (show st < 2 ^ m ∧ 2 ^ m ≤ 4096 ∧ m ≤ 12 from ⟨hsl, pow12 m HM.out.hi, HM.out.hi⟩)
        have HLn := kept (show xs.length = i ∧ ys.length = i from ⟨hxl, hyl⟩)
        have hbit : Own.Kept ((∀ x ∈ xs ++ [st], x < 18446744073709551616) ∧ ∀ y ∈ ((ys ++ [m]).map fun n : Nat => (n : Int)), -9223372036854775808 ≤ y ∧ y ≤ 9223372036854775807) := kept (by
          have hb := encs_bits HM.out _ hcl
          rw [← hE] at hb
          simp only at hb
          refine ⟨fun x hx => ?_, fun y hy => ?_⟩
          · rcases List.mem_append.1 hx with hx | hx
            · rw [hxs] at hx
              obtain ⟨q, hq, rfl⟩ := List.mem_map.1 hx
              have := (hb q hq).1; have := HSl.out; omega
            · have := HSl.out; rw [List.mem_singleton.1 hx]; omega
          · obtain ⟨n, hn, rfl⟩ := List.mem_map.1 hy
            rcases List.mem_append.1 hn with hn | hn
            · rw [hys] at hn
              obtain ⟨q, hq, rfl⟩ := List.mem_map.1 hn
              have := (hb q hq).2; have := HSl.out; omega
            · have := HSl.out; rw [List.mem_singleton.1 hn]; omega)
        clear hcl hsl hsi hsz hel hE hxs hys hxl hyl hS
        have cst := HC7.out.blk.cell (coC_tail (tv := tv) (st := st) (vv := vv) (lv := lv) HC7.out.len).1
        have HPut := kept (cput_calls B p tv (table L m) R st lv ys vv xs st m W HC7.out (by have := HSl.out; omega) (by have := HLn.out; omega) (by have := HLn.out; omega))
        go_wp2_with (first | (go_at_call 30; refine HPut.out.mono ?_))
        rintro e W8 ⟨rfl, vv8, lv8, hC8, hch8⟩
        have HB8 := kept (HB7.out.trans (HC7.out.belowP hch8))
        have HD8 : Own.Kept (W8.heap[D]? = some (.deferred (some []))) := kept (HC7.out.keepsNo hch8 HDk.out rfl)
        have HC8 := kept hC8
        clear hC8 hch8 HPut HC7 HB7 HDk cst
        go_upto_region 16 with fail
        obtain ⟨av, cv, evv, _⟩ := HC8.out.vals.slice
        obtain ⟨al, cl, elv, _⟩ := HC8.out.lens.slice
        rw [len_nums, List.length_append, List.length_singleton, HLn.out.1] at evv
        rw [len_nums, List.length_append, List.length_singleton, HLn.out.2] at elv
        subst evv elv
        have q67 := lat_cell (HC8.out.blk.cell (coC_tail (tv := tv) (st := st) (vv := .slice av (i + 1) cv) (lv := .slice al (i + 1) cl) HC8.out.len).2.1)
        have q68 := lat_cell (HC8.out.blk.cell (coC_tail (tv := tv) (st := st) (vv := .slice av (i + 1) cv) (lv := .slice al (i + 1) cl) HC8.out.len).2.2)
        refine wp_region_mixL [] [0,1,2,3,4,5,6,7] [8,9] (by kernel_rfl) (by kernel_rfl) ?_
        intro K1 hK1
        simp only [pick, List.filterMap_cons, List.filterMap_nil, List.getElem?_cons_zero, List.getElem?_cons_succ]
        refine wpQuiet_nil ?_
        iterate 8 (show wpQuiet _ _ _ _ (_ :: _) _; go_big_quiet_step (fail))
        refine wpQuiet_nil ?_
        show wpList _ _ _ [_, _] _ _
        clear q67 q68
        have hd : Below W8.heap.size W8 W8.drew := (Below.refl _ _).drew
        have hR0 : Rd W8.drew (.slice av (i + 1) cv) (Own.nums .u64 (xs ++ [st])) := by
          exact (HC8.out.later hd).vals.rd
        have hR1 : Rd W8.drew (.slice al (i + 1) cl) (Own.ints .i64 ((ys ++ [m]).map fun n : Nat => (n : Int))) := by
          have h := (HC8.out.later hd).lens.rd
          have e : Own.ints .i64 ((ys ++ [m]).map fun n : Nat => (n : Int)) = Own.nums .i64 (ys ++ [m]) := by unfold Own.ints Own.nums; rw [List.map_map]; rfl
          rw [e]; exact h
        have hseal := seal_calls av (i + 1) cv (xs ++ [st]) al (i + 1) cl ((ys ++ [m]).map fun n : Nat => (n : Int)) W8.drew hR0 hR1 hbit.out.1 hbit.out.2 (i + 1) (by omega) (by omega) (by omega) (by omega)
        rw [HSi.out] at hseal
        have HSeal := kept hseal
        have HB9 : Own.Kept (Below B w W8.drew) := kept HB8.out.drew
        have HD9 : Own.Kept (W8.drew.heap[D]? = some (.deferred (some []))) := kept HD8.out
        have HS9 : Own.Kept (B ≤ W8.drew.heap.size) := kept HC8.out.sz
        clear hd hR0 hR1 hseal hbit HC8 HB8 HD8 HSi HRows
        generalize W8.drew = W9 at HSeal HB9 HD9 HS9 ⊢
        go_wp2_with (first | (go_at_call 31; refine HSeal.out.mono ?_))
        rintro e W10 ⟨rfl, hb10⟩
        have HB10 := kept (HB9.out.trans (hb10.mono HS9.out))
        have HD10 : Own.Kept (W10.heap[D]? = some (.deferred (some []))) := kept ((hb10.block D (Array.getElem?_eq_some_iff.1 HD9.out).1).trans HD9.out)
        have HS10 := kept (Nat.le_trans HS9.out hb10.size)
        clear hb10 HB9 HD9 HS9 HSeal
        go_wp2_with fail
        refine hK1 _ _ ?_
        clear hK1
        go_wp2_with (first | (go_at_call 32; refine (new_new B W10 HS10.out).mono ?_))
        rintro e W11 ⟨pw, rfl, hW11, hb11, hp11⟩
        have HB11 := kept (HB10.out.trans (hb11.mono HS10.out))
        have HD11 : Own.Kept (W11.heap[D]? = some (.deferred (some []))) := kept ((hb11.block D (Array.getElem?_eq_some_iff.1 HD10.out).1).trans HD10.out)
        have HS11 := kept (Nat.le_trans HS10.out hb11.size)
        have HW11 := kept hW11
        clear hW11 hb11 hp11 HB10 HD10 HS10
        go_upto_block 4 with fail
        go_wp2_with fail
        go_loopw [81] (fun s81 wr => ∃ (j : Nat) (v : Value), j ≤ i ∧ s81 = .int .i64 (j : Int) ∧ NewW B wr pw v (restsP ((ps.take j).map natS)) ∧ Below B w wr ∧ B ≤ wr.heap.size ∧ wr.heap[D]? = some (.deferred (some []))) (fun s81 _ => i - (intOf s81).toNat)
        case atStart => exact ⟨0, _, Nat.zero_le _, rfl, by simpa [restsP] using HW11.out, HB11.out, HS11.out, HD11.out⟩
        case round =>
          obtain ⟨j, v, hj, rfl, hW, hB, hS, hD⟩ := hrel
          obtain ⟨wk, rfl⟩ : ∃ wk, wk = wr := ⟨wr, rfl⟩
          have HWk := kept hW
          have HBk := kept hB
          have HSk := kept hS
          have HDk := kept hD
          clear hW hB hS hD HW11 HB11 HS11 HD11
          have hwh := HOk.out
          have hrl : (restsP ((ps.take j).map natS)).length ≤ 64 * 900 := by
            have h := restsP_len ((ps.take j).map natS) (fun q hq => by
              obtain ⟨q0, hq0, rfl⟩ := List.mem_map.1 hq
              exact (okS_able HM.out (HOk.out q0 (List.mem_of_mem_take hq0))).2.2.1)
            rw [List.length_map, List.length_take] at h
            omega
          have HRl := kept hrl
          clear hwh hrl
          by_cases hlt : j < i
          · obtain ⟨epj, hc65, hc0, hrst⟩ := parts_at HR.out HM.out HOk.out hlt
            obtain ⟨c, hc⟩ : ∃ c, c = clsP ps j := ⟨_, rfl⟩
            obtain ⟨r, hr⟩ : ∃ r, r = rstP ps j := ⟨_, rfl⟩
            rw [← hc, ← hr] at epj
            rw [← hc] at hc65
            obtain ⟨x0, rfl, hcs⟩ := HR.out.at_ (by omega)
            obtain ⟨hc0', hc1'⟩ := hcs j _ epj
            have w2c := (HR.out.wf _ (List.mem_of_getElem? epj)).2.2
            have hx0 : (x0.add (j * 2)).block < B := by rw [HBe.out]; exact World.block_lt_of_cell? w _ hc0'
            have hx1 : (x0.add (j * 2 + 1)).block < B := by rw [HBe.out]; exact World.block_lt_of_cell? w _ hc1'
            have k0 := (HBk.out.cell hx0).trans hc0'
            have k1 := (HBk.out.cell hx1).trans hc1'
            have k1b := cellN_next k1
            have htk : ps.take (j + 1) = ps.take j ++ [((c : Int), r)] := by
              have hl : j < ps.length := by rw [HR.out.len]; exact hlt
              rw [List.take_succ_eq_append_getElem hl]
              rw [List.getElem?_eq_getElem hl] at epj
              rw [Option.some.inj epj]
            have HTk := kept htk
            clear epj hc hr hcs hc0' hc1' hc0 hrst htk
            go_upto_region 21 with fail
            generalize hw3 : World.alloc wk _ = w3
            obtain ⟨gp, hgp⟩ : ∃ gp, gp = wk.heap.size := ⟨_, rfl⟩
            have hal : Below wk.heap.size wk w3 := by rw [← hw3]; exact (Below.refl _ _).alloc (Nat.le_refl _) _
            have hP3 : Blk w3 gp #[.int .i64 (c : Int), .int .u64 (r : Int)] 58 := by rw [hgp, ← hw3]; exact Blk.fresh _ _ _
            have HW3 := kept (HWk.out.later hal)
            have HB3 := kept (HBk.out.trans (hal.mono HSk.out))
            have HS3 := kept (Nat.le_trans HSk.out hal.size)
            have HD3 : Own.Kept (w3.heap[D]? = some (.deferred (some []))) := kept ((hal.block D (Array.getElem?_eq_some_iff.1 HDk.out).1).trans HDk.out)
            have p0 : w3.cell? ⟨gp, 0, none⟩ = some (.int .i64 (c : Int)) := Blk.cell hP3 rfl
            have p1 : w3.cell? ⟨gp, 1, none⟩ = some (.int .u64 (r : Int)) := Blk.cell hP3 rfl
            rw [← hgp]
            clear hw3 hgp hal hP3 k0 k1 k1b hx0 hx1
            have HPut := kept (put_new B pw v _ r ((c : Int) - 1) w3 HS3.out HW3.out (by have := HRl.out; omega) w2c (by omega) (by omega))
            rw [clamp_cls c (by omega)] at HPut
            have hen : restsP ((ps.take j).map natS) ++ bitsOf r (c - 1) = restsP ((ps.take (j + 1)).map natS) := by
              rw [HTk.out, List.map_append, restsP_append]
              congr 1
              simp [restsP, natS]
            rw [hen] at HPut
            clear hen
            go_wp2_with fail
            refine HPut.out.mono ?_
            rintro e w7 ⟨rfl, v7, hW7, hB7, hC7, _⟩
            have HW7 := kept hW7
            have HB7 := kept (HB3.out.trans hB7)
            have HS7 := kept (Nat.le_trans HS3.out hB7.size)
            have HD7 : Own.Kept (w7.heap[D]? = some (.deferred (some []))) := kept (hC7.keep HD3.out (by
              rintro (e | e)
              · have h := HD3.out; rw [e, show w3.heap[pw]? = _ from HW3.out.is.blk] at h; cases h
              · obtain ⟨cur, hbk⟩ := HW3.out.is.row.blk D e.symm
                have h := HD3.out; rw [show w3.heap[D]? = _ from hbk] at h; cases h))
            clear hW7 hB7 hC7 p0 p1 HPut
            go_wp2_with fail
            go_roundw
            case rel => exact ⟨j + 1, v7, by omega, by go_num, HW7.out, HB7.out, HS7.out, HD7.out⟩
            case measure => simp [intOf]; omega
          · have hje : j = i := by omega
            subst hje
            have htk : ps.take j = ps := List.take_of_length_le (by rw [HR.out.len]; exact Nat.le_refl _)
            rw [htk] at HWk HRl
            have hpe : putSE L (m : Int) ps = (putB L m (ps.map natS), 0) := by
              unfold putSE
              rw [if_pos HMy.out, if_pos (List.all_eq_true.2 HOk.out), Int.toNat_natCast]
            have hpb : putB L m (ps.map natS) = Np.txt (Vt.putV S.size) ++ S ++ textOf (pack (restsP (ps.map natS))) := by unfold putB; rw [HSe.out]
            have HPe := kept (hpe.trans (by rw [hpb]))
            obtain ⟨kv, hkv⟩ := (PA.vput_is S.size (by have := HSz.out; omega)).rounds
            have HV := kept (fun wx => PA.vint_Put.calls kv (S.size : Int) _ wx hkv)
            have HBy := kept (fun wx (h : NewW B wx pw v (restsP (ps.map natS))) => bytes_calls pw v _ wx h.is)
            obtain ⟨T1, hT1⟩ : ∃ T1, T1 = Np.txt (Vt.putV S.size) := ⟨_, rfl⟩
            obtain ⟨T2, hT2⟩ : ∃ T2, T2 = textOf (pack (restsP (ps.map natS))) := ⟨_, rfl⟩
            have hz1 : T1.size ≤ 10 := by
              rw [hT1, show Np.txt (Vt.putV S.size) = textOf (Vt.putV S.size) from rfl, size_textOf]
              exact Vt.putV_len64 S.size (by have := HSz.out; omega)
            have hz2 : T2.size ≤ 10000 := by rw [hT2, size_textOf, length_pack]; have := HRl.out; omega
            rw [← hT1, ← hT2] at HPe
            rw [← hT1] at HV
            rw [← hT2] at HBy
            have ewr : IntKind.u64.wrap (S.size : Int) = (S.size : Int) := by rw [IntKind.wrap_u64]; have := HSz.out; omega
            clear hkv hT1 hT2 htk hpe hpb hlt hj
            go_wp2_with (first | (go_at_call 34; refine (HV.out _).mono ?_))
            rintro e w8 ⟨rfl, hb8⟩
            have HW8 := kept (HWk.out.later hb8)
            have HB8 := kept (HBk.out.trans (hb8.mono HSk.out))
            have HD8 : Own.Kept (w8.heap[D]? = some (.deferred (some []))) := kept ((hb8.block D (Array.getElem?_eq_some_iff.1 HDk.out).1).trans HDk.out)
            have HBy8 := kept (HBy.out w8 HW8.out)
            have hsz := HSz.out
            have c1 : T1.size + S.size ≤ 9223372036854775807 := by omega
            have c2 : (T1 ++ S).size ≤ 20000 := by rw [ByteArray.size_append]; omega
            have c3 : (T1 ++ S).size + T2.size ≤ 9223372036854775807 := by omega
            have c4 : T1.size + S.size + T2.size ≤ 9223372036854775807 := by omega
            clear hb8 HWk HBk HDk HV HBy ewr hz1 hz2 hsz c2
            go_wp2_with (first | (go_at_call 35; refine HBy8.out.mono ?_; rintro e w9 ⟨rfl, rfl⟩))
            have HS8 : Own.Kept (B ≤ w8.heap.size) := kept (by have := HW8.out.at_; have := HW8.out.is.blk.lt; omega)
            refine ⟨by simp, .inl ⟨_, _, rfl, run_takeDeferred HD8.out, ?_⟩⟩
            exact ⟨_, results_tmp2 rfl _ _ _, by rw [HPe.out]; rfl, HB8.out.grown (grownBy_putObj' w8 D (.deferred none)) HS8.out (fun k e => by cases e; exact HDB.out)⟩
end Go.Proofs.Yteeegomdaebobaa.St

-- ---- PAx36
/- wringer/states.Put: what the call answers. Conditions: the parts are of Go's own sizes, no more than 900. -/
namespace Go.Proofs.Yteeegomdaebobaa.PA
set_option maxRecDepth 100000
open Go.RowKit Go.Proofs.YteeegomdaebobaaW.PrintWords Go.Proofs.YteeegomdaebobaaW.PrintLast Go.Proofs.YteeegomdaebobaaW.PrintMore
open St
set_option linter.unusedVariables false
set_option linter.unusedSimpArgs false

def states_Put.f (k : Nat) (l0 : List (S58)) (l1 : List Int) (a2 : Int) : Option (ByteArray × Int) := if l0.length ≤ 900 ∧ l0.all wfB = true ∧ l1.length < 17592186044416 then some (putSE l1 a2 (l0.map pairP)) else none
theorem states_Put.mono : ∀ a0 a1 a2 k, LeO (states_Put.f k a0 a1 a2) (states_Put.f (k + 1) a0 a1 a2) := fun _ _ _ _ => LeO.refl _
theorem states_Put.calls (k : Nat) (A0 : Option Addr) (c0 : Nat) (l0 : List (S58)) (A1 : Option Addr) (c1 : Nat) (l1 : List Int) (a2 : Int) (r1 : ByteArray) (r2 : Int) (w : World) (hr0 : Kd.C k58 w A0 l0.length l0) (hc0 : l0.length ≤ c0) (hr1 : Kd.C (Kd.int .i64) w A1 l1.length l1) (hc1 : l1.length ≤ c1) (h : states_Put.f k l0 l1 a2 = some (r1, r2)) :
    Calls Try.prog 13 #[.slice A0 l0.length c0, .slice A1 l1.length c1, .int .i64 a2] w fun e w' => e = .returned (.tuple #[.string r1, .int .i64 r2]) ∧ Below w.heap.size w w' := by
  unfold states_Put.f at h
  split at h
  · rename_i hg
    have h := Option.some.inj h
    have e1 : r1 = (putSE l1 a2 (l0.map pairP)).1 := by rw [h]
    have e2 : r2 = (putSE l1 a2 (l0.map pairP)).2 := by rw [h]
    rw [e1, e2]
    cases hm : Sp.mayN l1 a2 with
    | false => exact stput_form A0 l0.length c0 A1 c1 l1 a2 _ w hr1 hc1 hm
    | true =>
      obtain ⟨m, rfl, _⟩ := (may_iff l1 a2).1 hm
      exact stput_calls A0 l0.length c0 A1 c1 l1 m _ w (rdq_of hr0 hg.2.1) hr1 hc1 hm hg.1
  · cases h
end Go.Proofs.Yteeegomdaebobaa.PA

-- ---- PAx37

namespace Go.Proofs.Yteeegomdaebobaa.PA
open Go.RowKit Go.Proofs.YteeegomdaebobaaW.PrintWords Go.Proofs.YteeegomdaebobaaW.PrintLast Go.Proofs.YteeegomdaebobaaW.PrintMore
attribute [local go_sem] max2_int min2_int max_two min_two max_three min_three max_four min_four   -- for this text's walks alone
set_option linter.unusedVariables false
set_option linter.unusedSimpArgs false

/-! ### wringerlaw1_Err: function 14 -/
def wringerlaw1_Err.f (a0 : Int) : Option (Int) := some a0
set_option maxHeartbeats 8000000 in
set_option maxRecDepth 100000 in
theorem wringerlaw1_Err.calls (a0 : Int) (r : Int) (w : World) (h : wringerlaw1_Err.f a0 = some r) :
    Calls Try.prog 14 #[.int .i64 a0] w fun e w' => e = .returned (.int .i64 r) ∧ Drawn0 w w' := by
  have H : (some a0) = some r := h
  clear h
  obtain rfl := Option.some.inj H
  go_enter Try.func14, Try.ntmps14
  go_wp2
  go_ret
  exact ⟨by first | rfl | (simp; done) | (simp [*]; done), by repeat (first | exact Drawn0.refl _ | apply Drawn0.step)⟩

end Go.Proofs.Yteeegomdaebobaa.PA

-- ---- PAx49
/- wringer/states.Get: what the call answers. Conditions: the text is not longer than a thousand million bytes. -/
namespace Go.Proofs.Yteeegomdaebobaa.PA
set_option maxRecDepth 100000
open Go.RowKit Go.Proofs.YteeegomdaebobaaW.PrintWords Go.Proofs.YteeegomdaebobaaW.PrintLast Go.Proofs.YteeegomdaebobaaW.PrintMore
open St
set_option linter.unusedVariables false
set_option linter.unusedSimpArgs false

def states_Get.f (a0 : ByteArray) (a1 : Int) (l2 : List Int) (a3 : Int) : Option ((List (S58)) × Int) := if a0.size ≤ 1000000000 ∧ l2.length < 17592186044416 then some (getPE a0 a1 l2 a3) else none
theorem states_Get.calls (a0 : ByteArray) (a1 : Int) (A2 : Option Addr) (c2 : Nat) (l2 : List Int) (a3 : Int) (r1 : List (S58)) (r2 : Int) (w : World) (hr2 : Kd.C (Kd.int .i64) w A2 l2.length l2) (hc2 : l2.length ≤ c2) (h : states_Get.f a0 a1 l2 a3 = some (r1, r2)) :
    Calls Try.prog 15 #[.string a0, .int .i64 a1, .slice A2 l2.length c2, .int .i64 a3] w fun e w' => ∃ v0_ : Value, e = .returned (.tuple #[v0_, .int .i64 r2]) ∧ Kd.R k58 58 w' w.heap.size (fun _ => True) v0_ r1 ∧ Below w.heap.size w w' := by
  unfold states_Get.f at h
  split at h
  · rename_i hs
    have h := Option.some.inj h
    unfold getPE at h
    obtain ⟨rfl, rfl⟩ := Prod.mk.inj h
    have key : Calls Try.prog 15 #[.string a0, .int .i64 a1, .slice A2 l2.length c2, .int .i64 a3] w (St.GetPost l2 a3 a0 a1 w) := by
      cases hm : Sp.mayN l2 a3 with
      | false => exact stget_form A2 c2 l2 a3 a0 a1 w hr2 hc2 hm
      | true =>
        obtain ⟨m, rfl, _⟩ := (may_iff l2 a3).1 hm
        by_cases hn : a1 < 0 ∨ 4096 < a1
        · exact stget_arg A2 c2 l2 m a0 a1 w hr2 hc2 hm hn
        · obtain ⟨N, rfl⟩ := Int.eq_ofNat_of_zero_le (show 0 ≤ a1 by omega)
          exact stget_calls A2 c2 l2 m a0 N w hr2 hc2 hm (by omega) (Nat.le_trans hs.1 (by decide))
    refine key.mono ?_
    rintro e w' ⟨v, rfl, ho, hnew, hb⟩
    exact ⟨v, rfl, partR ho hnew, hb⟩
  · cases h
end Go.Proofs.Yteeegomdaebobaa.PA

-- ---- PAx50

namespace Go.Proofs.Yteeegomdaebobaa.PA
open Go.RowKit Go.Proofs.YteeegomdaebobaaW.PrintWords Go.Proofs.YteeegomdaebobaaW.PrintLast Go.Proofs.YteeegomdaebobaaW.PrintMore
attribute [local go_sem] max2_int min2_int max_two min_two max_three min_three max_four min_four   -- for this text's walks alone
set_option linter.unusedVariables false
set_option linter.unusedSimpArgs false

/-! ### wringerlaw14_awake: function 16 -/
def wringerlaw14_awake.f (k : Nat)  : Option (Bool) := if 65 ≤ 35184372088832 then ((some (List.replicate 65 0 : List Int)).bind fun y150 => (if 0 < (y150.length : Int) then ((some (y150.set (0 : Int).toNat 128 : List Int)).bind fun y153 => ((states_Put.f k ([] : List (S58)) y153 7).bind fun bt154 => ((states_Get.f bt154.1 0 y153 7).bind fun bt156 => (if bt154.1.toList = ([1, 128] : List UInt8) then (if (bt156.1.length : Int) = 0 then ((wringerlaw1_Err.f bt154.2).bind fun t160 => ((wringerlaw1_Err.f bt156.2).bind fun t161 => (some ((wrap64 (t160 + t161)) == 0)))) else (some false)) else (some false))))) else (none))) else (none)
theorem wringerlaw14_awake.mono : ∀ k, LeO (wringerlaw14_awake.f k ) (wringerlaw14_awake.f (k + 1) ) := by
  intro  k
  unfold wringerlaw14_awake.f
  repeat' first
      | (with_reducible exact states_Put.mono _ _ _ _)
      | (with_reducible exact LeO.refl _)
      | (with_reducible exact LeO.none _)
      | (with_reducible refine LeO.ite ?_ ?_)
      | (with_reducible refine LeO.bind ?_ (fun _ => ?_))
      | exact states_Put.mono _ _ _ _
      | exact LeO.none _
      | refine LeO.ite ?_ ?_
      | refine LeO.bind ?_ (fun _ => ?_)
set_option maxHeartbeats 8000000 in
set_option maxRecDepth 100000 in
theorem wringerlaw14_awake.calls (k : Nat)  (r : Bool) (w : World) (h : wringerlaw14_awake.f k  = some r) :
    Calls Try.prog 16 #[] w fun e w' => e = .returned (.bool r) ∧ Below w.heap.size w w' := by
  have HB := Aside0.mk (Below.refl w.heap.size w)
  have H : (if 65 ≤ 35184372088832 then ((some (List.replicate 65 0 : List Int)).bind fun y150 => (if 0 < (y150.length : Int) then ((some (y150.set (0 : Int).toNat 128 : List Int)).bind fun y153 => ((states_Put.f k ([] : List (S58)) y153 7).bind fun bt154 => ((states_Get.f bt154.1 0 y153 7).bind fun bt156 => (if bt154.1.toList = ([1, 128] : List UInt8) then (if (bt156.1.length : Int) = 0 then ((wringerlaw1_Err.f bt154.2).bind fun t160 => ((wringerlaw1_Err.f bt156.2).bind fun t161 => (some ((wrap64 (t160 + t161)) == 0)))) else (some false)) else (some false))))) else (none))) else (none)) = some r := h
  clear h
  by_cases c1 : 65 ≤ 35184372088832
  · rw [if_pos c1] at H
    have c1b0 := eq_true c1
    have c1b1 : decide (65 ≤ 35184372088832) = true := decide_eq_true c1
    clear c1
    obtain ⟨y150, hy150⟩ : ∃ y_ : List Int, y_ = (List.replicate 65 0) := ⟨_, rfl⟩
    replace H : (if 0 < (y150.length : Int) then ((some (y150.set (0 : Int).toNat 128 : List Int)).bind fun y153 => ((states_Put.f k ([] : List (S58)) y153 7).bind fun bt154 => ((states_Get.f bt154.1 0 y153 7).bind fun bt156 => (if bt154.1.toList = ([1, 128] : List UInt8) then (if (bt156.1.length : Int) = 0 then ((wringerlaw1_Err.f bt154.2).bind fun t160 => ((wringerlaw1_Err.f bt156.2).bind fun t161 => (some ((wrap64 (t160 + t161)) == 0)))) else (some false)) else (some false))))) else (none)) = some r := by first | (rw [hy150]; with_reducible exact H) | (have H2_ := (Option.bind_some _ _).symm.trans H; rw [hy150]; with_reducible exact H2_) | (have H2_ := (Option.bind_some _ _).symm.trans H; with_reducible exact H2_) | with_reducible exact H | (rw [hy150]; exact H) | exact H
    have Ny150 := Aside0.mk hy150
    clear hy150
    by_cases c2 : 0 < (y150.length : Int)
    · rw [if_pos c2] at H
      have c2b0 : decide (0 < (y150.length : Int)) = true := decide_eq_true c2
      have c2b1 : decide (0 < y150.length) = true := decide_eq_true (by omega)
      clear c2
      obtain ⟨y153, hy153⟩ : ∃ y_ : List Int, y_ = (y150.set (0 : Int).toNat 128) := ⟨_, rfl⟩
      replace H : ((states_Put.f k ([] : List (S58)) y153 7).bind fun bt154 => ((states_Get.f bt154.1 0 y153 7).bind fun bt156 => (if bt154.1.toList = ([1, 128] : List UInt8) then (if (bt156.1.length : Int) = 0 then ((wringerlaw1_Err.f bt154.2).bind fun t160 => ((wringerlaw1_Err.f bt156.2).bind fun t161 => (some ((wrap64 (t160 + t161)) == 0)))) else (some false)) else (some false)))) = some r := by first | (rw [hy153]; with_reducible exact H) | (have H2_ := (Option.bind_some _ _).symm.trans H; rw [hy153]; with_reducible exact H2_) | (have H2_ := (Option.bind_some _ _).symm.trans H; with_reducible exact H2_) | with_reducible exact H | (rw [hy153]; exact H) | exact H
      have Ny153 := Aside0.mk hy153
      clear hy153
      replace H := Option.bind_eq_some_iff.mp H
      obtain ⟨⟨t154, t155⟩, A40, H⟩ := H
      replace H : ((states_Get.f t154 0 y153 7).bind fun bt156 => (if t154.toList = ([1, 128] : List UInt8) then (if (bt156.1.length : Int) = 0 then ((wringerlaw1_Err.f t155).bind fun t160 => ((wringerlaw1_Err.f bt156.2).bind fun t161 => (some ((wrap64 (t160 + t161)) == 0)))) else (some false)) else (some false))) = some r := H
      have A4 := Aside0.mk A40
      clear A40
      replace H := Option.bind_eq_some_iff.mp H
      obtain ⟨⟨t156, t157⟩, A50, H⟩ := H
      replace H : (if t154.toList = ([1, 128] : List UInt8) then (if (t156.length : Int) = 0 then ((wringerlaw1_Err.f t155).bind fun t160 => ((wringerlaw1_Err.f t157).bind fun t161 => (some ((wrap64 (t160 + t161)) == 0)))) else (some false)) else (some false)) = some r := H
      have A5 := Aside0.mk A50
      clear A50
      by_cases c6 : t154.toList = ([1, 128] : List UInt8)
      · rw [if_pos c6] at H
        have c6b0 : (t154.toList == ([1, 128] : List UInt8)) = true := beq_iff_eq.mpr c6
        have c6b1 : (t154.toList != ([1, 128] : List UInt8)) = false := bne_eq_false_iff_eq.mpr c6
        clear c6
        by_cases c7 : (t156.length : Int) = 0
        · rw [if_pos c7] at H
          have c7b0 : ((t156.length : Int) == 0) = true := beq_iff_eq.mpr c7
          have c7b1 : ((t156.length : Int) != 0) = false := bne_eq_false_iff_eq.mpr c7
          clear c7
          replace H := Option.bind_eq_some_iff.mp H
          obtain ⟨t160, A80, H⟩ := H
          replace H : ((wringerlaw1_Err.f t157).bind fun t161 => (some ((wrap64 (t160 + t161)) == 0))) = some r := H
          have A8 := Aside0.mk A80
          clear A80
          replace H := Option.bind_eq_some_iff.mp H
          obtain ⟨t161, A90, H⟩ := H
          replace H : (some ((wrap64 (t160 + t161)) == 0)) = some r := H
          have A9 := Aside0.mk A90
          clear A90
          obtain rfl := Option.some.inj H
          go_enter Try.func16, Try.ntmps16
          go_wp2_with (first | ((with_reducible refine gate_dst (N := 6) rfl ?_); (try (refine gate_guard (by rfl) ?_; dsimp only)); refine Kd.R_make (Kd.int .i64) _ 3 rfl (N := 6) rfl 28 _ _ rfl 65 rfl rfl Try.underlying28 (.int .i64 0) 8 info3 rfl (by decide) (by omega) 0 (ok := fun _ => True) (okp := fun _ => True) rfl (fun _ hk => hk) trivial (by omega) (by omega) (Below.refl _ _) (Nat.le_refl _) ?_; intro v151 w10 ho11 hb hg_ hnew_; clear hg_ hnew_; (first | rw [← Ny150.out] at ho11 | (simp only [Int.reduceToNat] at ho11; rw [← Ny150.out] at ho11)); have n0_ := Aside0.mk (Kd.R_lower ho11 (below_size (by repeat (first | (with_reducible first | exact HB.out | apply below_alloc | apply pw_below_drewN | apply below_drew1) | exact HB.out)))); have n1_ := Aside0.mk (below_step (by repeat (first | (with_reducible first | exact HB.out | apply below_alloc | apply pw_below_drewN | apply below_drew1) | exact HB.out)) hb); clear HB; have HO152 := n0_; have HB := n1_; clear n0_ n1_; clear hb ho11; have p3 : 0 ≤ (0 : Int) := (by omega); have q3 : (0 : Int) < ((y150.length : Int) : Int) := of_decide_eq_true (by first | (with_reducible assumption) | assumption); have qi3 : (0 < y150.length) = True := eq_true (by omega); obtain ⟨go3, co3, eo3, gb3, gl3, cl3, HG3⟩ := Kd.R_form HO152.out (by omega); (first | cases eo3 | (injection eo3 with ea_ en_ ec_; (first | subst ea_ | (injection ea_ with ea_; subst ea_)); subst ec_; clear en_)); have GB3 := Aside0.mk gb3; have GG3 := Aside0.mk HG3; clear gb3 gl3 HG3; obtain ⟨hx3_0, hf3_0⟩ := Kd.R_celln 0 HO152.out (0 : Int) p3 q3; (try rw [show ((0 : Int)).toNat = 0 from rfl] at hx3_0); (try simp only [Nat.reduceMul, Nat.zero_mul, Nat.zero_add, Nat.reduceAdd] at hx3_0); (try rw [show ((0 : Int)).toNat = 0 from rfl] at hf3_0); (try simp only [Nat.reduceMul, Nat.zero_mul, Nat.zero_add, Nat.reduceAdd] at hf3_0); replace p3 := eq_true p3; replace q3 := eq_true q3; obtain ⟨hy12_, hz12_⟩ := Kd.R_celln 0 HO152.out (0 : Int) (by omega) (of_decide_eq_true (by first | (with_reducible assumption) | assumption)); (try simp only [Int.reduceToNat, Int.toNat_zero, Int.toNat_ofNat, Nat.reduceMul, Nat.zero_mul, Nat.zero_add] at hy12_ hz12_); (try rw [show ((0 : Int)).toNat = 0 from rfl] at hy12_); (try rw [show ((0 : Int)).toNat = 0 from rfl] at hz12_); have HP12 := Kd.R_putg HO152.out (0 : Int) 128) | ((with_reducible refine gate_store (t := 3) (p := 8) rfl ?_); refine store_event (t := 3) (p := 8) (v := ?vo_w13) (w1 := (w10.setCell ⟨go3, (0 : Int).toNat, none⟩ (.int .i64 128))) ?hg ?ho ?hn ?hr ?_; (case ho => rfl); (case hg => rfl); (case hn => rfl); (case hr => first | (go_simp; done) | (go_simp; rfl)); intro w13 hw; have hg : w10.grownBy w13 (some go3) := (by rw [hw]; exact HP12.2); have hp_ : Kd.R (Kd.int .i64) 3 w13 w.heap.size (fun _ => True) (.slice (some ⟨go3, 0, none⟩) y150.length co3) y153 := (by rw [hw, Ny153.out]; exact HP12.1); clear HP12; have n0_ := Aside0.mk (hp_); have n1_ := Aside0.mk ((by rw [hw]; exact below_set (HB.out) GB3.out : Below w.heap.size w w13)); clear HO152; clear HB; have HO152 := n0_; have HB := n1_; clear n0_ n1_; clear hg hw hp_) | ((with_reducible refine gate_callee (f := 13) rfl ?_); refine goesL_ (some 11) rfl rfl Try.func13 (by kernel_rfl) rfl #[.slice none 0 0, .slice (some ⟨go3, 0, none⟩) y153.length co3, .int .i64 7] rfl (by (try simp only [List.map_toArray, List.map_cons, List.map_nil]); first | done | (rw [show y153.length = y150.length from (Kd.R_reads' HO152.out).1.symm] <;> rfl) | rfl | (simp only [List.length_drop, List.length_take]; rfl)) ?_; (refine (states_Put.calls k _ _ ([] : List (S58)) _ _ y153 7 t154 t155 _ ?side1 ?side2 ?side3 ?side4 A4.out).mono ?_); (case side1 => exact Kd.C_nil _ _); (case side2 => exact Nat.le_refl _); (case side3 => repeat (first | exact (Kd.R_reads' HO152.out).2.2 | (with_reducible refine Kd.C_alloc ?_ _) | (with_reducible refine Kd.C_drewN ?_ _) | (with_reducible refine Kd.C_drew ?_))); (case side4 => rw [show y153.length = y150.length from (Kd.R_reads' HO152.out).1.symm]; exact (Kd.R_reads' HO152.out).2.1); rintro e w14 ⟨rfl, hb⟩; refine ⟨_, rfl, ?_⟩; have n0_ := Aside0.mk (Kd.R_below (by (with_reducible repeat (first | apply Kd.R_alloc | apply Kd.R_drewN | apply Kd.R_drew)); exact HO152.out) hb); have n1_ := Aside0.mk (below_step (by repeat (first | (with_reducible first | exact HB.out | apply below_alloc | apply pw_below_drewN | apply below_drew1) | exact HB.out)) hb); clear HO152; clear HB; have HO152 := n0_; have HB := n1_; clear n0_ n1_; (try clear hb); (try clear hb2); (try clear hk); (try clear hi)) | ((with_reducible refine gate_callee (f := 15) rfl ?_); refine goesL_ (some 17) rfl rfl Try.func15 (by kernel_rfl) rfl #[.string t154, .int .i64 0, .slice (some ⟨go3, 0, none⟩) y153.length co3, .int .i64 7] rfl (by (try simp only [List.map_toArray, List.map_cons, List.map_nil]); first | done | (rw [show y153.length = y150.length from (Kd.R_reads' HO152.out).1.symm] <;> rfl) | rfl | (simp only [List.length_drop, List.length_take]; rfl)) ?_; (with_reducible refine (states_Get.calls t154 0 _ _ y153 7 t156 t157 _ ?side1 ?side2 A5.out).mono ?_); (case side1 => repeat (first | exact (Kd.R_reads' HO152.out).2.2 | (with_reducible refine Kd.C_alloc ?_ _) | (with_reducible refine Kd.C_drewN ?_ _) | (with_reducible refine Kd.C_drew ?_))); (case side2 => rw [show y153.length = y150.length from (Kd.R_reads' HO152.out).1.symm]; exact (Kd.R_reads' HO152.out).2.1); rintro e w15 ⟨v158, rfl, ho0, hb⟩; refine ⟨_, rfl, ?_⟩; have n0_ := Aside0.mk (Kd.R_below (by (with_reducible repeat (first | apply Kd.R_alloc | apply Kd.R_drewN | apply Kd.R_drew)); exact HO152.out) hb); have n1_ := Aside0.mk (Kd.R_lower ho0 (below_size (by repeat (first | (with_reducible first | exact HB.out | apply below_alloc | apply pw_below_drewN | apply below_drew1) | exact HB.out)))); have n2_ := Aside0.mk (below_step (by repeat (first | (with_reducible first | exact HB.out | apply below_alloc | apply pw_below_drewN | apply below_drew1) | exact HB.out)) hb); clear HO152; clear HB; have HO152 := n0_; have HO159 := n1_; have HB := n2_; clear n0_ n1_ n2_; (try clear hb); (try clear hb2); (try clear hk); (try clear hi); (try clear ho0); obtain ⟨Ao16, co16, eo16⟩ := Kd.R_slice HO159.out; subst eo16) | (go_at_call 14; (with_reducible refine (wringerlaw1_Err.calls t155 t160 _ A8.out).mono ?_); rintro e w' ⟨rfl, ⟨nd, rfl⟩⟩) | (go_at_call 14; (with_reducible refine (wringerlaw1_Err.calls t157 t161 _ A9.out).mono ?_); rintro e w' ⟨rfl, ⟨nd, rfl⟩⟩))
          go_ret
          exact ⟨by first | rfl | (simp [errW_none, errW_some] <;> rfl) | (simp [*, errW_none, errW_some] <;> rfl), by repeat (first | (with_reducible first | exact HB.out | apply below_alloc | apply pw_below_drewN | apply below_drew1) | exact HB.out)⟩
        · rw [if_neg c7] at H
          have c7b0 : ((t156.length : Int) == 0) = false := beq_eq_false_iff_ne.mpr c7
          have c7b1 : ((t156.length : Int) != 0) = true := bne_iff_ne.mpr c7
          have c7b2 : ¬ (t156 = []) := fun h_ => c7 (by rw [h_]; rfl)
          obtain rfl := Option.some.inj H
          go_enter Try.func16, Try.ntmps16
          go_wp2_with (first | ((with_reducible refine gate_dst (N := 6) rfl ?_); (try (refine gate_guard (by rfl) ?_; dsimp only)); refine Kd.R_make (Kd.int .i64) _ 3 rfl (N := 6) rfl 28 _ _ rfl 65 rfl rfl Try.underlying28 (.int .i64 0) 8 info3 rfl (by decide) (by omega) 0 (ok := fun _ => True) (okp := fun _ => True) rfl (fun _ hk => hk) trivial (by omega) (by omega) (Below.refl _ _) (Nat.le_refl _) ?_; intro v151 w17 ho18 hb hg_ hnew_; clear hg_ hnew_; (first | rw [← Ny150.out] at ho18 | (simp only [Int.reduceToNat] at ho18; rw [← Ny150.out] at ho18)); have n0_ := Aside0.mk (Kd.R_lower ho18 (below_size (by repeat (first | (with_reducible first | exact HB.out | apply below_alloc | apply pw_below_drewN | apply below_drew1) | exact HB.out)))); have n1_ := Aside0.mk (below_step (by repeat (first | (with_reducible first | exact HB.out | apply below_alloc | apply pw_below_drewN | apply below_drew1) | exact HB.out)) hb); clear HB; have HO152 := n0_; have HB := n1_; clear n0_ n1_; clear hb ho18; have p3 : 0 ≤ (0 : Int) := (by omega); have q3 : (0 : Int) < ((y150.length : Int) : Int) := of_decide_eq_true (by first | (with_reducible assumption) | assumption); have qi3 : (0 < y150.length) = True := eq_true (by omega); obtain ⟨go3, co3, eo3, gb3, gl3, cl3, HG3⟩ := Kd.R_form HO152.out (by omega); (first | cases eo3 | (injection eo3 with ea_ en_ ec_; (first | subst ea_ | (injection ea_ with ea_; subst ea_)); subst ec_; clear en_)); have GB3 := Aside0.mk gb3; have GG3 := Aside0.mk HG3; clear gb3 gl3 HG3; obtain ⟨hx3_0, hf3_0⟩ := Kd.R_celln 0 HO152.out (0 : Int) p3 q3; (try rw [show ((0 : Int)).toNat = 0 from rfl] at hx3_0); (try simp only [Nat.reduceMul, Nat.zero_mul, Nat.zero_add, Nat.reduceAdd] at hx3_0); (try rw [show ((0 : Int)).toNat = 0 from rfl] at hf3_0); (try simp only [Nat.reduceMul, Nat.zero_mul, Nat.zero_add, Nat.reduceAdd] at hf3_0); replace p3 := eq_true p3; replace q3 := eq_true q3; obtain ⟨hy19_, hz19_⟩ := Kd.R_celln 0 HO152.out (0 : Int) (by omega) (of_decide_eq_true (by first | (with_reducible assumption) | assumption)); (try simp only [Int.reduceToNat, Int.toNat_zero, Int.toNat_ofNat, Nat.reduceMul, Nat.zero_mul, Nat.zero_add] at hy19_ hz19_); (try rw [show ((0 : Int)).toNat = 0 from rfl] at hy19_); (try rw [show ((0 : Int)).toNat = 0 from rfl] at hz19_); have HP19 := Kd.R_putg HO152.out (0 : Int) 128) | ((with_reducible refine gate_store (t := 3) (p := 8) rfl ?_); refine store_event (t := 3) (p := 8) (v := ?vo_w20) (w1 := (w17.setCell ⟨go3, (0 : Int).toNat, none⟩ (.int .i64 128))) ?hg ?ho ?hn ?hr ?_; (case ho => rfl); (case hg => rfl); (case hn => rfl); (case hr => first | (go_simp; done) | (go_simp; rfl)); intro w20 hw; have hg : w17.grownBy w20 (some go3) := (by rw [hw]; exact HP19.2); have hp_ : Kd.R (Kd.int .i64) 3 w20 w.heap.size (fun _ => True) (.slice (some ⟨go3, 0, none⟩) y150.length co3) y153 := (by rw [hw, Ny153.out]; exact HP19.1); clear HP19; have n0_ := Aside0.mk (hp_); have n1_ := Aside0.mk ((by rw [hw]; exact below_set (HB.out) GB3.out : Below w.heap.size w w20)); clear HO152; clear HB; have HO152 := n0_; have HB := n1_; clear n0_ n1_; clear hg hw hp_) | ((with_reducible refine gate_callee (f := 13) rfl ?_); refine goesL_ (some 11) rfl rfl Try.func13 (by kernel_rfl) rfl #[.slice none 0 0, .slice (some ⟨go3, 0, none⟩) y153.length co3, .int .i64 7] rfl (by (try simp only [List.map_toArray, List.map_cons, List.map_nil]); first | done | (rw [show y153.length = y150.length from (Kd.R_reads' HO152.out).1.symm] <;> rfl) | rfl | (simp only [List.length_drop, List.length_take]; rfl)) ?_; (refine (states_Put.calls k _ _ ([] : List (S58)) _ _ y153 7 t154 t155 _ ?side1 ?side2 ?side3 ?side4 A4.out).mono ?_); (case side1 => exact Kd.C_nil _ _); (case side2 => exact Nat.le_refl _); (case side3 => repeat (first | exact (Kd.R_reads' HO152.out).2.2 | (with_reducible refine Kd.C_alloc ?_ _) | (with_reducible refine Kd.C_drewN ?_ _) | (with_reducible refine Kd.C_drew ?_))); (case side4 => rw [show y153.length = y150.length from (Kd.R_reads' HO152.out).1.symm]; exact (Kd.R_reads' HO152.out).2.1); rintro e w21 ⟨rfl, hb⟩; refine ⟨_, rfl, ?_⟩; have n0_ := Aside0.mk (Kd.R_below (by (with_reducible repeat (first | apply Kd.R_alloc | apply Kd.R_drewN | apply Kd.R_drew)); exact HO152.out) hb); have n1_ := Aside0.mk (below_step (by repeat (first | (with_reducible first | exact HB.out | apply below_alloc | apply pw_below_drewN | apply below_drew1) | exact HB.out)) hb); clear HO152; clear HB; have HO152 := n0_; have HB := n1_; clear n0_ n1_; (try clear hb); (try clear hb2); (try clear hk); (try clear hi)) | ((with_reducible refine gate_callee (f := 15) rfl ?_); refine goesL_ (some 17) rfl rfl Try.func15 (by kernel_rfl) rfl #[.string t154, .int .i64 0, .slice (some ⟨go3, 0, none⟩) y153.length co3, .int .i64 7] rfl (by (try simp only [List.map_toArray, List.map_cons, List.map_nil]); first | done | (rw [show y153.length = y150.length from (Kd.R_reads' HO152.out).1.symm] <;> rfl) | rfl | (simp only [List.length_drop, List.length_take]; rfl)) ?_; (with_reducible refine (states_Get.calls t154 0 _ _ y153 7 t156 t157 _ ?side1 ?side2 A5.out).mono ?_); (case side1 => repeat (first | exact (Kd.R_reads' HO152.out).2.2 | (with_reducible refine Kd.C_alloc ?_ _) | (with_reducible refine Kd.C_drewN ?_ _) | (with_reducible refine Kd.C_drew ?_))); (case side2 => rw [show y153.length = y150.length from (Kd.R_reads' HO152.out).1.symm]; exact (Kd.R_reads' HO152.out).2.1); rintro e w22 ⟨v158, rfl, ho0, hb⟩; refine ⟨_, rfl, ?_⟩; have n0_ := Aside0.mk (Kd.R_below (by (with_reducible repeat (first | apply Kd.R_alloc | apply Kd.R_drewN | apply Kd.R_drew)); exact HO152.out) hb); have n1_ := Aside0.mk (Kd.R_lower ho0 (below_size (by repeat (first | (with_reducible first | exact HB.out | apply below_alloc | apply pw_below_drewN | apply below_drew1) | exact HB.out)))); have n2_ := Aside0.mk (below_step (by repeat (first | (with_reducible first | exact HB.out | apply below_alloc | apply pw_below_drewN | apply below_drew1) | exact HB.out)) hb); clear HO152; clear HB; have HO152 := n0_; have HO159 := n1_; have HB := n2_; clear n0_ n1_ n2_; (try clear hb); (try clear hb2); (try clear hk); (try clear hi); (try clear ho0); obtain ⟨Ao23, co23, eo23⟩ := Kd.R_slice HO159.out; subst eo23))
          go_ret
          exact ⟨by first | rfl | (simp [errW_none, errW_some] <;> rfl) | (simp [*, errW_none, errW_some] <;> rfl), by repeat (first | (with_reducible first | exact HB.out | apply below_alloc | apply pw_below_drewN | apply below_drew1) | exact HB.out)⟩
      · rw [if_neg c6] at H
        have c6b0 : (t154.toList == ([1, 128] : List UInt8)) = false := beq_eq_false_iff_ne.mpr c6
        have c6b1 : (t154.toList != ([1, 128] : List UInt8)) = true := bne_iff_ne.mpr c6
        obtain rfl := Option.some.inj H
        go_enter Try.func16, Try.ntmps16
        go_wp2_with (first | ((with_reducible refine gate_dst (N := 6) rfl ?_); (try (refine gate_guard (by rfl) ?_; dsimp only)); refine Kd.R_make (Kd.int .i64) _ 3 rfl (N := 6) rfl 28 _ _ rfl 65 rfl rfl Try.underlying28 (.int .i64 0) 8 info3 rfl (by decide) (by omega) 0 (ok := fun _ => True) (okp := fun _ => True) rfl (fun _ hk => hk) trivial (by omega) (by omega) (Below.refl _ _) (Nat.le_refl _) ?_; intro v151 w24 ho25 hb hg_ hnew_; clear hg_ hnew_; (first | rw [← Ny150.out] at ho25 | (simp only [Int.reduceToNat] at ho25; rw [← Ny150.out] at ho25)); have n0_ := Aside0.mk (Kd.R_lower ho25 (below_size (by repeat (first | (with_reducible first | exact HB.out | apply below_alloc | apply pw_below_drewN | apply below_drew1) | exact HB.out)))); have n1_ := Aside0.mk (below_step (by repeat (first | (with_reducible first | exact HB.out | apply below_alloc | apply pw_below_drewN | apply below_drew1) | exact HB.out)) hb); clear HB; have HO152 := n0_; have HB := n1_; clear n0_ n1_; clear hb ho25; have p3 : 0 ≤ (0 : Int) := (by omega); have q3 : (0 : Int) < ((y150.length : Int) : Int) := of_decide_eq_true (by first | (with_reducible assumption) | assumption); have qi3 : (0 < y150.length) = True := eq_true (by omega); obtain ⟨go3, co3, eo3, gb3, gl3, cl3, HG3⟩ := Kd.R_form HO152.out (by omega); (first | cases eo3 | (injection eo3 with ea_ en_ ec_; (first | subst ea_ | (injection ea_ with ea_; subst ea_)); subst ec_; clear en_)); have GB3 := Aside0.mk gb3; have GG3 := Aside0.mk HG3; clear gb3 gl3 HG3; obtain ⟨hx3_0, hf3_0⟩ := Kd.R_celln 0 HO152.out (0 : Int) p3 q3; (try rw [show ((0 : Int)).toNat = 0 from rfl] at hx3_0); (try simp only [Nat.reduceMul, Nat.zero_mul, Nat.zero_add, Nat.reduceAdd] at hx3_0); (try rw [show ((0 : Int)).toNat = 0 from rfl] at hf3_0); (try simp only [Nat.reduceMul, Nat.zero_mul, Nat.zero_add, Nat.reduceAdd] at hf3_0); replace p3 := eq_true p3; replace q3 := eq_true q3; obtain ⟨hy26_, hz26_⟩ := Kd.R_celln 0 HO152.out (0 : Int) (by omega) (of_decide_eq_true (by first | (with_reducible assumption) | assumption)); (try simp only [Int.reduceToNat, Int.toNat_zero, Int.toNat_ofNat, Nat.reduceMul, Nat.zero_mul, Nat.zero_add] at hy26_ hz26_); (try rw [show ((0 : Int)).toNat = 0 from rfl] at hy26_); (try rw [show ((0 : Int)).toNat = 0 from rfl] at hz26_); have HP26 := Kd.R_putg HO152.out (0 : Int) 128) | ((with_reducible refine gate_store (t := 3) (p := 8) rfl ?_); refine store_event (t := 3) (p := 8) (v := ?vo_w27) (w1 := (w24.setCell ⟨go3, (0 : Int).toNat, none⟩ (.int .i64 128))) ?hg ?ho ?hn ?hr ?_; (case ho => rfl); (case hg => rfl); (case hn => rfl); (case hr => first | (go_simp; done) | (go_simp; rfl)); intro w27 hw; have hg : w24.grownBy w27 (some go3) := (by rw [hw]; exact HP26.2); have hp_ : Kd.R (Kd.int .i64) 3 w27 w.heap.size (fun _ => True) (.slice (some ⟨go3, 0, none⟩) y150.length co3) y153 := (by rw [hw, Ny153.out]; exact HP26.1); clear HP26; have n0_ := Aside0.mk (hp_); have n1_ := Aside0.mk ((by rw [hw]; exact below_set (HB.out) GB3.out : Below w.heap.size w w27)); clear HO152; clear HB; have HO152 := n0_; have HB := n1_; clear n0_ n1_; clear hg hw hp_) | ((with_reducible refine gate_callee (f := 13) rfl ?_); refine goesL_ (some 11) rfl rfl Try.func13 (by kernel_rfl) rfl #[.slice none 0 0, .slice (some ⟨go3, 0, none⟩) y153.length co3, .int .i64 7] rfl (by (try simp only [List.map_toArray, List.map_cons, List.map_nil]); first | done | (rw [show y153.length = y150.length from (Kd.R_reads' HO152.out).1.symm] <;> rfl) | rfl | (simp only [List.length_drop, List.length_take]; rfl)) ?_; (refine (states_Put.calls k _ _ ([] : List (S58)) _ _ y153 7 t154 t155 _ ?side1 ?side2 ?side3 ?side4 A4.out).mono ?_); (case side1 => exact Kd.C_nil _ _); (case side2 => exact Nat.le_refl _); (case side3 => repeat (first | exact (Kd.R_reads' HO152.out).2.2 | (with_reducible refine Kd.C_alloc ?_ _) | (with_reducible refine Kd.C_drewN ?_ _) | (with_reducible refine Kd.C_drew ?_))); (case side4 => rw [show y153.length = y150.length from (Kd.R_reads' HO152.out).1.symm]; exact (Kd.R_reads' HO152.out).2.1); rintro e w28 ⟨rfl, hb⟩; refine ⟨_, rfl, ?_⟩; have n0_ := Aside0.mk (Kd.R_below (by (with_reducible repeat (first | apply Kd.R_alloc | apply Kd.R_drewN | apply Kd.R_drew)); exact HO152.out) hb); have n1_ := Aside0.mk (below_step (by repeat (first | (with_reducible first | exact HB.out | apply below_alloc | apply pw_below_drewN | apply below_drew1) | exact HB.out)) hb); clear HO152; clear HB; have HO152 := n0_; have HB := n1_; clear n0_ n1_; (try clear hb); (try clear hb2); (try clear hk); (try clear hi)) | ((with_reducible refine gate_callee (f := 15) rfl ?_); refine goesL_ (some 17) rfl rfl Try.func15 (by kernel_rfl) rfl #[.string t154, .int .i64 0, .slice (some ⟨go3, 0, none⟩) y153.length co3, .int .i64 7] rfl (by (try simp only [List.map_toArray, List.map_cons, List.map_nil]); first | done | (rw [show y153.length = y150.length from (Kd.R_reads' HO152.out).1.symm] <;> rfl) | rfl | (simp only [List.length_drop, List.length_take]; rfl)) ?_; (with_reducible refine (states_Get.calls t154 0 _ _ y153 7 t156 t157 _ ?side1 ?side2 A5.out).mono ?_); (case side1 => repeat (first | exact (Kd.R_reads' HO152.out).2.2 | (with_reducible refine Kd.C_alloc ?_ _) | (with_reducible refine Kd.C_drewN ?_ _) | (with_reducible refine Kd.C_drew ?_))); (case side2 => rw [show y153.length = y150.length from (Kd.R_reads' HO152.out).1.symm]; exact (Kd.R_reads' HO152.out).2.1); rintro e w29 ⟨v158, rfl, ho0, hb⟩; refine ⟨_, rfl, ?_⟩; have n0_ := Aside0.mk (Kd.R_below (by (with_reducible repeat (first | apply Kd.R_alloc | apply Kd.R_drewN | apply Kd.R_drew)); exact HO152.out) hb); have n1_ := Aside0.mk (Kd.R_lower ho0 (below_size (by repeat (first | (with_reducible first | exact HB.out | apply below_alloc | apply pw_below_drewN | apply below_drew1) | exact HB.out)))); have n2_ := Aside0.mk (below_step (by repeat (first | (with_reducible first | exact HB.out | apply below_alloc | apply pw_below_drewN | apply below_drew1) | exact HB.out)) hb); clear HO152; clear HB; have HO152 := n0_; have HO159 := n1_; have HB := n2_; clear n0_ n1_ n2_; (try clear hb); (try clear hb2); (try clear hk); (try clear hi); (try clear ho0)))
        go_ret
        exact ⟨by first | rfl | (simp [errW_none, errW_some] <;> rfl) | (simp [*, errW_none, errW_some] <;> rfl), by repeat (first | (with_reducible first | exact HB.out | apply below_alloc | apply pw_below_drewN | apply below_drew1) | exact HB.out)⟩
    · rw [if_neg c2] at H
      exact absurd H (by simp)
  · rw [if_neg c1] at H
    exact absurd H (by simp)

end Go.Proofs.Yteeegomdaebobaa.PA

-- ---- Ka
/- The document's Seal. -/
namespace Go.Proofs.Yteeegomdaebobaa
set_option maxRecDepth 100000
set_option linter.unusedSimpArgs false
set_option linter.unusedVariables false
open Go.RowKit Mix _root_.Go.Proofs.Yteeegomdaebobaa.Own Bits
attribute [local go_sem] max_int min_int

/-- A Row of the call's own, all of its memory from block B on. -/
structure NewR (B : Nat) (w : World) (p : Nat) (v : Value) (l : List Bool) : Prop where
  is : IsR w p v l
  at_ : B ≤ p
  row : ∀ g, v.ownBlock = some g → B ≤ g
theorem NewR.later {B : Nat} {w w' : World} {p : Nat} {v : Value} {l : List Bool} (h : NewR B w p v l) (hc : Below w.heap.size w w') : NewR B w' p v l :=
  ⟨h.is.keep (Chg.of_below (S := fun _ => False) hc) id (fun _ _ => id), h.at_, h.row⟩
theorem rput_new (B p : Nat) (v : Value) (l : List Bool) (x : Nat) (n : Int) (w : World) (hB : B ≤ w.heap.size) (hW : NewR B w p v l) (hl : l.length < 1000000000000) (hx : x < 18446744073709551616) (hn0 : -9223372036854775808 ≤ n) (hn1 : n ≤ 9223372036854775807) :
    Calls Try.prog 70 #[.pointer (some ⟨p, 0, none⟩), .int .u64 (x : Int), .int .i64 n] w fun e w' => e = .returned (.tuple #[]) ∧ ∃ v', NewR B w' p v' (l ++ bitsOf x (clamp n)) ∧ Below B w w' :=
  (rput_calls p v l x n w hW.is hl hx hn0 hn1).mono fun e w' ⟨he, v', h1, h2, h3⟩ => ⟨he, v', ⟨h1, hW.at_, fun g hg => by
      rcases h3 g hg with h | h
      · exact hW.row g h.symm
      · omega⟩, h2.below hB (fun k hk h => by
      rcases h with h | h
      · have := hW.at_; omega
      · have := hW.row k h.symm; omega)⟩

set_option maxHeartbeats 4000000 in
theorem rseal_calls (a0 : Option Addr) (n0 c0 : Nat) (xs : List Nat) (a1 : Option Addr) (n1 c1 : Nat) (ys : List Int) (w : World) (hR0 : Rd w (.slice a0 n0 c0) (nums .u64 xs)) (hR1 : Rd w (.slice a1 n1 c1) (ints .i64 ys))
    (hX : ∀ x ∈ xs, x < 18446744073709551616) (hY : ∀ y ∈ ys, -9223372036854775808 ≤ y ∧ y ≤ 9223372036854775807) (n : Nat) (hn : n = min n0 n1) (hn100 : n ≤ 1000) (hb0 : n0 < 1000000000000000) (hb1 : n1 < 1000000000000000) :
    Calls Try.prog 43 #[.slice a0 n0 c0, .slice a1 n1 c1] w fun e w' => e = .returned (.string (textOf (pack (catC xs ys n ++ [true])))) ∧ Below w.heap.size w w' := by
  have hx : xs.length = n0 := by have := hR0.length; rw [length_nums] at this; exact this.symm
  have hy : ys.length = n1 := by have := hR1.length; rw [length_ints] at this; exact this.symm
  obtain ⟨B, hB⟩ : ∃ B, B = w.heap.size := ⟨_, rfl⟩
  rw [← hB]
  obtain ⟨T, hT⟩ : ∃ T, T = textOf (pack (catC xs ys n ++ [true])) := ⟨_, rfl⟩
  rw [← hT]
  have HB := kept hB
  have HR0 := kept hR0
  have HR1 := kept hR1
  have HX := kept hX
  have HY := kept hY
  have HXL := kept hx
  have HYL := kept hy
  have HB0 := kept hb0
  have HB1 := kept hb1
  have HT := kept hT
  clear hB hR0 hR1 hX hY hx hy hb0 hb1 hT
  go_enter Try.func43, Try.ntmps43
  go_wp2_with fail
  generalize hwa : World.alloc w _ = wa
  have hb : Below B w wa := by rw [← hwa, HB.out]; exact (Below.refl _ _).alloc (Nat.le_refl _) _
  have hW : NewR B wa B (.slice none 0 0) [] := ⟨⟨by rw [← hwa]; exact Blk.fresh_at _ _ HB.out _ _, Owns.nil _ _⟩, Nat.le_refl _, fun g hg => by simp [Value.ownBlock] at hg⟩
  rw [← HB.out]
  have HWa := kept hW
  have HS1 : Kept (B ≤ wa.heap.size) := kept (by have := hb.size; have := HB.out; omega)
  have HBa := kept hb
  clear hwa hb hW
  go_loopw [6] (fun s6 wr => ∃ i : Nat, i ≤ n ∧ s6 = .int .i64 (i : Int) ∧ ∃ va, NewR B wr B va (catC xs ys i) ∧ Below B w wr ∧ B ≤ wr.heap.size)
    (fun s6 _ => n - (intOf s6).toNat)
  case atStart => exact ⟨0, Nat.zero_le _, rfl, _, HWa.out, HBa.out, HS1.out⟩
  case round =>
    obtain ⟨i, hi, rfl, va, hW, hb, hs⟩ := hrel
    have HW := kept hW
    have HBr := kept hb
    have HS := kept hs
    clear hW hb hs HWa HBa HS1
    by_cases hlt : i < n
    · have hi0 : i < n0 := by omega
      have hi1 : i < n1 := by omega
      have hrd0 := HR0.out.below HBr.out (by rw [HB.out]; exact HR0.out.lt)
      have hrd1 := HR1.out.below HBr.out (by rw [HB.out]; exact HR1.out.lt)
      obtain ⟨x0, rfl, hc0⟩ := hrd0.at (Own.nums_at .u64 xs i (by rw [HXL.out]; exact hi0))
      obtain ⟨x1, rfl, hc1⟩ := hrd1.at (Own.ints_at .i64 ys i (by rw [HYL.out]; exact hi1))
      have hx64 := mem_getD HX.out i (by rw [HXL.out]; exact hi0)
      have hy64 := mem_getDI HY.out i (by rw [HYL.out]; exact hi1)
      obtain ⟨x, hx⟩ : ∃ x, x = xs.getD i 0 := ⟨_, rfl⟩
      obtain ⟨y, hy⟩ : ∃ y, y = ys.getD i 0 := ⟨_, rfl⟩
      have hcat : catC xs ys (i + 1) = catC xs ys i ++ bitsOf x (clamp y) := by rw [hx, hy]; rfl
      rw [← hx] at hc0 hx64
      rw [← hy] at hc1 hy64
      have HX64 := kept hx64
      have HY64 := kept hy64
      have HC := kept hcat
      have l0 := lat_cell hc0
      have l1 := lat_cell hc1
      have hcl := catC_len xs ys i
      have HLL : Kept ((catC xs ys i).length < 1000000000000) := kept (by omega)
      have HN := kept hn
      clear hx hy hx64 hy64 hrd0 hrd1 hcat hcl hc0 hc1 hn
      go_wp2_with fail
      refine wp_region_mixL [] [0,1,2,3,4,5,6,7,8] [9] (by kernel_rfl) (by kernel_rfl) ?_
      intro K1 hK1
      simp only [pick, List.filterMap_cons, List.filterMap_nil, List.getElem?_cons_zero, List.getElem?_cons_succ]
      refine wpQuiet_nil ?_
      repeat (show wpQuiet _ _ _ _ (_ :: _) _; go_big_quiet_step (fail))
      refine wpQuiet_nil ?_
      show wpList _ _ _ (_ :: _) _ _
      generalize hwd : World.drew wr = wd
      have hlat : Below wr.heap.size wr wd := by rw [← hwd]; exact (Below.refl _ _).drew
      have HW2 := kept (HW.out.later hlat)
      have HB2 := kept (HBr.out.trans (hlat.mono HS.out))
      have HS2 := kept (Nat.le_trans HS.out hlat.size)
      clear hwd hlat l0 l1
      go_wp2_with (first
        | (go_at_call 70; refine (rput_new B B va _ x y wd HS2.out HW2.out HLL.out HX64.out HY64.out.1 HY64.out.2).mono ?_; rintro e w2 ⟨rfl, va2, hW2, hb2⟩; have HW3 := kept hW2; have HB3 := kept (HB2.out.trans hb2); have HS3 := kept (Nat.le_trans HS2.out hb2.size); clear hW2 hb2))
      refine hK1 _ _ ?_
      go_wp2_with fail
      go_roundw
      case rel => exact ⟨i + 1, by omega, by go_num, va2, by rw [HC.out]; exact HW3.out, HB3.out, HS3.out⟩
      case measure => simp [intOf]; omega
    · have hin : i = n := by omega
      subst hin
      have hor : ¬ i < n0 ∨ (i < n0 ∧ ¬ i < n1) := by omega
      have hcl := catC_len xs ys i
      have HLL : Kept ((catC xs ys i).length < 1000000000000) := kept (by omega)
      have HLM : Kept ((catC xs ys i ++ [true]).length < 1000000000000) := kept (by simp; omega)
      clear hcl hn
      rcases hor with t1 | ⟨t1, t2⟩
      all_goals
        go_wp2_with (first
          | (go_at_call 70; refine (rput_new B B va _ 1 1 wr HS.out HW.out HLL.out (by decide) (by decide) (by decide)).mono ?_; rintro e w2 ⟨rfl, va2, hW2, hb2⟩; have hA := rbytes_calls B va2 _ w2 hW2.is HLM.out; rw [bitsOf_one, ← HT.out] at hA; have HA := kept hA; have HB3 := kept (HBr.out.trans hb2); have HS3 := kept (Nat.le_trans HS.out hb2.size); clear hW2 hb2 hA)
          | (go_at_call 45; refine HA.out.mono ?_; rintro e w8 ⟨rfl, hb8⟩; have HB8 := kept (HB3.out.trans (hb8.mono HS3.out)); clear hb8))
        go_ret
        exact ⟨rfl, HB8.out⟩
end Go.Proofs.Yteeegomdaebobaa

-- ---- PAx5
/- The table of states: what the call answers, for every list and log. Conditions: none but a slice's. -/
namespace Go.Proofs.Yteeegomdaebobaa.PA
open Go.RowKit Go.Proofs.YteeegomdaebobaaW.PrintWords Go.Proofs.YteeegomdaebobaaW.PrintLast Go.Proofs.YteeegomdaebobaaW.PrintMore
set_option linter.unusedVariables false
set_option linter.unusedSimpArgs false

def cellS (c : Int × Int × Int) : S105 := ⟨c.1, c.2.1, c.2.2⟩
/-- The answer of both tables. -/
def tableE (l : List Int) (a : Int) : List (S105) × Int := if Sp.mayN l a = true then ((Sp.table l a.toNat).map cellS, 0) else ([], 3)
def spread_Table.f (l0 : List Int) (a1 : Int) : Option ((List (S105)) × Int) := some (tableE l0 a1)
theorem spread_Table.calls (A0 : Option Addr) (c0 : Nat) (l0 : List Int) (a1 : Int) (r1 : List (S105)) (r2 : Int) (w : World) (hr0 : Kd.C (Kd.int .i64) w A0 l0.length l0) (hc0 : l0.length ≤ c0) (h : spread_Table.f l0 a1 = some (r1, r2)) :
    Calls Try.prog 54 #[.slice A0 l0.length c0, .int .i64 a1] w fun e w' => ∃ v0_ : Value, e = .returned (.tuple #[v0_, .int .i64 r2]) ∧ Kd.R k105 105 w' w.heap.size (fun _ => True) v0_ r1 ∧ Below w.heap.size w w' := by
  have h := Option.some.inj h
  unfold tableE at h
  split at h
  · rename_i hg
    obtain ⟨rfl, rfl⟩ := Prod.mk.inj h
    obtain ⟨m, rfl, hm⟩ := (may_iff l0 a1).1 hg
    refine (table_ok A0 c0 l0 m w hr0 hc0 hg).mono ?_
    rintro e w' ⟨v, rfl, ho, hnew, hb⟩
    refine ⟨v, rfl, ?_, hb⟩
    refine Own.R_of_flat k105 (fun x => [.int .i64 x.f0, .int .i64 x.f1, .int .i64 x.f2]) (fun ok x => k105_mkM w' w.heap.size ok x) (fun _ => rfl) ?_ hnew
    rw [Int.toNat_natCast, List.length_map, Sp.length_table]
    have e : ((Sp.table l0 m).map cellS).flatMap (fun x => [Value.int .i64 x.f0, .int .i64 x.f1, .int .i64 x.f2]) = (Sp.table l0 m).flatMap cellV := by
      generalize Sp.table l0 m = cs
      induction cs with
      | nil => rfl
      | cons a t ih => simp only [List.map_cons, List.flatMap_cons, ih]; rfl
    rw [e]; exact ho
  · rename_i hg
    obtain ⟨rfl, rfl⟩ := Prod.mk.inj h
    refine (table_bad A0 c0 l0 a1 w hr0 hc0 hg).mono ?_
    rintro e w' ⟨rfl, hb⟩
    exact ⟨_, rfl, Kd.R_nil _ _ _ _ _, hb⟩
end Go.Proofs.Yteeegomdaebobaa.PA
