/- Part CanonTurned2 of what the layer's laws stand on: Ce, PAx8, PAx12, PAx1, PAx13, PAx9, PAx10, Uk, Nl, PAx19, Uq, My, Rc, Rd, Af. Written by a program (merge.py) out of this session's own texts and of what the kit's print wrote over stand-ins (sp.py). Conditions: those that each theorem names. -/
import Derived.Test.YtkdmamffbhlbgaaQCanonTurned1
import Derived.OwnWalk
import Derived.WalkSpells
import Derived.WalkLawsBesides
import Derived.BigQuiet
import Derived.Lib.Hide
import Derived.Deep.DeepCutAuto
import Derived.Deep.DeepAppendWide
import Derived.Laws.OwnMore
-- ---- Ce
/- canon.Codes: what the call answers. Conditions: the list reads as the argument does. -/
namespace Go.Proofs.Ytkdmamffbhlbgaa.CanonH
open Go.RowKit Go.Proofs.YtkdmamffbhlbgaaW.PrintWords Go.Proofs.YtkdmamffbhlbgaaW.PrintLast Go.Proofs.YtkdmamffbhlbgaaW.PrintMore
open Mix _root_.Go.Proofs.Ytkdmamffbhlbgaa.Own Ol Hp Cd Dp
set_option linter.unusedVariables false
set_option linter.unusedSimpArgs false
attribute [local go_sem] Own.max_int Own.min_int

theorem infoC : (Try.prog.info? 40).map (fun i => (i.zero, i.size, i.bytes)) = some (some (.agg #[.int .i64 0, .int .i64 0]), 2, 16) := by kernel_rfl
theorem made65 : (madeCells #[Value.int .i64 0, .int .i64 0] 130).toList = fl (List.replicate 65 (0, 0)) := by kernel_rfl

/-- The heap's own memory lies behind B. -/
structure HpC (B : Nat) (wr : World) (p : Nat) (v : Value) (lh : List (Int × Int)) : Prop where
  hp : IsHp wr p v lh
  heap : Heap ltL lh lh.length
  newp : B ≤ p
  new : ∀ g, v.ownBlock = some g → B ≤ g
/-- What is told so far: the codes at g, the last one at q. -/
structure OutC (B : Nat) (wr : World) (g q : Nat) (out : List (Int × Int)) (lb ll : Int) : Prop where
  out : OwnK wr 40 2 (.slice (some ⟨g, 0, none⟩) 65 65) 65 (fl out)
  last : Blk wr q #[.int .i64 lb, .int .i64 ll] 40
  gB : B ≤ g
  qB : B ≤ q
  ne : g ≠ q
theorem putC {B : Nat} {w wd : World} {g q p : Nat} {v : Value} {l2 ou : List (Int × Int)} {lb ll : Int} (h : OutC B wd g q ou lb ll) (hs : HpC B wd p v l2) (hb : Below B w wd) (hz : B ≤ wd.heap.size) (k : Nat) (x y : Int) (hk : k < 65) (hl : ou.length = 65) :
    OutC B ((((wd.setCell ⟨q, 0, none⟩ (.int .i64 x)).setCell ⟨q, 1, none⟩ (.int .i64 y)).setCell ⟨g, k * 2, none⟩ (.int .i64 x)).setCell ⟨g, k * 2 + 1, none⟩ (.int .i64 y)) g q (ou.set k (x, y)) x y ∧
    HpC B ((((wd.setCell ⟨q, 0, none⟩ (.int .i64 x)).setCell ⟨q, 1, none⟩ (.int .i64 y)).setCell ⟨g, k * 2, none⟩ (.int .i64 x)).setCell ⟨g, k * 2 + 1, none⟩ (.int .i64 y)) p v l2 ∧
    Below B w ((((wd.setCell ⟨q, 0, none⟩ (.int .i64 x)).setCell ⟨q, 1, none⟩ (.int .i64 y)).setCell ⟨g, k * 2, none⟩ (.int .i64 x)).setCell ⟨g, k * 2 + 1, none⟩ (.int .i64 y)) ∧
    B ≤ ((((wd.setCell ⟨q, 0, none⟩ (.int .i64 x)).setCell ⟨q, 1, none⟩ (.int .i64 y)).setCell ⟨g, k * 2, none⟩ (.int .i64 x)).setCell ⟨g, k * 2 + 1, none⟩ (.int .i64 y)).heap.size := by
  have hc : Chg (fun b => b = q ∨ b = g) wd ((((wd.setCell ⟨q, 0, none⟩ (.int .i64 x)).setCell ⟨q, 1, none⟩ (.int .i64 y)).setCell ⟨g, k * 2, none⟩ (.int .i64 x)).setCell ⟨g, k * 2 + 1, none⟩ (.int .i64 y)) :=
    ((((Chg.setCell wd ⟨q, 0, none⟩ (.int .i64 x)).mono (fun b _ h => .inl h)).trans (Chg.setCell _ ⟨q, 1, none⟩ (.int .i64 y)) (fun b _ h => .inl h)).trans (Chg.setCell _ ⟨g, k * 2, none⟩ (.int .i64 x)) (fun b _ h => .inr h)).trans (Chg.setCell _ ⟨g, k * 2 + 1, none⟩ (.int .i64 y)) (fun b _ h => .inr h)
  have hgq : (Value.slice (some ⟨g, 0, none⟩) 65 65).ownBlock ≠ some q := by simp [Value.ownBlock]; exact h.ne
  have hbb := hc.below hz (fun b hb e => by have h1 := h.qB; have h2 := h.gB; rcases e with e | e <;> omega)
  refine ⟨⟨?_, ?_, h.gB, h.qB, h.ne⟩, ⟨hs.hp.keep hc (fun e => ?_) (fun b hb e => ?_), hs.heap, hs.newp, hs.new⟩, hb.trans hbb, Nat.le_trans hz hbb.size⟩
  · rw [fl_set ou k (x, y) (by rw [hl]; exact hk)]
    exact (((h.out.setOther (a := ⟨q, 0, none⟩) hgq _).setOther (a := ⟨q, 1, none⟩) hgq _).store _ _).store _ _
  · have h1 := ((h.last.set 0 (.int .i64 x)).set 1 (.int .i64 y))
    exact (h1.setOther (a := ⟨g, k * 2, none⟩) (fun e => h.ne e.symm) _).setOther (a := ⟨g, k * 2 + 1, none⟩) (fun e => h.ne e.symm) _
  · rcases e with e | e
    · exact h.last.ne hs.hp.blk (by decide) e.symm
    · exact h.out.ne hs.hp.blk (by decide) (by rw [e]; rfl)
  · obtain ⟨cur, hgb⟩ := hs.hp.row.blk b hb
    rcases e with e | e
    · exact h.last.ne hgb (by decide) e.symm
    · exact h.out.ne hgb (by decide) (by rw [e]; rfl)

theorem setLast {B : Nat} {w wd : World} {g q p cc : Nat} {v : Value} {l2 ou : List (Int × Int)} {lb ll : Int} {cs : Array Value} (h : OutC B wd g q ou lb ll) (hs : HpC B wd p v l2) (hb : Below B w wd) (hz : B ≤ wd.heap.size) (y : Int) (hcl : Blk wd cc cs 51) :
    OutC B (wd.setCell ⟨q, 1, none⟩ (.int .i64 y)) g q ou lb y ∧ HpC B (wd.setCell ⟨q, 1, none⟩ (.int .i64 y)) p v l2 ∧ Below B w (wd.setCell ⟨q, 1, none⟩ (.int .i64 y)) ∧ B ≤ (wd.setCell ⟨q, 1, none⟩ (.int .i64 y)).heap.size ∧ Blk (wd.setCell ⟨q, 1, none⟩ (.int .i64 y)) cc cs 51 := by
  have hc := Chg.setCell wd ⟨q, 1, none⟩ (.int .i64 y)
  have hgq : (Value.slice (some ⟨g, 0, none⟩) 65 65).ownBlock ≠ some q := by simp [Value.ownBlock]; exact h.ne
  have hbb := hc.below hz (fun b hb e => by have h1 := h.qB; have h2 : b = q := e; omega)
  refine ⟨⟨h.out.setOther (a := ⟨q, 1, none⟩) hgq _, h.last.set 1 _, h.gB, h.qB, h.ne⟩, ⟨hs.hp.keep hc (fun e => ?_) (fun b hb e => ?_), hs.heap, hs.newp, hs.new⟩, hb.trans hbb, Nat.le_trans hz hbb.size, hc.keep hcl (fun e => hcl.ne h.last (by decide) e)⟩
  · exact h.last.ne hs.hp.blk (by decide) (Eq.symm e)
  · obtain ⟨cur, hgb⟩ := hs.hp.row.blk b hb
    exact h.last.ne hgb (by decide) (Eq.symm e)

def lenOf : Value → Nat
  | .slice _ n _ => n
  | _ => 0

set_option maxHeartbeats 4000000 in
theorem codes_bad (A0 : Option Addr) (c0 : Nat) (l : List Int) (w : World) (hr0 : Kd.C (Kd.int .i64) w A0 l.length l) (hc0 : l.length ≤ c0) (hm : mayL l = false) :
    Calls Try.prog 9 #[.slice A0 l.length c0] w fun e w' => e = .returned (.tuple #[.slice none 0 0, .int .i64 3]) ∧ Below w.heap.size w w' := by
  obtain ⟨k, hk⟩ := (PA.may_is l).rounds
  have hcm := PA.canon_May.calls k A0 c0 l _ w hr0 hc0 hk
  rw [hm] at hcm
  obtain ⟨n0, hn0⟩ : ∃ n0, n0 = l.length := ⟨_, rfl⟩
  rw [← hn0] at hcm ⊢
  have HM := kept hcm
  clear hr0 hc0 hk hcm hm hn0
  go_enter Try.func9, Try.ntmps9
  go_wp2_with (first | (go_at_call 11; refine HM.out.mono ?_; rintro e w1 ⟨rfl, ⟨⟨nd, rfl⟩⟩⟩))
  go_ret2
  exact ⟨rfl, pw_below_drewN (Below.refl _ _) _⟩

set_option maxHeartbeats 4000000 in
theorem codes_ok (A0 : Option Addr) (c0 : Nat) (l : List Int) (w : World) (hr0 : Kd.C (Kd.int .i64) w A0 l.length l) (hc0 : l.length ≤ c0) (hm : mayL l = true) :
    Calls Try.prog 9 #[.slice A0 l.length c0] w fun e w' => ∃ v, e = .returned (.tuple #[v, .int .i64 0]) ∧ OwnK w' 40 2 v 65 (fl (codeL l)) ∧ (∀ g, v.ownBlock = some g → w.heap.size ≤ g) ∧ Below w.heap.size w w' := by
  obtain ⟨i0, hi, hz0, hz1, hz2⟩ := info_partsE infoC
  obtain ⟨k, hk⟩ := (PA.may_is l).rounds
  have hcm := PA.canon_May.calls k A0 c0 l _ w hr0 hc0 hk
  have hks := ks_le hm
  rw [hm] at hcm
  have hm2 := hm
  unfold mayL at hm2
  rw [decide_eq_true_eq] at hm2
  obtain ⟨h65, hrg, _⟩ := hm2
  have hR := Own.rd_of_C hr0
  have hta := assertE
  obtain ⟨B, hB⟩ : ∃ B, B = w.heap.size := ⟨_, rfl⟩
  rw [h65] at hcm hR ⊢
  rw [← hB]
  have HB := kept hB
  have HM := kept hcm
  have HR := kept hR
  have HL := kept h65
  have HRg := kept hrg
  have HKs := kept hks
  clear hB hcm hR h65 hrg hks hm hk hr0 hc0
  go_enter Try.func9, Try.ntmps9
  go_wp2_with (first | (go_at_call 11; refine HM.out.mono ?_; rintro e w1 ⟨rfl, ⟨⟨nd, rfl⟩⟩⟩))
  generalize hwx : w.drewN nd = wx
  have hBx : Below w.heap.size w wx := by rw [← hwx]; exact pw_below_drewN (Below.refl _ _) _
  have hsx : wx.heap.size = w.heap.size := by rw [← hwx]; simp
  clear hwx
  obtain ⟨p, hp⟩ : ∃ p, p = w.heap.size + 1 := ⟨_, rfl⟩
  rw [← hp]
  obtain ⟨g0, hg0⟩ : ∃ g0, g0 = w.heap.size := ⟨_, rfl⟩
  rw [← hg0]
  generalize hw0 : World.alloc (World.alloc wx _) _ = w0
  have e1 : (wx.alloc (.cells #[] 51)).heap.size = p := by rw [hp, ← hsx]; simp
  have hb0 : Below B w w0 := by
    rw [← hw0, HB.out]
    exact (hBx.alloc (by rw [hsx]; exact Nat.le_refl _) _).alloc (by rw [e1, hp]; omega) _
  have hS0 : HpC B w0 p (.slice (some ⟨g0, 0, none⟩) 0 0) [] := by
    refine ⟨⟨by rw [← hw0]; exact Blk.fresh_at _ p e1.symm _ _, rfl, .inr ⟨g0, 0, #[], rfl, Nat.zero_le _, ?_, Nat.le_refl _, by simp [maxLen], rfl, rfl⟩⟩, fun i _ h => absurd h (by simp), by rw [HB.out, hp]; omega, fun g hg => ?_⟩
    · rw [← hw0, hg0, ← hsx]; exact (Blk.fresh wx _ _).alloc _
    · simp [Value.ownBlock] at hg; rw [HB.out, ← hg, hg0]; exact Nat.le_refl _
  have HS0 := kept hS0
  have HB0 := kept hb0
  have HP := kept hp
  clear hS0 hp hw0 e1 hg0 hBx hsx hb0
  have hrange : ∀ i, i < 65 → 0 ≤ l.getD i 0 ∧ l.getD i 0 ≤ 15 := fun i hi => by
    have h2 : i < l.length := by rw [HL.out]; exact hi
    exact HRg.out _ (by simp [List.getD_eq_getElem?_getD, h2])
  have HRn := kept hrange
  clear hrange
  go_loopw [18] (fun s18 wr => ∃ (i : Nat) (v : Value) (lh : List (Int × Int)), i ≤ 65 ∧ s18 = .int .i64 (i : Int) ∧ HpC B wr p v lh ∧ Below B w wr ∧ B ≤ wr.heap.size ∧ lh.Perm ((posL l i).map (pr l))) (fun s18 _ => 65 - (intOf s18).toNat)
  case atStart => exact ⟨0, _, [], Nat.zero_le _, rfl, HS0.out, HB0.out, by have := HB0.out.size; rw [HB.out]; exact this, List.Perm.refl _⟩
  case round =>
    obtain ⟨i, v, lh, hi2, rfl, hs, hlow, hsz, hpm⟩ := hrel
    obtain ⟨wo, rfl⟩ : ∃ wo, wo = wr := ⟨wr, rfl⟩
    have hRd := HR.out.below hlow (by rw [HB.out]; exact HR.out.lt)
    by_cases hlt : i < 65
    · have hil : i < l.length := by rw [HL.out]; exact hlt
      obtain ⟨x, rfl, hc⟩ := hRd.at (Own.ints_at .i64 l i hil)
      have hy15 := HRn.out i hlt
      obtain ⟨y, hy⟩ : ∃ y, y = l.getD i 0 := ⟨_, rfl⟩
      rw [← hy] at hc hy15
      obtain ⟨hy0, hy1⟩ := hy15
      have hlen : lh.length ≤ i := by have := hpm.length_eq; rw [List.length_map] at this; have := length_posL l i; omega
      have HS := kept hs
      have HLow := kept hlow
      have HSz := kept hsz
      have HPm := kept hpm
      have HY := kept hy
      clear hRd hs hpm hy hlow hsz
      by_cases hpos : 0 < y
      · have p0 : ¬ y ≤ 0 := by omega
        have HPush := kept (hpush_calls p v lh (i : Int) y wo HS.out.hp (by omega) HS.out.heap)
        go_wp2_with fail
        refine HPush.out.mono ?_
        rintro e w1 ⟨rfl, v1, l1, h1, hh1, hp1, hc1, hf1⟩
        have hb1 : Below B wo w1 := hc1.below HSz.out (fun k hk h => by
          rcases h with h | h
          · have := HS.out.newp; omega
          · have := HS.out.new k h.symm; omega)
        have HS1 : Kept (HpC B w1 p v1 l1 ∧ Below B w w1 ∧ B ≤ w1.heap.size) := kept ⟨⟨h1, hh1, HS.out.newp, fun g hg => (hf1 g hg).elim (fun h => HS.out.new g h.symm) (fun h => Nat.le_trans HSz.out h)⟩, HLow.out.trans hb1, Nat.le_trans HSz.out hb1.size⟩
        have HPm1 : Kept (l1.Perm ((posL l (i + 1)).map (pr l))) := kept (by
          rw [posL_succ, if_pos (by rw [← HY.out]; exact hpos), List.map_append]
          refine hp1.trans (HPm.out.append ?_)
          simp only [List.map_cons, List.map_nil, pr]; rw [← HY.out])
        clear h1 hh1 hp1 hc1 hf1 hb1
        go_wp2_with fail
        go_roundw
        case rel => exact ⟨i + 1, v1, l1, by omega, by go_num, HS1.out.1, HS1.out.2.1, HS1.out.2.2, HPm1.out⟩
        case measure => simp [intOf]; omega
      · have p0 : y ≤ 0 := by omega
        have HPm1 : Kept (lh.Perm ((posL l (i + 1)).map (pr l))) := kept (by
          rw [posL_succ, if_neg (by rw [← HY.out]; exact hpos), List.append_nil]; exact HPm.out)
        go_wp2_with fail
        go_roundw
        case rel => exact ⟨i + 1, v, lh, by omega, by go_num, HS.out, HLow.out, HSz.out, HPm1.out⟩
        case measure => simp [intOf]; omega
    · have hin : i = 65 := by omega
      subst hin
      have hx15 : ∀ x ∈ l, x ≤ 15 := fun x hx => (HRg.out x hx).2
      have HS := kept hs
      have HLow := kept hlow
      have HSz := kept hsz
      have HX := kept hx15
      have HPm : Kept (lh.Perm ((ordS l).map (pr l))) := kept (hpm.trans (by rw [← HL.out]; exact ((perm_ordS l hx15).map _).symm))
      clear hs hpm hRd hlow hsz hx15 hlt
      go_wp2_with (first | (refine wpList_make_full _ rfl _ _ 24 rfl 0 40 i0 (.agg #[.int .i64 0, .int .i64 0]) 2 Try.underlying24 hi hz0 hz1 .i64 .i64 _ _ 65 rfl rfl rfl rfl (by rw [hz2]; decide) (by decide) (Nat.zero_le _) ?_))
      intro w2 hown hgr
      rw [made65] at hown
      obtain ⟨g, hg⟩ : ∃ g, g = wo.heap.size := ⟨_, rfl⟩
      rw [← hg] at hown ⊢
      have hb2 : Below wo.heap.size wo w2 := ⟨hgr.os, hgr.tape, hgr.output, hgr.size, fun k hk => hgr.block k hk (by simp)⟩
      have hgl : g < w2.heap.size := OwnK.lt hown g rfl
      have hout : OwnK w2 40 2 (.slice (some ⟨g, 0, none⟩) 65 65) 65 (fl (List.replicate 65 (0, 0))) := hown
      have HS2 : Kept (HpC B w2 p v lh ∧ Below B w w2 ∧ B ≤ w2.heap.size) := kept ⟨⟨HS.out.hp.later hb2, HS.out.heap, HS.out.newp, HS.out.new⟩, HLow.out.trans (hb2.mono HSz.out), Nat.le_trans HSz.out hb2.size⟩
      have hgB : B ≤ g := by rw [hg]; exact HSz.out
      have HO2 := kept hout
      have HGl := kept hgl
      have HGB := kept hgB
      clear hown hgr hb2 hg hout hgl hgB HS HLow HSz HS0 HB0
      obtain ⟨q, hq⟩ : ∃ q, q = w2.heap.size := ⟨_, rfl⟩
      obtain ⟨w3, hw3⟩ : ∃ w3, w3 = w2.alloc (.cells #[.int .i64 (-1), .int .i64 0] 40) := ⟨_, rfl⟩
      have hb3 : Below w2.heap.size w2 w3 := by rw [hw3]; exact (Below.refl _ _).alloc (Nat.le_refl _) _
      have HS3 : Kept (HpC B w3 p v lh ∧ Below B w w3 ∧ B ≤ w3.heap.size) := kept ⟨⟨HS2.out.1.hp.later hb3, HS2.out.1.heap, HS2.out.1.newp, HS2.out.1.new⟩, HS2.out.2.1.trans (hb3.mono HS2.out.2.2), Nat.le_trans HS2.out.2.2 hb3.size⟩
      have HO3 : Kept (OutC B w3 g q (List.replicate 65 (0, 0)) (-1) 0) := kept ⟨HO2.out.later hb3, by rw [hw3, hq]; exact Blk.fresh _ _ _, HGB.out, by rw [hq]; exact HS2.out.2.2, by have := HGl.out; omega⟩
      clear hb3 HS2 HO2
      go_wp2_with fail
      rw [← hq, ← hw3]
      clear hw3 hq
      go_loopw [10] (fun s10 wq => ∃ (done rest : List Nat) (v1 : Value) (l1 : List (Int × Int)) (lb : Int), ordS l = done ++ rest ∧ HpC B wq p v1 l1 ∧ Below B w wq ∧ B ≤ wq.heap.size ∧ (rest.map (pr l)).Perm l1 ∧ OutC B wq g q (cst l done).1 lb ((cst l done).2.2 : Int) ∧ ((cst l done).2.2 = 0 ∧ lb = -1 ∨ 1 ≤ (cst l done).2.2 ∧ lb = ((cst l done).2.1 : Int)) ∧ l1.length = rest.length)
        (fun s10 wq => match wq.cell? ⟨p, 0, none⟩ with | some v => lenOf v | none => 0)
      case atStart => exact ⟨[], ordS l, v, lh, -1, rfl, HS3.out.1, HS3.out.2.1, HS3.out.2.2, HPm.out.symm, HO3.out, .inl ⟨rfl, rfl⟩, by have := HPm.out.length_eq; rwa [List.length_map] at this⟩
      case round =>
        obtain ⟨done, rest, v1, l1, lb, ho, hs, hlow, hsz, hpm, hout, hlb, hlen⟩ := hrel
        obtain ⟨wq, rfl⟩ : ∃ wq, wq = wr := ⟨wr, rfl⟩
        have hlen2 : done.length + rest.length ≤ 65 := by
          have := length_ordS l HX.out
          rw [ho, List.length_append, HL.out] at this; exact this
        cases rest with
        | nil =>
          have hnil : l1 = [] := List.length_eq_zero_iff.1 (by simpa using hlen)
          subst hnil
          obtain ⟨av, cv, rfl, _⟩ := hs.hp.row.slice
          simp only [List.length_nil] at hs ⊢
          have c0 : wq.cell? ⟨p, 0, none⟩ = some (.slice av 0 cv) := hs.hp.blk.cell rfl
          have hfin : (cst l done).1 = codeL l := by unfold codeL; rw [ho, List.append_nil]
          rw [hfin] at hout
          have HF := kept hout
          have HLow := kept hlow
          have HSz := kept hsz
          clear hs hpm ho hlen hlen2 hout hlb hfin hlow hsz HS3 HO3
          go_wp2_with (first | (go_at_call 18; refine (hlen_calls _ _ _ _).mono ?_; rintro e w1 ⟨rfl, hbl⟩; have HF1 := kept (HF.out.out.later hbl); have HL1 := kept (HLow.out.trans (hbl.mono HSz.out)); clear hbl))
          go_ret2
          exact ⟨_, rfl, HF1.out, fun b hb => by simp [Value.ownBlock] at hb; rw [← hb]; exact HF.out.gB, HL1.out⟩
        | cons k rest =>
          simp only [List.length_cons] at hlen hlen2
          obtain ⟨gh, cap, rfl, hnc, hcm, hgp, hgl⟩ := hs.hp.row0 (by omega)
          simp only [hlen] at hs hnc ⊢
          have c0 : wq.cell? ⟨p, 0, none⟩ = some (.slice (some ⟨gh, 0, none⟩) (rest.length + 1) cap) := hs.hp.blk.cell rfl
          have HC0 := kept c0
          have hx : ∃ rest' : List (Int × Int), ((k :: rest).map (pr l)) = at_ l1 0 :: rest' ∧ ∀ l', l1.Perm (at_ l1 0 :: l') → (∀ y ∈ l', ltL y (at_ l1 0) = false) → rest'.Perm l' := by
            have hs1 : ((k :: rest).map (pr l)).Pairwise fun a b => ltL b a = false := by
              have := pairs_ordS l
              rw [ho, List.map_append] at this
              exact (List.pairwise_append.1 this).2.1
            have hat : ∀ y ∈ l1, ltL y (at_ l1 0) = false := by
              intro y hy
              obtain ⟨j, hj, rfl⟩ := List.mem_iff_getElem.1 hy
              rw [← at_lt l1 j hj]
              exact heap_min oL hs.heap j hj
            have hmem : at_ l1 0 ∈ l1 := by rw [at_lt l1 0 (by omega)]; exact List.getElem_mem _
            obtain ⟨l1', hl1'⟩ : ∃ l', l1.Perm (at_ l1 0 :: l') := ⟨l1.erase (at_ l1 0), List.perm_cons_erase hmem⟩
            obtain ⟨r', hr1, hr2⟩ := pop_head oL hs1 (hpm.trans hl1') (fun y hy => hat y (hl1'.mem_iff.2 (List.mem_cons_of_mem _ hy)))
            exact ⟨r', hr1, fun l' hp _ => hr2.trans ((List.perm_cons _).1 (hl1'.symm.trans hp))⟩
          obtain ⟨rest', hx1, hx2⟩ := hx
          simp only [List.map_cons, List.cons.injEq] at hx1
          obtain ⟨hk, rfl⟩ := hx1
          have hpos : (0 : Int) < ((rest.length + 1 : Nat) : Int) := by omega
          have HPop := kept (fun (w1 : World) (hb : Below wq.heap.size wq w1) => hpop_calls p gh rest.length cap l1 w1 (hs.hp.later hb) hlen (by omega) (by rw [← hlen]; exact hs.heap))
          -- the code that comes
          have hkm : k ∈ ordS l := by rw [ho]; simp
          obtain ⟨hkl, hk1, hk15⟩ := mem_ordS.1 hkm
          obtain ⟨n, hn⟩ : ∃ n : Nat, l.getD k 0 = (n : Int) := ⟨(l.getD k 0).toNat, by omega⟩
          have hso := sorted_ordS l
          rw [ho] at hso
          have hso2 := List.pairwise_append.1 hso
          have hdn : ∀ a ∈ done, l.getD a 0 ≤ (n : Int) := fun a ha => by have := hso2.2.2 a ha k (by simp); omega
          have hdm : ∀ a ∈ done, 1 ≤ l.getD a 0 ∧ l.getD a 0 ≤ 15 := fun a ha => (mem_ordS.1 (by rw [ho]; exact List.mem_append_left _ ha)).2
          have hinv := cst_inv l done (hso2.1.imp fun {a b} h => by omega) hdm
          have hle := hinv.2 (n : Int) hdn
          have hinv2 := inv_nx (n := n) hinv.1 (by omega) (by omega) (by omega)
          have hkd : kd l done + 2 ^ (15 - n) ≤ 32768 := by
            have h := kd_all l HX.out
            have h2 := HKs.out
            rw [← h, ho, kd_append] at h2
            have h3 : kd l (k :: rest) = 2 ^ (15 - n) + kd l rest := by unfold kd; rw [List.map_cons, List.sum_cons, hn, Int.toNat_natCast]
            omega
          have hnx : cst l (done ++ [k]) = ((cst l done).1.set k (((nx (cst l done).2 n).1 : Int), ((nx (cst l done).2 n).2 : Int)), nx (cst l done).2 n) := by
            rw [cst_snoc]; unfold cstep; rw [hn, Int.toNat_natCast]
          obtain ⟨st, hst⟩ : ∃ st, st = (cst l done).2 := ⟨_, rfl⟩
          obtain ⟨ou, hou⟩ : ∃ ou, ou = (cst l done).1 := ⟨_, rfl⟩
          have houl : ou.length = 65 := by rw [hou]; exact length_cst l done
          rw [← hst, ← hou] at hout hnx
          rw [← hst] at hlb hle hinv2
          have hn2 : (nx st n).2 = n := by unfold nx; split <;> rfl
          have hb15 : (nx st n).1 + 1 ≤ 32768 := by
            rcases hinv2 with ⟨h0, _⟩ | ⟨_, _, h2⟩
            · omega
            · have h3 : 1 ≤ 2 ^ (15 - (nx st n).2) := Nat.pow_pos (by decide)
              have h4 : ((nx st n).1 + 1) * 1 ≤ ((nx st n).1 + 1) * 2 ^ (15 - (nx st n).2) := Nat.mul_le_mul_left _ h3
              omega
          have hk65 : k < 65 := by rw [← HL.out]; exact hkl
          have HX2 := kept hx2
          have HS := kept hs
          have HOut := kept hout
          have HO := kept ho
          have HK := kept hk
          have HLow := kept hlow
          have HSz := kept hsz
          have HNx := kept hnx
          have HN2 := kept hn2
          have HOl := kept houl
          have hax : ∃ ax ay, at_ l1 0 = (ax, ay) ∧ ax = (k : Int) ∧ ay = (n : Int) := ⟨(k : Int), l.getD k 0, HK.out.symm, rfl, hn⟩
          obtain ⟨ax, ay, hax, haxk, hayn⟩ := hax
          rw [hax] at HPop HX2
          simp only at HPop
          subst haxk hayn
          have hn1 : 1 ≤ n := by omega
          have hn15 : n ≤ 15 := by omega
          have hlen3 := hlen
          clear hs hpm hout ho hlen hx2 hk HPm hlow hsz hkm hkl hk1 hk15 hso hso2 hdn hdm hinv hinv2 hkd hnx hst hou houl hn2 hax hn HS3 HO3 hlen3
          go_wp2_with fail
          refine (hlen_calls _ _ _ _).mono ?_; rintro e w1 ⟨rfl, hbl⟩
          have HPop1 := kept (HPop.out w1 hbl)
          have HO1 : Kept (OutC B w1 g q ou lb (st.2 : Int)) := kept ⟨HOut.out.out.later hbl, (hbl.block q HOut.out.last.lt).trans HOut.out.last, HOut.out.gB, HOut.out.qB, HOut.out.ne⟩
          have HB1 := kept (HLow.out.trans (hbl.mono HSz.out))
          have HZ1 := kept (Nat.le_trans HSz.out hbl.size)
          clear hbl
          go_wp2_with fail
          refine HPop1.out.mono ?_
          rintro e w2 ⟨rfl, l2, h2, hl2, hh2, hp2, hm2, hc2⟩
          obtain ⟨curh, hgb⟩ := HS.out.hp.row.blk gh rfl
          have hgp1 : g ≠ p := fun e => HOut.out.out.ne HS.out.hp.blk (by decide) (by rw [← e]; rfl)
          have hgg1 : g ≠ gh := fun e => HOut.out.out.ne hgb (by decide) (by rw [← e]; rfl)
          have hqp1 : q ≠ p := HOut.out.last.ne HS.out.hp.blk (by decide)
          have hqg1 : q ≠ gh := HOut.out.last.ne hgb (by decide)
          have hb2 : Below B w1 w2 := hc2.below HZ1.out (fun b hb h => by
            rcases h with rfl | rfl
            · have := HS.out.newp; omega
            · have := HS.out.new b rfl; omega)
          have HO2 : Kept (OutC B w2 g q ou lb (st.2 : Int)) := kept ⟨HO1.out.out.chg hc2 (fun b hb h => by
              simp [Value.ownBlock] at hb; subst hb
              rcases h with h | h
              · exact hgp1 h
              · exact hgg1 h), hc2.keep HO1.out.last (fun h => by
              rcases h with h | h
              · exact hqp1 h
              · exact hqg1 h), HOut.out.gB, HOut.out.qB, HOut.out.ne⟩
          have HS2 : Kept (HpC B w2 p (.slice (some ⟨gh, 0, none⟩) rest.length cap) l2 ∧ Below B w w2 ∧ B ≤ w2.heap.size) := kept ⟨⟨h2, by rw [hl2]; exact hh2, HS.out.newp, fun b hb => HS.out.new b hb⟩, HB1.out.trans hb2, Nat.le_trans HZ1.out hb2.size⟩
          have HPm2 := kept (HX2.out l2 hp2 hm2)
          have HL2 := kept hl2
          clear h2 hl2 hh2 hp2 hm2 hc2 hb2 hgb hgp1 hgg1 hqp1 hqg1
          obtain ⟨cc, hcc⟩ : ∃ cc, cc = w2.heap.size := ⟨_, rfl⟩
          obtain ⟨w3, hw3⟩ : ∃ w3, w3 = w2.alloc (.cells #[.int .i64 (k : Int), .int .i64 (n : Int)] 51) := ⟨_, rfl⟩
          have hb3 : Below w2.heap.size w2 w3 := by rw [hw3]; exact (Below.refl _ _).alloc (Nat.le_refl _) _
          have HS3 : Kept (HpC B w3 p (.slice (some ⟨gh, 0, none⟩) rest.length cap) l2 ∧ Below B w w3 ∧ B ≤ w3.heap.size) := kept ⟨⟨HS2.out.1.hp.later hb3, HS2.out.1.heap, HS2.out.1.newp, HS2.out.1.new⟩, HS2.out.2.1.trans (hb3.mono HS2.out.2.2), Nat.le_trans HS2.out.2.2 hb3.size⟩
          have HO3 : Kept (OutC B w3 g q ou lb (st.2 : Int)) := kept ⟨HO2.out.out.later hb3, (hb3.block q HO2.out.last.lt).trans HO2.out.last, HOut.out.gB, HOut.out.qB, HOut.out.ne⟩
          have hcl : Blk w3 cc #[.int .i64 (k : Int), .int .i64 (n : Int)] 51 := by rw [hw3, hcc]; exact Blk.fresh _ _ _
          have hccq : cc ≠ q := fun e => (hcl.ne HO3.out.last (by decide)) e
          have k0 := hcl.cell (i := 0) rfl
          have k1 := hcl.cell (i := 1) rfl
          have q0 := HO3.out.last.cell (i := 0) rfl
          have q1 := HO3.out.last.cell (i := 1) rfl
          have fq0 := HO3.out.last.free 0
          have fq1 := HO3.out.last.free 1
          have HCl := kept hcl
          clear hb3 hcl HO1 HO2 HS2 HPop HPop1 HOut HS c0
          go_upto_if 48 with fail
          rw [← hcc, ← hw3]
          clear hw3 hcc hta
          rcases hlb with ⟨hst0, rfl⟩ | ⟨hst1, rfl⟩
          · have HX3 : Kept ((nx st n).1 = 0) := kept (by unfold nx; rw [if_pos hst0])
            rw [hst0] at q1 HO3
            rw [show (((0 : Nat)) : Int) = 0 from rfl] at q1 HO3
            obtain ⟨w4, hw4⟩ : ∃ w4, w4 = w3.setCell ⟨q, 1, none⟩ (.int .i64 (n : Int)) := ⟨_, rfl⟩
            have h4 := setLast HO3.out HS3.out.1 HS3.out.2.1 HS3.out.2.2 (n : Int) HCl.out
            rw [← hw4] at h4
            have HS4 : Kept (HpC B w4 p (.slice (some ⟨gh, 0, none⟩) rest.length cap) l2 ∧ Below B w w4 ∧ B ≤ w4.heap.size) := kept ⟨h4.2.1, h4.2.2.1, h4.2.2.2.1⟩
            have HO4 : Kept (OutC B w4 g q ou (-1) (n : Int)) := kept h4.1
            have HCl4 : Kept (Blk w4 cc #[.int .i64 (k : Int), .int .i64 (n : Int)] 51) := kept h4.2.2.2.2
            go_upto_region 17 with fail
            rw [← hw4]
            clear h4 hw4 hb15 HS3 HO3 HCl k0 k1 q0 q1 fq0 fq1
            have k0 := HCl4.out.cell (i := 0) rfl
            have k1 := HCl4.out.cell (i := 1) rfl
            have q0 := HO4.out.last.cell (i := 0) rfl
            have q1 := HO4.out.last.cell (i := 1) rfl
            have fq0 := HO4.out.last.free 0
            have fq1 := HO4.out.last.free 1
            have m0 := lat_cell k0
            have m1 := lat_cell k1
            have m2 := lat_cell q0
            have m3 := lat_cell q1
            refine wp_region_mixL [] [0,1,2,3,4,5,6,7,8,9,10] [11,12] (by kernel_rfl) (by kernel_rfl) ?_
            intro K hK
            simp only [pick, List.filterMap_cons, List.filterMap_nil, List.getElem?_cons_zero, List.getElem?_cons_succ]
            refine wpQuiet_nil ?_
            repeat (show wpQuiet _ _ _ _ (_ :: _) _; go_big_quiet_step (fail))
            refine wpQuiet_nil ?_
            show wpList _ _ _ [_, _] _ _
            generalize hwd : World.drew w4 = wd
            have hlat : Below w4.heap.size w4 wd := by rw [← hwd]; exact (Below.refl _ _).drew
            have HSd : Kept (HpC B wd p (.slice (some ⟨gh, 0, none⟩) rest.length cap) l2 ∧ Below B w wd ∧ B ≤ wd.heap.size) := kept ⟨⟨HS4.out.1.hp.later hlat, HS4.out.1.heap, HS4.out.1.newp, HS4.out.1.new⟩, HS4.out.2.1.trans (hlat.mono HS4.out.2.2), Nat.le_trans HS4.out.2.2 hlat.size⟩
            have HOd : Kept (OutC B wd g q ou (-1) (n : Int)) := kept ⟨HO4.out.out.later hlat, (hlat.block q HO4.out.last.lt).trans HO4.out.last, HO4.out.gB, HO4.out.qB, HO4.out.ne⟩
            have HCd : Kept (Blk wd cc #[.int .i64 (k : Int), .int .i64 (n : Int)] 51) := kept ((hlat.block cc HCl4.out.lt).trans HCl4.out)
            clear hwd hlat m0 m1 m2 m3 k0 k1 q0 q1 fq0 fq1 HS4 HO4 HCl4
            have q0 := HOd.out.last.cell (i := 0) rfl
            have q1 := HOd.out.last.cell (i := 1) rfl
            have fq0 := HOd.out.last.free 0
            have fq1 := HOd.out.last.free 1
            have k0 := HCd.out.cell (i := 0) rfl
            have k1 := HCd.out.cell (i := 1) rfl
            have co0 := HOd.out.out.cell (fl_at ou k (by rw [HOl.out]; exact hk65)).1
            have co1 := HOd.out.out.cell (fl_at ou k (by rw [HOl.out]; exact hk65)).2
            have fo0 := HOd.out.out.free (k * 2)
            have fo1 := HOd.out.out.free (k * 2 + 1)
            obtain ⟨oa, hoa⟩ : ∃ oa, oa = at_ ou k := ⟨_, rfl⟩
            rw [← hoa] at co0 co1
            have HFin := kept (putC HOd.out HSd.out.1 HSd.out.2.1 HSd.out.2.2 k 0 (n : Int) hk65 HOl.out)
            have hgq := HOd.out.ne
            have hqg : q ≠ g := fun e => hgq e.symm
            clear hoa
            go_wp2_with fail
            refine hK _ _ ?_
            go_wp2_with fail
            go_roundw
            case rel =>
              refine ⟨done ++ [k], rest, _, l2, 0, by rw [HO.out]; simp, HFin.out.2.1, HFin.out.2.2.1, HFin.out.2.2.2, HPm2.out, ?_, ?_, HL2.out⟩
              · rw [HNx.out]
                show OutC B _ g q (ou.set k (((nx st n).1 : Int), ((nx st n).2 : Int))) _ ((nx st n).2 : Int)
                rw [HN2.out, HX3.out]
                exact HFin.out.1
              · right
                rw [HNx.out]
                show 1 ≤ (nx st n).2 ∧ (0 : Int) = ((nx st n).1 : Int)
                rw [HN2.out, HX3.out]
                exact ⟨hn1, rfl⟩
            case measure =>
              have d0 := HFin.out.2.1.hp.blk.cell (i := 0) rfl
              rw [d0, HC0.out]
              simp [lenOf]
          · have ts : ((st.2 : Int) == 0) = false := by rw [beq_eq_false_iff_ne]; omega
            obtain ⟨d, hd⟩ : ∃ d : Nat, (n : Int) - (st.2 : Int) = (d : Int) := ⟨n - st.2, by omega⟩
            have hd2 : d = n - st.2 := by omega
            have hval : (nx st n).1 = (st.1 + 1) * 2 ^ d := by unfold nx; rw [if_neg (by omega), hd2]
            obtain ⟨X, hX⟩ : ∃ X, X = (nx st n).1 := ⟨_, rfl⟩
            have hXb : X + 1 ≤ 32768 := by rw [hX]; exact hb15
            have hv : ((st.1 : Int) + 1) * 2 ^ d = (X : Int) := by rw [hX, hval]; simp
            have hsb : st.1 + 1 ≤ 32768 := by
              have h1 : 1 ≤ 2 ^ d := Nat.pow_pos (by decide)
              have h2 : (st.1 + 1) * 1 ≤ (st.1 + 1) * 2 ^ d := Nat.mul_le_mul_left _ h1
              omega
            have HX3 := kept hX
            have m0 := lat_cell k0
            have m1 := lat_cell k1
            have m2 := lat_cell q0
            have m3 := lat_cell q1
            clear hval hd2 hX hb15
            go_wp2_with fail
            refine wp_region_mixL [] [0,1,2,3,4,5,6,7,8,9,10] [11,12] (by kernel_rfl) (by kernel_rfl) ?_
            intro K hK
            simp only [pick, List.filterMap_cons, List.filterMap_nil, List.getElem?_cons_zero, List.getElem?_cons_succ]
            refine wpQuiet_nil ?_
            repeat (show wpQuiet _ _ _ _ (_ :: _) _; go_big_quiet_step (fail))
            refine wpQuiet_nil ?_
            show wpList _ _ _ [_, _] _ _
            generalize hwd : World.drew w3 = wd
            have hlat : Below w3.heap.size w3 wd := by rw [← hwd]; exact (Below.refl _ _).drew
            have HSd : Kept (HpC B wd p (.slice (some ⟨gh, 0, none⟩) rest.length cap) l2 ∧ Below B w wd ∧ B ≤ wd.heap.size) := kept ⟨⟨HS3.out.1.hp.later hlat, HS3.out.1.heap, HS3.out.1.newp, HS3.out.1.new⟩, HS3.out.2.1.trans (hlat.mono HS3.out.2.2), Nat.le_trans HS3.out.2.2 hlat.size⟩
            have HOd : Kept (OutC B wd g q ou (st.1 : Int) (st.2 : Int)) := kept ⟨HO3.out.out.later hlat, (hlat.block q HO3.out.last.lt).trans HO3.out.last, HO3.out.gB, HO3.out.qB, HO3.out.ne⟩
            have HCd : Kept (Blk wd cc #[.int .i64 (k : Int), .int .i64 (n : Int)] 51) := kept ((hlat.block cc HCl.out.lt).trans HCl.out)
            clear hwd hlat m0 m1 m2 m3 k0 k1 q0 q1 fq0 fq1 HS3 HO3 HCl
            have q0 := HOd.out.last.cell (i := 0) rfl
            have q1 := HOd.out.last.cell (i := 1) rfl
            have fq0 := HOd.out.last.free 0
            have fq1 := HOd.out.last.free 1
            have k0 := HCd.out.cell (i := 0) rfl
            have k1 := HCd.out.cell (i := 1) rfl
            have co0 := HOd.out.out.cell (fl_at ou k (by rw [HOl.out]; exact hk65)).1
            have co1 := HOd.out.out.cell (fl_at ou k (by rw [HOl.out]; exact hk65)).2
            have fo0 := HOd.out.out.free (k * 2)
            have fo1 := HOd.out.out.free (k * 2 + 1)
            obtain ⟨oa, hoa⟩ : ∃ oa, oa = at_ ou k := ⟨_, rfl⟩
            rw [← hoa] at co0 co1
            have HFin := kept (putC HOd.out HSd.out.1 HSd.out.2.1 HSd.out.2.2 k (X : Int) (n : Int) hk65 HOl.out)
            have hgq := HOd.out.ne
            have hqg : q ≠ g := fun e => hgq e.symm
            clear hoa
            go_wp2_with fail
            refine hK _ _ ?_
            go_wp2_with fail
            go_roundw
            case rel =>
              refine ⟨done ++ [k], rest, _, l2, (X : Int), by rw [HO.out]; simp, HFin.out.2.1, HFin.out.2.2.1, HFin.out.2.2.2, HPm2.out, ?_, ?_, HL2.out⟩
              · rw [HNx.out]
                show OutC B _ g q (ou.set k (((nx st n).1 : Int), ((nx st n).2 : Int))) _ ((nx st n).2 : Int)
                rw [HN2.out, ← HX3.out]
                exact HFin.out.1
              · right
                rw [HNx.out]
                show 1 ≤ (nx st n).2 ∧ (X : Int) = ((nx st n).1 : Int)
                rw [HN2.out, ← HX3.out]
                exact ⟨hn1, rfl⟩
            case measure =>
              have d0 := HFin.out.2.1.hp.blk.cell (i := 0) rfl
              rw [d0, HC0.out]
              simp [lenOf]
end Go.Proofs.Ytkdmamffbhlbgaa.CanonH

-- ---- PAx8
/- canon.Codes: what the call answers, for every list. Conditions: none but a slice's. -/
namespace Go.Proofs.Ytkdmamffbhlbgaa.PA
open Go.RowKit Go.Proofs.YtkdmamffbhlbgaaW.PrintWords Go.Proofs.YtkdmamffbhlbgaaW.PrintLast Go.Proofs.YtkdmamffbhlbgaaW.PrintMore
set_option linter.unusedVariables false
set_option linter.unusedSimpArgs false

def codeS (c : Int × Int) : S40 := ⟨c.1, c.2⟩
/-- The answer of both. -/
def codesE (l : List Int) : List (S40) × Int := if Dp.mayL l = true then ((Cd.codeL l).map codeS, 0) else ([], 3)
def canon_Codes.f (l0 : List Int) : Option ((List (S40)) × Int) := some (codesE l0)
theorem canon_Codes.calls (A0 : Option Addr) (c0 : Nat) (l0 : List Int) (r1 : List (S40)) (r2 : Int) (w : World) (hr0 : Kd.C (Kd.int .i64) w A0 l0.length l0) (hc0 : l0.length ≤ c0) (h : canon_Codes.f l0 = some (r1, r2)) :
    Calls Try.prog 9 #[.slice A0 l0.length c0] w fun e w' => ∃ v0_ : Value, e = .returned (.tuple #[v0_, .int .i64 r2]) ∧ Kd.R k40 40 w' w.heap.size (fun _ => True) v0_ r1 ∧ Below w.heap.size w w' := by
  have h := Option.some.inj h
  unfold codesE at h
  split at h
  · rename_i hg
    obtain ⟨rfl, rfl⟩ := Prod.mk.inj h
    refine (CanonH.codes_ok A0 c0 l0 w hr0 hc0 hg).mono ?_
    rintro e w' ⟨v, rfl, ho, hnew, hb⟩
    refine ⟨v, rfl, ?_, hb⟩
    refine Own.R_of_flat k40 (fun x => [.int .i64 x.f0, .int .i64 x.f1]) (fun ok x => k40_mkM w' w.heap.size ok x) (fun _ => rfl) ?_ hnew
    have hl : (Cd.codeL l0).length = 65 := Cd.length_cst l0 _
    rw [List.length_map, hl]
    have e : ((Cd.codeL l0).map codeS).flatMap (fun x => [Value.int .i64 x.f0, .int .i64 x.f1]) = CanonH.fl (Cd.codeL l0) := by
      generalize Cd.codeL l0 = cs
      unfold CanonH.fl
      induction cs with
      | nil => rfl
      | cons a t ih => simp only [List.map_cons, List.flatMap_cons, ih]; rfl
    rw [e]; exact ho
  · rename_i hg
    obtain ⟨rfl, rfl⟩ := Prod.mk.inj h
    refine (CanonH.codes_bad A0 c0 l0 w hr0 hc0 (by simpa using hg)).mono ?_
    rintro e w' ⟨rfl, hb⟩
    exact ⟨_, rfl, Kd.R_nil _ _ _ _ _, hb⟩
end Go.Proofs.Ytkdmamffbhlbgaa.PA

-- ---- PAx12

namespace Go.Proofs.Ytkdmamffbhlbgaa.PA
open Go.RowKit Go.Proofs.YtkdmamffbhlbgaaW.PrintWords Go.Proofs.YtkdmamffbhlbgaaW.PrintLast Go.Proofs.YtkdmamffbhlbgaaW.PrintMore
attribute [local go_sem] max2_int min2_int max_two min_two max_three min_three max_four min_four   -- for this text's walks alone
set_option linter.unusedVariables false
set_option linter.unusedSimpArgs false

/-! ### wringerref7_Canon: function 10 -/
mutual
def wringerref7_Canon.l0 : Nat → List Int → List (S40) → Int → Int → Int → Option ((List (S40)) × Int)
  | 0, _, _, _, _, _ => none
  | k + 1, x0, x3, x4, x5, x6 => if x6 ≤ 15 then (wringerref7_Canon.l1 k x0 x3 x4 x5 x6 0) else (some (x3, 0))
def wringerref7_Canon.l1 : Nat → List Int → List (S40) → Int → Int → Int → Int → Option ((List (S40)) × Int)
  | 0, _, _, _, _, _, _ => none
  | k + 1, x0, x3, x4, x5, x6, x7 => if x7 < (x0.length : Int) then (if 0 ≤ x7 then (if (rd x0 x7) = x6 then (if x5 > 0 then (if 0 ≤ (wrap64 (x6 - x5)) then (if x7 < (x3.length : Int) then (wringerref7_Canon.l1 k x0 (x3.set (x7 : Int).toNat (⟨shl .i64 (wrap64 (x4 + 1)) (wrap64 (x6 - x5)), x6⟩ : S40)) (shl .i64 (wrap64 (x4 + 1)) (wrap64 (x6 - x5))) x6 x6 (wrap64 (x7 + 1))) else (none)) else (none)) else (if x7 < (x3.length : Int) then (wringerref7_Canon.l1 k x0 (x3.set (x7 : Int).toNat (⟨x4, x6⟩ : S40)) x4 x6 x6 (wrap64 (x7 + 1))) else (none))) else (wringerref7_Canon.l1 k x0 x3 x4 x5 x6 (wrap64 (x7 + 1)))) else (none)) else (wringerref7_Canon.l0 k x0 x3 x4 x5 (wrap64 (x6 + 1)))
end
def wringerref7_Canon.f (k : Nat) (l0 : List Int) : Option ((List (S40)) × Int) := (wringerref7_MayLens.f k l0).bind fun t128 => (if t128 = true then (if 65 ≤ 17592186044416 then (wringerref7_Canon.l0 k l0 (List.replicate 65 z40) 0 0 1) else (none)) else (some (([] : List (S40)), 3)))
theorem wringerref7_Canon.mono_l : ∀ k, (∀ y0 y1 y2 y3 y4, LeO (wringerref7_Canon.l0 k y0 y1 y2 y3 y4) (wringerref7_Canon.l0 (k + 1) y0 y1 y2 y3 y4)) ∧ (∀ y0 y1 y2 y3 y4 y5, LeO (wringerref7_Canon.l1 k y0 y1 y2 y3 y4 y5) (wringerref7_Canon.l1 (k + 1) y0 y1 y2 y3 y4 y5))
  | 0 => ⟨fun _ _ _ _ _ r h => by simp [wringerref7_Canon.l0] at h, fun _ _ _ _ _ _ r h => by simp [wringerref7_Canon.l1] at h⟩
  | k + 1 => by
    obtain ⟨ih0, ih1⟩ := wringerref7_Canon.mono_l k
    refine ⟨?_, ?_⟩
    · intro y0 y1 y2 y3 y4
      unfold wringerref7_Canon.l0
      repeat' first
      | (with_reducible exact ih0 _ _ _ _ _)
      | (with_reducible exact ih1 _ _ _ _ _ _)
      | (with_reducible exact wringerref7_MayLens.mono _ _)
      | (with_reducible exact LeO.refl _)
      | (with_reducible exact LeO.none _)
      | (with_reducible refine LeO.ite ?_ ?_)
      | (with_reducible refine LeO.bind ?_ (fun _ => ?_))
      | exact ih0 _ _ _ _ _
      | exact ih1 _ _ _ _ _ _
      | exact wringerref7_MayLens.mono _ _
      | exact LeO.none _
      | refine LeO.ite ?_ ?_
      | refine LeO.bind ?_ (fun _ => ?_)
    · intro y0 y1 y2 y3 y4 y5
      unfold wringerref7_Canon.l1
      repeat' first
      | (with_reducible exact ih0 _ _ _ _ _)
      | (with_reducible exact ih1 _ _ _ _ _ _)
      | (with_reducible exact wringerref7_MayLens.mono _ _)
      | (with_reducible exact LeO.refl _)
      | (with_reducible exact LeO.none _)
      | (with_reducible refine LeO.ite ?_ ?_)
      | (with_reducible refine LeO.bind ?_ (fun _ => ?_))
      | exact ih0 _ _ _ _ _
      | exact ih1 _ _ _ _ _ _
      | exact wringerref7_MayLens.mono _ _
      | exact LeO.none _
      | refine LeO.ite ?_ ?_
      | refine LeO.bind ?_ (fun _ => ?_)
theorem wringerref7_Canon.mono : ∀ a0 k, LeO (wringerref7_Canon.f k a0) (wringerref7_Canon.f (k + 1) a0) := by
  intro a0 k
  obtain ⟨ih0, ih1⟩ := wringerref7_Canon.mono_l k
  unfold wringerref7_Canon.f
  repeat' first
      | (with_reducible exact ih0 _ _ _ _ _)
      | (with_reducible exact ih1 _ _ _ _ _ _)
      | (with_reducible exact wringerref7_MayLens.mono _ _)
      | (with_reducible exact LeO.refl _)
      | (with_reducible exact LeO.none _)
      | (with_reducible refine LeO.ite ?_ ?_)
      | (with_reducible refine LeO.bind ?_ (fun _ => ?_))
      | exact ih0 _ _ _ _ _
      | exact ih1 _ _ _ _ _ _
      | exact wringerref7_MayLens.mono _ _
      | exact LeO.none _
      | refine LeO.ite ?_ ?_
      | refine LeO.bind ?_ (fun _ => ?_)
set_option maxHeartbeats 8000000 in
set_option maxRecDepth 100000 in
theorem wringerref7_Canon.calls (k : Nat) (A0 : Option Addr) (c0 : Nat) (l0 : List Int) (r1 : List (S40)) (r2 : Int) (w : World) (hr0 : Kd.C (Kd.int .i64) w A0 l0.length l0) (hc0 : l0.length ≤ c0) (h : wringerref7_Canon.f k l0 = some (r1, r2)) :
    Calls Try.prog 10 #[.slice A0 l0.length c0] w fun e w' => ∃ v0_ : Value, e = .returned (.agg #[v0_, .int .i64 r2]) ∧ Kd.R k40 40 w' w.heap.size (fun _ => True) v0_ r1 ∧ Below w.heap.size w w' := by
  have hu29 := Try.underlying29
  have hu40 := Try.underlying40
  have HR0 := Aside0.mk hr0
  have HC0 := Aside0.mk hc0
  clear hr0 hc0
  have HB := Aside0.mk (Below.refl w.heap.size w)
  have H : ((wringerref7_MayLens.f k l0).bind fun t128 => (if t128 = true then (if 65 ≤ 17592186044416 then (wringerref7_Canon.l0 k l0 (List.replicate 65 z40) 0 0 1) else (none)) else (some (([] : List (S40)), 3)))) = some (r1, r2) := h
  clear h
  replace H := Option.bind_eq_some_iff.mp H
  obtain ⟨t128, A20, H⟩ := H
  replace H : (if t128 = true then (if 65 ≤ 17592186044416 then (wringerref7_Canon.l0 k l0 (List.replicate 65 z40) 0 0 1) else (none)) else (some (([] : List (S40)), 3))) = some (r1, r2) := H
  have A2 := Aside0.mk A20
  clear A20
  by_cases c3 : t128 = true
  · subst c3
    have H1 : (if 65 ≤ 17592186044416 then (wringerref7_Canon.l0 k l0 (List.replicate 65 z40) 0 0 1) else (none)) = some (r1, r2) := by rw [if_pos rfl] at H; exact H
    clear H
    have H := H1
    clear H1
    by_cases c4 : 65 ≤ 17592186044416
    · rw [if_pos c4] at H
      have c4b0 := eq_true c4
      have c4b1 : decide (65 ≤ 17592186044416) = true := decide_eq_true c4
      clear c4
      obtain ⟨y129, hy129⟩ : ∃ y_ : List (S40), y_ = (List.replicate 65 z40) := ⟨_, rfl⟩
      replace H : (wringerref7_Canon.l0 k l0 y129 0 0 1) = some (r1, r2) := by first | (rw [hy129]; with_reducible exact H) | (have H2_ := (Option.bind_some _ _).symm.trans H; rw [hy129]; with_reducible exact H2_) | (have H2_ := (Option.bind_some _ _).symm.trans H; with_reducible exact H2_) | with_reducible exact H | (rw [hy129]; exact H) | exact H
      have Ny129 := Aside0.mk hy129
      clear hy129
      have H' := Aside0.mk H
      clear H
      go_enter Try.func10, Try.ntmps10
      go_wp2_with (first | ((with_reducible refine gate_dst (N := 2) rfl ?_); refine box_event ?hg (N := 2) ?hd (cs := #[.slice none 0 0, .int .i64 0]) (t := 29) ?hr ?_; (case hd => rfl); (case hg => rfl); (case hr => first | (go_simp; done) | (go_simp; rfl)); intro gb127 hg w5 hbox hb; have n0_ := Aside0.mk (below_step (by repeat (first | (with_reducible first | exact HB.out | apply below_alloc | apply pw_below_drewN | apply below_drew1) | exact HB.out)) hb); have n1_ := Aside0.mk (hbox); have n2_ := Aside0.mk ((by rw [hg]; exact (below_size (by repeat (first | (with_reducible first | exact HB.out | apply below_alloc | apply pw_below_drewN | apply below_drew1) | exact HB.out))) : w.heap.size ≤ gb127)); have n3_ := Aside0.mk ((by rw [hg]; exact (below_size (by repeat (first | (with_reducible first | exact HB.out | apply below_alloc | apply pw_below_drewN | apply below_drew1) | exact HB.out))) : w.heap.size ≤ gb127)); clear HB; have HB := n0_; have BK127 := n1_; have GW127 := n2_; have GE127 := n3_; clear n0_ n1_ n2_ n3_; clear hb hbox hg) | ((with_reducible refine gate_callee (f := 12) rfl ?_); refine goesL_ (some 9) rfl rfl Try.func12 (by kernel_rfl) rfl #[.slice A0 l0.length c0] rfl (by (try simp only [List.map_toArray, List.map_cons, List.map_nil]); first | done | rfl | (simp only [List.length_drop, List.length_take]; rfl)) ?_; (with_reducible refine (wringerref7_MayLens.calls k _ _ l0 true _ ?side1 ?side2 A2.out).mono ?_); (case side1 => repeat (first | exact (Kd.C_below HR0.out HB.out) | (with_reducible refine Kd.C_alloc ?_ _) | (with_reducible refine Kd.C_drewN ?_ _) | (with_reducible refine Kd.C_drew ?_))); (case side2 => exact HC0.out); rintro e w' ⟨rfl, ⟨nd, rfl⟩⟩; refine ⟨_, rfl, ?_⟩) | ((with_reducible refine gate_dst (N := 12) rfl ?_); refine Kd.R_make k40 _ 40 rfl (N := 12) rfl 24 _ _ rfl 65 rfl rfl Try.underlying24 (.agg #[(.int .i64 0), (.int .i64 0)]) 16 info40 rfl (by decide) (by omega) z40 (ok := fun _ => True) (okp := fun _ => True) (k40_mkM _ _ _ z40 ) (fun _ hk => hk) trivial (by omega) (by omega) (Below.refl _ _) (Nat.le_refl _) ?_; intro v130 w6 ho7 hb hg_ hnew_; clear hg_ hnew_; (first | rw [← Ny129.out] at ho7 | (simp only [Int.reduceToNat] at ho7; rw [← Ny129.out] at ho7)); have n0_ := Aside0.mk (Kd.R_lower ho7 (below_size (by repeat (first | (with_reducible first | exact HB.out | apply below_alloc | apply pw_below_drewN | apply below_drew1 | refine below_set ?_ GE127.out) | exact HB.out)))); have n1_ := Aside0.mk (blk_below (g := gb127) (o := .cells #[.slice none 0 0, .int .i64 0] 29 (0, 0)) (by (with_reducible repeat (first | refine blk_drewN ?_ _ | refine blk_drew ?_ | refine blk_alloc ?_ _)); exact BK127.out) hb); have n2_ := Aside0.mk (below_step (by repeat (first | (with_reducible first | exact HB.out | apply below_alloc | apply pw_below_drewN | apply below_drew1 | refine below_set ?_ GE127.out) | exact HB.out)) hb); clear BK127; clear HB; have HO131 := n0_; have BK127 := n1_; have HB := n2_; clear n0_ n1_ n2_; clear hb ho7))
      go_loopg [4, 5, 6] k (fun kq v4 v5 v6 w' => ∃ (x3_1 : List (S40)) (x4_1 : Int) (x5_1 : Int) (x6_1 : Int), v4 = .int .i64 x4_1 ∧ v5 = .int .i64 x5_1 ∧ v6 = .int .i64 x6_1 ∧ Aside0 (wringerref7_Canon.l0 kq l0 x3_1 x4_1 x5_1 x6_1 = some (r1, r2)) ∧ Aside0 (kq ≤ k) ∧ Aside0 (Kd.R k40 40 w' w.heap.size (fun _ => True) v130 x3_1) ∧ Aside0 (w'.heap[gb127]? = some (.cells #[(.slice none 0 0), .int .i64 0] 29 (0, 0))) ∧ Aside0 (Below w.heap.size w w'))
      case atStart => exact ⟨(y129), (0), (0), (1), (by first | rfl | (simp; done) | (simp [*]; done)), (by first | rfl | (simp; done) | (simp [*]; done)), (by first | rfl | (simp; done) | (simp [*]; done)), H', ⟨Nat.le_refl _⟩, ⟨by (with_reducible repeat (first | apply Kd.R_alloc | apply Kd.R_drewN | apply Kd.R_drew)); exact HO131.out⟩, ⟨by (with_reducible repeat (first | refine blk_drewN ?_ _ | refine blk_drew ?_ | refine blk_alloc ?_ _)); exact BK127.out⟩, ⟨by repeat (first | (with_reducible first | exact HB.out | apply below_alloc | apply pw_below_drewN | apply below_drew1 | refine below_set ?_ GE127.out) | exact HB.out)⟩⟩
      case round =>
        clear H'
        try clear c1
        try clear p2
        try clear c3
        try clear c4
        try clear c4b0
        try clear c4b1
        obtain ⟨x3_1, x4_1, x5_1, x6_1, rfl, rfl, rfl, HA, HK1, HO_3, BK127, HB⟩ := hrel
        cases gk with
        | zero => exact absurd HA.out (by simp [wringerref7_Canon.l0])
        | succ k1 =>
          have H := HA.out
          clear HA
          simp only [wringerref7_Canon.l0] at H
          by_cases c8 : x6_1 ≤ 15
          · rw [if_pos c8] at H
            have c8b0 : decide (x6_1 ≤ 15) = true := decide_eq_true c8
            clear c8
            have H' := Aside0.mk H
            clear H
            go_wp2
            go_loopg [4, 5, 7] k1 (fun kq v4 v5 v7 w' => ∃ (x3_2 : List (S40)) (x4_2 : Int) (x5_2 : Int) (x7_2 : Int), v4 = .int .i64 x4_2 ∧ v5 = .int .i64 x5_2 ∧ v7 = .int .i64 x7_2 ∧ Aside0 (wringerref7_Canon.l1 kq l0 x3_2 x4_2 x5_2 x6_1 x7_2 = some (r1, r2)) ∧ Aside0 (kq ≤ k1) ∧ Aside0 (Kd.R k40 40 w' w.heap.size (fun _ => True) v130 x3_2) ∧ Aside0 (w'.heap[gb127]? = some (.cells #[(.slice none 0 0), .int .i64 0] 29 (0, 0))) ∧ Aside0 (Below w.heap.size w w'))
            case atStart => exact ⟨(x3_1), (x4_1), (x5_1), (0), (by first | rfl | (simp; done) | (simp [*]; done)), (by first | rfl | (simp; done) | (simp [*]; done)), (by first | rfl | (simp; done) | (simp [*]; done)), H', ⟨Nat.le_refl _⟩, ⟨by (with_reducible repeat (first | apply Kd.R_alloc | apply Kd.R_drewN | apply Kd.R_drew)); exact HO_3.out⟩, ⟨by (with_reducible repeat (first | refine blk_drewN ?_ _ | refine blk_drew ?_ | refine blk_alloc ?_ _)); exact BK127.out⟩, ⟨by repeat (first | (with_reducible first | exact HB.out | apply below_alloc | apply pw_below_drewN | apply below_drew1 | refine below_set ?_ GE127.out) | exact HB.out)⟩⟩
            case round =>
              clear H'
              try clear c1
              try clear p2
              try clear c3
              try clear c4
              try clear c4b0
              try clear c4b1
              try clear c8
              try clear c8b0
              try clear p2
              obtain ⟨x3_2, x4_2, x5_2, x7_2, rfl, rfl, rfl, HA, HK2, HO_3, BK127, HB⟩ := hrel
              cases gk with
              | zero => exact absurd HA.out (by simp [wringerref7_Canon.l1])
              | succ k2 =>
                have H := HA.out
                clear HA
                simp only [wringerref7_Canon.l1] at H
                by_cases c9 : x7_2 < (l0.length : Int)
                · rw [if_pos c9] at H
                  have c9b0 : decide (x7_2 < (l0.length : Int)) = true := decide_eq_true c9
                  clear c9
                  by_cases c10 : 0 ≤ x7_2
                  · rw [if_pos c10] at H
                    have c10b0 : decide (0 ≤ x7_2) = true := decide_eq_true c10
                    clear c10
                    by_cases c11 : (rd l0 x7_2) = x6_1
                    · rw [if_pos c11] at H
                      have c11b0 : ((rd l0 x7_2) == x6_1) = true := beq_iff_eq.mpr c11
                      have c11b1 : ((rd l0 x7_2) != x6_1) = false := bne_eq_false_iff_eq.mpr c11
                      clear c11
                      by_cases c12 : x5_2 > 0
                      · rw [if_pos c12] at H
                        have c12b0 : decide (0 < x5_2) = true := decide_eq_true c12
                        clear c12
                        obtain ⟨ji13, hji13⟩ : ∃ j_ : Int, (wrap64 (x6_1 - x5_2)) = j_ := ⟨_, rfl⟩
                        replace H : (if 0 ≤ (ji13) then (if x7_2 < (x3_2.length : Int) then (wringerref7_Canon.l1 k2 l0 (x3_2.set (x7_2 : Int).toNat (⟨shl .i64 (wrap64 (x4_2 + 1)) (ji13), x6_1⟩ : S40)) (shl .i64 (wrap64 (x4_2 + 1)) (ji13)) x6_1 x6_1 (wrap64 (x7_2 + 1))) else (none)) else (none)) = some (r1, r2) := by first | (rw [hji13] at H; exact H) | (simp only [hji13] at H ⊢; exact H)
                        have hji13w : (IntKind.i64.wrap (x6_1 - x5_2)) = ji13 := (i64_w _).trans hji13
                        by_cases c14 : 0 ≤ (ji13)
                        · rw [if_pos c14] at H
                          have c14b0 := eq_true c14
                          have c14b1 : decide (0 ≤ (ji13)) = true := decide_eq_true c14
                          clear c14
                          obtain ⟨ji15, hji15⟩ : ∃ j_ : Int, (shl .i64 (wrap64 (x4_2 + 1)) (ji13)) = j_ := ⟨_, rfl⟩
                          replace H : (if x7_2 < (x3_2.length : Int) then (wringerref7_Canon.l1 k2 l0 (x3_2.set (x7_2 : Int).toNat (⟨ji15, x6_1⟩ : S40)) ji15 x6_1 x6_1 (wrap64 (x7_2 + 1))) else (none)) = some (r1, r2) := by first | (rw [hji15] at H; exact H) | (simp only [hji15] at H ⊢; exact H)
                          have hji15_ : (IntKind.i64.wrap ((wrap64 (x4_2 + 1)) * 2 ^ min (ji13).toNat 64)) = ji15 := hji15
                          have hji15z : (ji13) ≤ 64 → (IntKind.i64.wrap ((wrap64 (x4_2 + 1)) * 2 ^ (ji13).toNat)) = ji15 := shl_small hji15
                          have hji15y : (wrap64 ((wrap64 (x4_2 + 1)) * 2 ^ min (ji13).toNat 64)) = ji15 := (i64_w _).symm.trans hji15_
                          have hji15x : (ji13) ≤ 64 → (wrap64 ((wrap64 (x4_2 + 1)) * 2 ^ (ji13).toNat)) = ji15 := fun h_ => (i64_w _).symm.trans (hji15z h_)
                          by_cases c16 : x7_2 < (x3_2.length : Int)
                          · rw [if_pos c16] at H
                            have c16b0 : decide (x7_2 < (x3_2.length : Int)) = true := decide_eq_true c16
                            clear c16
                            obtain ⟨y133, hy133⟩ : ∃ y_ : List (S40), y_ = (x3_2.set (x7_2 : Int).toNat (⟨ji15, x6_1⟩ : S40)) := ⟨_, rfl⟩
                            replace H : (wringerref7_Canon.l1 k2 l0 y133 ji15 x6_1 x6_1 (wrap64 (x7_2 + 1))) = some (r1, r2) := by first | (rw [hy133]; with_reducible exact H) | (have H2_ := (Option.bind_some _ _).symm.trans H; rw [hy133]; with_reducible exact H2_) | (have H2_ := (Option.bind_some _ _).symm.trans H; with_reducible exact H2_) | with_reducible exact H | (rw [hy133]; exact H) | exact H
                            have Ny133 := Aside0.mk hy133
                            clear hy133
                            have H' := Aside0.mk H
                            clear H
                            have p132 : 0 ≤ (x7_2 : Int) := of_decide_eq_true (by first | (with_reducible assumption) | assumption)
                            have q132 : x7_2 < (l0.length : Int) := of_decide_eq_true (by first | (with_reducible assumption) | assumption)
                            obtain ⟨ad132, e132, hx132_0⟩ := Kd.at_int HR0.out x7_2 p132 q132
                            cases e132
                            replace hx132_0 := (HB.out.cell (World.block_lt_of_cell? w _ hx132_0)).trans hx132_0
                            replace p132 := eq_true p132
                            replace q132 := eq_true q132
                            have p17 : 0 ≤ (x7_2 : Int) := of_decide_eq_true (by first | (with_reducible assumption) | assumption)
                            have q17 : (x7_2 : Int) < ((x3_2.length : Int) : Int) := of_decide_eq_true (by first | (with_reducible assumption) | assumption)
                            obtain ⟨go17, co17, eo17, gb17, gl17, cl17, HG17⟩ := Kd.R_form HO_3.out (by omega)
                            (first | cases eo17 | (injection eo17 with ea_ en_ ec_; (first | subst ea_ | (injection ea_ with ea_; subst ea_)); subst ec_; clear en_))
                            have GB17 := Aside0.mk gb17
                            have GG17 := Aside0.mk HG17
                            clear gb17 gl17 HG17
                            obtain ⟨ce17, hcl17, hM17, hcc17, hfr17⟩ := Kd.R_elem HO_3.out z40 (x7_2 : Int) p17 q17
                            obtain rfl := k40_openM hM17
                            have hx17_0 : wr.cell? ⟨go17, (x7_2 : Int).toNat * 2, none⟩ = some (.int .i64 ((rd_T40 x3_2 x7_2).f0)) := hcc17 0 _ rfl
                            have hx17_1 : wr.cell? ⟨go17, (x7_2 : Int).toNat * 2 + 1, none⟩ = some (.int .i64 ((rd_T40 x3_2 x7_2).f1)) := hcc17 1 _ rfl
                            have hf17_0 : wr.frozen? ⟨go17, (x7_2 : Int).toNat * 2, none⟩ = false := hfr17 0
                            have hf17_1 : wr.frozen? ⟨go17, (x7_2 : Int).toNat * 2 + 1, none⟩ = false := hfr17 1
                            clear hcl17 hcc17 hfr17 hM17
                            replace p17 := eq_true p17
                            replace q17 := eq_true q17
                            have HX18 := Aside0.mk (show Kd.R k40 40 wr w.heap.size (fun _ => True) (.slice (some ⟨go17, 0, none⟩) x3_2.length co17) x3_2 from (by (with_reducible repeat (first | apply Kd.R_alloc | apply Kd.R_drewN | apply Kd.R_drew)); exact HO_3.out))
                            obtain ⟨ce18, hcl18, hM18, hcc18, hfr18⟩ := Kd.R_elem HX18.out z40 (x7_2 : Int) (of_decide_eq_true (by first | (with_reducible assumption) | assumption)) (by have h_ : (x7_2 : Int) < ((x3_2.length : Int) : Int) := of_decide_eq_true (by first | (with_reducible assumption) | assumption); first | exact h_ | (have e_ := (Kd.R_reads' HO_3.out).1; omega) | simpa using h_)
                            obtain rfl := k40_openM hM18
                            have HP18 := Kd.R_seg HX18.out (x7_2 : Int) (of_decide_eq_true (by first | (with_reducible assumption) | assumption)) (by have h_ : (x7_2 : Int) < ((x3_2.length : Int) : Int) := of_decide_eq_true (by first | (with_reducible assumption) | assumption); first | exact h_ | (have e_ := (Kd.R_reads' HO_3.out).1; omega) | simpa using h_) (seg := [.int .i64 ji15, .int .i64 x6_1]) (j := 0) hcl18 hcc18 (show 2 ≤ 2 from by decide) (x' := (⟨ji15, x6_1⟩ : S40)) (k40_mkM _ _ _ (⟨ji15, x6_1⟩ : S40) ) (fun _ hk => hk)
                            have hx18_0 := hcc18 0 _ rfl
                            (try simp only [show (k40).sz = 2 from rfl, Nat.mul_one, Nat.add_zero] at hx18_0)
                            have hf18_0 := hfr18 0
                            (try simp only [show (k40).sz = 2 from rfl, Nat.mul_one, Nat.add_zero] at hf18_0)
                            have hx18_1 := hcc18 1 _ rfl
                            (try simp only [show (k40).sz = 2 from rfl, Nat.mul_one, Nat.add_zero] at hx18_1)
                            have hf18_1 := hfr18 1
                            (try simp only [show (k40).sz = 2 from rfl, Nat.mul_one, Nat.add_zero] at hf18_1)
                            clear hcl18 hcc18 hfr18 hM18
                            go_wp2_with (first | ((with_reducible refine gate_store (t := 40) (p := 43) rfl ?_); refine store_event (t := 40) (p := 43) (v := ?vo_w19) (w1 := ((wr.setCell ⟨go17, (x7_2 : Int).toNat * 2, none⟩ (.int .i64 ji15)).setCell ⟨go17, (x7_2 : Int).toNat * 2 + 1, none⟩ (.int .i64 x6_1))) ?hg ?ho ?hn ?hr ?_; (case ho => rfl); (case hg => rfl); (case hn => rfl); (case hr => first | (go_simp; done) | (go_simp; rfl)); intro w19 hw; have hg : wr.grownBy w19 (some go17) := (by rw [hw]; exact HP18.2); have hp_ : Kd.R k40 40 w19 w.heap.size (fun _ => True) (.slice (some ⟨go17, 0, none⟩) x3_2.length co17) y133 := (by rw [hw, Ny133.out]; exact HP18.1); clear HP18; have n0_ := Aside0.mk (hp_); have n1_ := Aside0.mk (blk_grown (g := gb127) (o := .cells #[.slice none 0 0, .int .i64 0] 29 (0, 0)) (by (with_reducible repeat (first | refine blk_drewN ?_ _ | refine blk_drew ?_ | refine blk_alloc ?_ _)); exact BK127.out) hg (Kd.R_ne HO_3.out BK127.out (by decide))); have n2_ := Aside0.mk ((by rw [hw]; exact below_set (below_set (HB.out) GB17.out) GB17.out : Below w.heap.size w w19)); clear HO_3; clear BK127; clear HB; have HO_3 := n0_; have BK127 := n1_; have HB := n2_; clear n0_ n1_ n2_; clear hg hw hp_))
                            go_roundg k2
                            case measure => have := HK1.out; have := HK2.out; omega
                            case rel => exact ⟨(y133), (ji15), (x6_1), (wrap64 (x7_2 + 1)), (by first | rfl | (simp; done) | (simp only [← hji15] <;> (first | rfl | simp)) | (simp [*]; done)), (by first | rfl | (simp; done) | (simp [*]; done)), (by first | rfl | (simp; done) | (simp [*]; done)), H', ⟨by have := HK1.out; have := HK2.out; omega⟩, ⟨by (with_reducible repeat (first | apply Kd.R_alloc | apply Kd.R_drewN | apply Kd.R_drew)); exact HO_3.out⟩, ⟨by (with_reducible repeat (first | refine blk_drewN ?_ _ | refine blk_drew ?_ | refine blk_alloc ?_ _)); exact BK127.out⟩, ⟨by repeat (first | (with_reducible first | exact HB.out | apply below_alloc | apply pw_below_drewN | apply below_drew1 | refine below_set ?_ GE127.out) | exact HB.out)⟩⟩
                          · rw [if_neg c16] at H
                            exact absurd H (by simp)
                        · rw [if_neg c14] at H
                          exact absurd H (by simp)
                      · rw [if_neg c12] at H
                        have c12b0 : decide (0 < x5_2) = false := decide_eq_false c12
                        clear c12
                        by_cases c20 : x7_2 < (x3_2.length : Int)
                        · rw [if_pos c20] at H
                          have c20b0 : decide (x7_2 < (x3_2.length : Int)) = true := decide_eq_true c20
                          clear c20
                          obtain ⟨y134, hy134⟩ : ∃ y_ : List (S40), y_ = (x3_2.set (x7_2 : Int).toNat (⟨x4_2, x6_1⟩ : S40)) := ⟨_, rfl⟩
                          replace H : (wringerref7_Canon.l1 k2 l0 y134 x4_2 x6_1 x6_1 (wrap64 (x7_2 + 1))) = some (r1, r2) := by first | (rw [hy134]; with_reducible exact H) | (have H2_ := (Option.bind_some _ _).symm.trans H; rw [hy134]; with_reducible exact H2_) | (have H2_ := (Option.bind_some _ _).symm.trans H; with_reducible exact H2_) | with_reducible exact H | (rw [hy134]; exact H) | exact H
                          have Ny134 := Aside0.mk hy134
                          clear hy134
                          have H' := Aside0.mk H
                          clear H
                          have p132 : 0 ≤ (x7_2 : Int) := of_decide_eq_true (by first | (with_reducible assumption) | assumption)
                          have q132 : x7_2 < (l0.length : Int) := of_decide_eq_true (by first | (with_reducible assumption) | assumption)
                          obtain ⟨ad132, e132, hx132_0⟩ := Kd.at_int HR0.out x7_2 p132 q132
                          cases e132
                          replace hx132_0 := (HB.out.cell (World.block_lt_of_cell? w _ hx132_0)).trans hx132_0
                          replace p132 := eq_true p132
                          replace q132 := eq_true q132
                          have p21 : 0 ≤ (x7_2 : Int) := of_decide_eq_true (by first | (with_reducible assumption) | assumption)
                          have q21 : (x7_2 : Int) < ((x3_2.length : Int) : Int) := of_decide_eq_true (by first | (with_reducible assumption) | assumption)
                          obtain ⟨go21, co21, eo21, gb21, gl21, cl21, HG21⟩ := Kd.R_form HO_3.out (by omega)
                          (first | cases eo21 | (injection eo21 with ea_ en_ ec_; (first | subst ea_ | (injection ea_ with ea_; subst ea_)); subst ec_; clear en_))
                          have GB21 := Aside0.mk gb21
                          have GG21 := Aside0.mk HG21
                          clear gb21 gl21 HG21
                          obtain ⟨ce21, hcl21, hM21, hcc21, hfr21⟩ := Kd.R_elem HO_3.out z40 (x7_2 : Int) p21 q21
                          obtain rfl := k40_openM hM21
                          have hx21_0 : wr.cell? ⟨go21, (x7_2 : Int).toNat * 2, none⟩ = some (.int .i64 ((rd_T40 x3_2 x7_2).f0)) := hcc21 0 _ rfl
                          have hx21_1 : wr.cell? ⟨go21, (x7_2 : Int).toNat * 2 + 1, none⟩ = some (.int .i64 ((rd_T40 x3_2 x7_2).f1)) := hcc21 1 _ rfl
                          have hf21_0 : wr.frozen? ⟨go21, (x7_2 : Int).toNat * 2, none⟩ = false := hfr21 0
                          have hf21_1 : wr.frozen? ⟨go21, (x7_2 : Int).toNat * 2 + 1, none⟩ = false := hfr21 1
                          clear hcl21 hcc21 hfr21 hM21
                          replace p21 := eq_true p21
                          replace q21 := eq_true q21
                          have HX22 := Aside0.mk (show Kd.R k40 40 wr w.heap.size (fun _ => True) (.slice (some ⟨go21, 0, none⟩) x3_2.length co21) x3_2 from (by (with_reducible repeat (first | apply Kd.R_alloc | apply Kd.R_drewN | apply Kd.R_drew)); exact HO_3.out))
                          obtain ⟨ce22, hcl22, hM22, hcc22, hfr22⟩ := Kd.R_elem HX22.out z40 (x7_2 : Int) (of_decide_eq_true (by first | (with_reducible assumption) | assumption)) (by have h_ : (x7_2 : Int) < ((x3_2.length : Int) : Int) := of_decide_eq_true (by first | (with_reducible assumption) | assumption); first | exact h_ | (have e_ := (Kd.R_reads' HO_3.out).1; omega) | simpa using h_)
                          obtain rfl := k40_openM hM22
                          have HP22 := Kd.R_seg HX22.out (x7_2 : Int) (of_decide_eq_true (by first | (with_reducible assumption) | assumption)) (by have h_ : (x7_2 : Int) < ((x3_2.length : Int) : Int) := of_decide_eq_true (by first | (with_reducible assumption) | assumption); first | exact h_ | (have e_ := (Kd.R_reads' HO_3.out).1; omega) | simpa using h_) (seg := [.int .i64 x4_2, .int .i64 x6_1]) (j := 0) hcl22 hcc22 (show 2 ≤ 2 from by decide) (x' := (⟨x4_2, x6_1⟩ : S40)) (k40_mkM _ _ _ (⟨x4_2, x6_1⟩ : S40) ) (fun _ hk => hk)
                          have hx22_0 := hcc22 0 _ rfl
                          (try simp only [show (k40).sz = 2 from rfl, Nat.mul_one, Nat.add_zero] at hx22_0)
                          have hf22_0 := hfr22 0
                          (try simp only [show (k40).sz = 2 from rfl, Nat.mul_one, Nat.add_zero] at hf22_0)
                          have hx22_1 := hcc22 1 _ rfl
                          (try simp only [show (k40).sz = 2 from rfl, Nat.mul_one, Nat.add_zero] at hx22_1)
                          have hf22_1 := hfr22 1
                          (try simp only [show (k40).sz = 2 from rfl, Nat.mul_one, Nat.add_zero] at hf22_1)
                          clear hcl22 hcc22 hfr22 hM22
                          go_wp2_with (first | ((with_reducible refine gate_store (t := 40) (p := 43) rfl ?_); refine store_event (t := 40) (p := 43) (v := ?vo_w23) (w1 := ((wr.setCell ⟨go21, (x7_2 : Int).toNat * 2, none⟩ (.int .i64 x4_2)).setCell ⟨go21, (x7_2 : Int).toNat * 2 + 1, none⟩ (.int .i64 x6_1))) ?hg ?ho ?hn ?hr ?_; (case ho => rfl); (case hg => rfl); (case hn => rfl); (case hr => first | (go_simp; done) | (go_simp; rfl)); intro w23 hw; have hg : wr.grownBy w23 (some go21) := (by rw [hw]; exact HP22.2); have hp_ : Kd.R k40 40 w23 w.heap.size (fun _ => True) (.slice (some ⟨go21, 0, none⟩) x3_2.length co21) y134 := (by rw [hw, Ny134.out]; exact HP22.1); clear HP22; have n0_ := Aside0.mk (hp_); have n1_ := Aside0.mk (blk_grown (g := gb127) (o := .cells #[.slice none 0 0, .int .i64 0] 29 (0, 0)) (by (with_reducible repeat (first | refine blk_drewN ?_ _ | refine blk_drew ?_ | refine blk_alloc ?_ _)); exact BK127.out) hg (Kd.R_ne HO_3.out BK127.out (by decide))); have n2_ := Aside0.mk ((by rw [hw]; exact below_set (below_set (HB.out) GB21.out) GB21.out : Below w.heap.size w w23)); clear HO_3; clear BK127; clear HB; have HO_3 := n0_; have BK127 := n1_; have HB := n2_; clear n0_ n1_ n2_; clear hg hw hp_))
                          go_roundg k2
                          case measure => have := HK1.out; have := HK2.out; omega
                          case rel => exact ⟨(y134), (x4_2), (x6_1), (wrap64 (x7_2 + 1)), (by first | rfl | (simp; done) | (simp [*]; done)), (by first | rfl | (simp; done) | (simp [*]; done)), (by first | rfl | (simp; done) | (simp [*]; done)), H', ⟨by have := HK1.out; have := HK2.out; omega⟩, ⟨by (with_reducible repeat (first | apply Kd.R_alloc | apply Kd.R_drewN | apply Kd.R_drew)); exact HO_3.out⟩, ⟨by (with_reducible repeat (first | refine blk_drewN ?_ _ | refine blk_drew ?_ | refine blk_alloc ?_ _)); exact BK127.out⟩, ⟨by repeat (first | (with_reducible first | exact HB.out | apply below_alloc | apply pw_below_drewN | apply below_drew1 | refine below_set ?_ GE127.out) | exact HB.out)⟩⟩
                        · rw [if_neg c20] at H
                          exact absurd H (by simp)
                    · rw [if_neg c11] at H
                      have c11b0 : ((rd l0 x7_2) == x6_1) = false := beq_eq_false_iff_ne.mpr c11
                      have c11b1 : ((rd l0 x7_2) != x6_1) = true := bne_iff_ne.mpr c11
                      have H' := Aside0.mk H
                      clear H
                      have p132 : 0 ≤ (x7_2 : Int) := of_decide_eq_true (by first | (with_reducible assumption) | assumption)
                      have q132 : x7_2 < (l0.length : Int) := of_decide_eq_true (by first | (with_reducible assumption) | assumption)
                      obtain ⟨ad132, e132, hx132_0⟩ := Kd.at_int HR0.out x7_2 p132 q132
                      cases e132
                      replace hx132_0 := (HB.out.cell (World.block_lt_of_cell? w _ hx132_0)).trans hx132_0
                      replace p132 := eq_true p132
                      replace q132 := eq_true q132
                      go_wp2
                      go_roundg k2
                      case measure => have := HK1.out; have := HK2.out; omega
                      case rel => exact ⟨(x3_2), (x4_2), (x5_2), (wrap64 (x7_2 + 1)), (by first | rfl | (simp; done) | (simp [*]; done)), (by first | rfl | (simp; done) | (simp [*]; done)), (by first | rfl | (simp; done) | (simp [*]; done)), H', ⟨by have := HK1.out; have := HK2.out; omega⟩, ⟨by (with_reducible repeat (first | apply Kd.R_alloc | apply Kd.R_drewN | apply Kd.R_drew)); exact HO_3.out⟩, ⟨by (with_reducible repeat (first | refine blk_drewN ?_ _ | refine blk_drew ?_ | refine blk_alloc ?_ _)); exact BK127.out⟩, ⟨by repeat (first | (with_reducible first | exact HB.out | apply below_alloc | apply pw_below_drewN | apply below_drew1 | refine below_set ?_ GE127.out) | exact HB.out)⟩⟩
                  · rw [if_neg c10] at H
                    exact absurd H (by simp)
                · rw [if_neg c9] at H
                  have c9b0 : decide (x7_2 < (l0.length : Int)) = false := decide_eq_false c9
                  clear c9
                  have H' := Aside0.mk H
                  clear H
                  go_wp2
                  go_roundg k2
                  case measure => have := HK1.out; have := HK2.out; omega
                  case rel => exact ⟨(x3_2), (x4_2), (x5_2), (wrap64 (x6_1 + 1)), (by first | rfl | (simp; done) | (simp [*]; done)), (by first | rfl | (simp; done) | (simp [*]; done)), (by first | rfl | (simp; done) | (simp [*]; done)), H', ⟨by have := HK1.out; have := HK2.out; omega⟩, ⟨by (with_reducible repeat (first | apply Kd.R_alloc | apply Kd.R_drewN | apply Kd.R_drew)); exact HO_3.out⟩, ⟨by (with_reducible repeat (first | refine blk_drewN ?_ _ | refine blk_drew ?_ | refine blk_alloc ?_ _)); exact BK127.out⟩, ⟨by repeat (first | (with_reducible first | exact HB.out | apply below_alloc | apply pw_below_drewN | apply below_drew1 | refine below_set ?_ GE127.out) | exact HB.out)⟩⟩
          · rw [if_neg c8] at H
            have c8b0 : decide (x6_1 ≤ 15) = false := decide_eq_false c8
            clear c8
            simp only [Option.some.injEq, Prod.mk.injEq] at H
            obtain ⟨rfl, rfl⟩ := H
            obtain ⟨Ao24, co24, eo24⟩ := Kd.R_slice HO_3.out
            subst eo24
            have hcz25_0 : wr.cell? ⟨gb127, 0, none⟩ = some (.slice none 0 0) := (blk_cell BK127.out 0).trans rfl
            have hcz25_1 : wr.cell? ⟨gb127, 1, none⟩ = some (.int .i64 0) := (blk_cell BK127.out 1).trans rfl
            have hfz25_0 := blk_frozen BK127.out 0
            have hfz25_1 := blk_frozen BK127.out 1
            go_wp2
            refine bodyPost_ret (results_cell_row rfl _ _ gb127 29 #[.slice Ao24 x3_1.length co24, .int .i64 0] (0, 0) _ rfl (by (with_reducible repeat (first | refine blk_drewN ?_ _ | refine blk_drew ?_ | refine blk_alloc ?_ _)); refine blk_put (cs := #[.slice Ao24 x3_1.length co24, .int .i64 0]) ?_ 1 _ rfl; (with_reducible repeat (first | refine blk_drewN ?_ _ | refine blk_drew ?_ | refine blk_alloc ?_ _)); refine blk_put (cs := #[.slice none 0 0, .int .i64 0]) ?_ 0 _ rfl; (with_reducible repeat (first | refine blk_drewN ?_ _ | refine blk_drew ?_ | refine blk_alloc ?_ _)); exact BK127.out) Try.underlying29 rfl (by kernel_rfl)) rfl ?_
            exact ⟨_, by first | rfl | (simp [errW_none, errW_some] <;> rfl) | (simp [*, errW_none, errW_some] <;> rfl), by (with_reducible repeat (first | apply Kd.R_alloc | apply Kd.R_drewN | apply Kd.R_drew)); exact Kd.R_mono (Kd.R_far (p := ⟨gb127, 1, none⟩) (Kd.R_far (p := ⟨gb127, 0, none⟩) (Kd.R_types HO_3.out BK127.out (by decide)) (fun _ hk => hk.2) (.slice Ao24 x3_1.length co24)) (fun _ hk => hk.2) (.int .i64 0)) (fun _ hk => trivial), by repeat (first | (with_reducible first | exact HB.out | apply below_alloc | apply pw_below_drewN | apply below_drew1 | refine below_set ?_ GE127.out) | exact HB.out)⟩
    · rw [if_neg c4] at H
      exact absurd H (by simp)
  · replace c3 := Bool.eq_false_iff.mpr c3
    subst c3
    have H1 : (some (([] : List (S40)), 3)) = some (r1, r2) := by rw [if_neg (show ¬ (false = true) by decide)] at H; exact H
    clear H
    have H := H1
    clear H1
    simp only [Option.some.injEq, Prod.mk.injEq] at H
    obtain ⟨rfl, rfl⟩ := H
    go_enter Try.func10, Try.ntmps10
    go_wp2_with (first | ((with_reducible refine gate_dst (N := 2) rfl ?_); refine box_event ?hg (N := 2) ?hd (cs := #[.slice none 0 0, .int .i64 0]) (t := 29) ?hr ?_; (case hd => rfl); (case hg => rfl); (case hr => first | (go_simp; done) | (go_simp; rfl)); intro gb127 hg w26 hbox hb; have n0_ := Aside0.mk (below_step (by repeat (first | (with_reducible first | exact HB.out | apply below_alloc | apply pw_below_drewN | apply below_drew1) | exact HB.out)) hb); have n1_ := Aside0.mk (hbox); have n2_ := Aside0.mk ((by rw [hg]; exact (below_size (by repeat (first | (with_reducible first | exact HB.out | apply below_alloc | apply pw_below_drewN | apply below_drew1) | exact HB.out))) : w.heap.size ≤ gb127)); have n3_ := Aside0.mk ((by rw [hg]; exact (below_size (by repeat (first | (with_reducible first | exact HB.out | apply below_alloc | apply pw_below_drewN | apply below_drew1) | exact HB.out))) : w.heap.size ≤ gb127)); clear HB; have HB := n0_; have BK127 := n1_; have GW127 := n2_; have GE127 := n3_; clear n0_ n1_ n2_ n3_; clear hb hbox hg) | ((with_reducible refine gate_callee (f := 12) rfl ?_); refine goesL_ (some 9) rfl rfl Try.func12 (by kernel_rfl) rfl #[.slice A0 l0.length c0] rfl (by (try simp only [List.map_toArray, List.map_cons, List.map_nil]); first | done | rfl | (simp only [List.length_drop, List.length_take]; rfl)) ?_; (with_reducible refine (wringerref7_MayLens.calls k _ _ l0 false _ ?side1 ?side2 A2.out).mono ?_); (case side1 => repeat (first | exact (Kd.C_below HR0.out HB.out) | (with_reducible refine Kd.C_alloc ?_ _) | (with_reducible refine Kd.C_drewN ?_ _) | (with_reducible refine Kd.C_drew ?_))); (case side2 => exact HC0.out); rintro e w' ⟨rfl, ⟨nd, rfl⟩⟩; refine ⟨_, rfl, ?_⟩; (try (rw [drewN_self w26]; generalize hq_ : World.drewN w26 _ = w26; have n0_ : Aside0 (w26.heap[gb127]? = some (.cells #[.slice none 0 0, .int .i64 0] 29 (0, 0))) := ⟨by rw [← hq_]; exact (by (with_reducible repeat (first | refine blk_drewN ?_ _ | refine blk_drew ?_ | refine blk_alloc ?_ _)); exact BK127.out)⟩; have n1_ : Aside0 (Below w.heap.size w w26) := ⟨by rw [← hq_]; exact (by repeat (first | (with_reducible first | exact HB.out | apply below_alloc | apply pw_below_drewN | apply below_drew1 | refine below_set ?_ GE127.out) | exact HB.out))⟩; clear BK127 HB hq_; have BK127 := n0_; have HB := n1_; clear n0_ n1_)); have hcz27_0 : w26.cell? ⟨gb127, 0, none⟩ = some (.slice none 0 0) := (blk_cell BK127.out 0).trans rfl; have hcz27_1 : w26.cell? ⟨gb127, 1, none⟩ = some (.int .i64 0) := (blk_cell BK127.out 1).trans rfl; have hfz27_0 := blk_frozen BK127.out 0; have hfz27_1 := blk_frozen BK127.out 1))
    refine bodyPost_ret (results_cell_row rfl _ _ gb127 29 #[.slice none 0 0, .int .i64 3] (0, 0) _ rfl (by (with_reducible repeat (first | refine blk_drewN ?_ _ | refine blk_drew ?_ | refine blk_alloc ?_ _)); refine blk_put (cs := #[.slice none 0 0, .int .i64 0]) ?_ 1 _ rfl; (with_reducible repeat (first | refine blk_drewN ?_ _ | refine blk_drew ?_ | refine blk_alloc ?_ _)); refine blk_put (cs := #[.slice none 0 0, .int .i64 0]) ?_ 0 _ rfl; (with_reducible repeat (first | refine blk_drewN ?_ _ | refine blk_drew ?_ | refine blk_alloc ?_ _)); exact BK127.out) Try.underlying29 rfl (by kernel_rfl)) rfl ?_
    exact ⟨_, by first | rfl | (simp [errW_none, errW_some] <;> rfl) | (simp [*, errW_none, errW_some] <;> rfl), by first | exact Kd.R_nil _ _ _ _ _ | exact Kd.N_nil _ _ _ _ _ | exact Kd.V_nil _ _ _ _ _ | exact Kd.Q_nil _ _ _ _ _ | exact Kd.S_nil _ _ _ _ _, by repeat (first | (with_reducible first | exact HB.out | apply below_alloc | apply pw_below_drewN | apply below_drew1 | refine below_set ?_ GE127.out) | exact HB.out)⟩

end Go.Proofs.Ytkdmamffbhlbgaa.PA

-- ---- PAx1

namespace Go.Proofs.Ytkdmamffbhlbgaa.PA
open Go.RowKit Go.Proofs.YtkdmamffbhlbgaaW.PrintWords Go.Proofs.YtkdmamffbhlbgaaW.PrintLast Go.Proofs.YtkdmamffbhlbgaaW.PrintMore
attribute [local go_sem] max2_int min2_int max_two min_two max_three min_three max_four min_four   -- for this text's walks alone
set_option linter.unusedVariables false
set_option linter.unusedSimpArgs false

theorem eqA40 (d : Nat) (w : World) (x0 y0 : Int) (x1 y1 : Int) :
    (Op.equalIn (d + 2) 40 (.agg #[.int .i64 x0, .int .i64 x1]) (.agg #[.int .i64 y0, .int .i64 y1])).run Try.prog w = .ok (x0 == y0 && (x1 == y1)) w := by
  refine eqA_of Try.underlying40 (by kernel_rfl) ?_
  refine eqf_cons (by rfl) (by go_simp; rfl) (by go_simp; rfl) (by go_simp) ?_
  exact eqf_last (by rfl) (by go_simp; rfl) (by go_simp; rfl) (by go_simp)
end Go.Proofs.Ytkdmamffbhlbgaa.PA

-- ---- PAx13

namespace Go.Proofs.Ytkdmamffbhlbgaa.PA
open Go.RowKit Go.Proofs.YtkdmamffbhlbgaaW.PrintWords Go.Proofs.YtkdmamffbhlbgaaW.PrintLast Go.Proofs.YtkdmamffbhlbgaaW.PrintMore
attribute [local go_sem] max2_int min2_int max_two min_two max_three min_three max_four min_four   -- for this text's walks alone
set_option linter.unusedVariables false
set_option linter.unusedSimpArgs false

attribute [local go_sem high] eqA40
/-! ### wringerref7_SameCodes: function 13 -/
def wringerref7_SameCodes.l0 : Nat → List (S40) → List (S40) → Int → Option (Bool)
  | 0, _, _, _ => none
  | k + 1, x0, x1, x5 => if x5 < (x0.length : Int) then (if 0 ≤ x5 then (if x5 < (x1.length : Int) then (if (!(((rd_T40 x0 x5).f0) == ((rd_T40 x1 x5).f0)) || (!(((rd_T40 x0 x5).f1) == ((rd_T40 x1 x5).f1)))) = true then (some false) else (wringerref7_SameCodes.l0 k x0 x1 (wrap64 (x5 + 1)))) else (none)) else (none)) else (some true)
def wringerref7_SameCodes.f (k : Nat) (l0 : List (S40)) (l1 : List (S40)) : Option (Bool) := if (l0.length : Int) = (l1.length : Int) then (wringerref7_SameCodes.l0 k l0 l1 0) else (some false)
theorem wringerref7_SameCodes.mono_l : ∀ k, (∀ y0 y1 y2, LeO (wringerref7_SameCodes.l0 k y0 y1 y2) (wringerref7_SameCodes.l0 (k + 1) y0 y1 y2))
  | 0 => fun _ _ _ r h => by simp [wringerref7_SameCodes.l0] at h
  | k + 1 => by
    have ih0 := wringerref7_SameCodes.mono_l k
    · intro y0 y1 y2
      unfold wringerref7_SameCodes.l0
      repeat' first
      | (with_reducible exact ih0 _ _ _)
      | (with_reducible exact LeO.refl _)
      | (with_reducible exact LeO.none _)
      | (with_reducible refine LeO.ite ?_ ?_)
      | (with_reducible refine LeO.bind ?_ (fun _ => ?_))
      | exact ih0 _ _ _
      | exact LeO.none _
      | refine LeO.ite ?_ ?_
      | refine LeO.bind ?_ (fun _ => ?_)
theorem wringerref7_SameCodes.mono : ∀ a0 a1 k, LeO (wringerref7_SameCodes.f k a0 a1) (wringerref7_SameCodes.f (k + 1) a0 a1) := by
  intro a0 a1 k
  have ih0 := wringerref7_SameCodes.mono_l k
  unfold wringerref7_SameCodes.f
  repeat' first
      | (with_reducible exact ih0 _ _ _)
      | (with_reducible exact LeO.refl _)
      | (with_reducible exact LeO.none _)
      | (with_reducible refine LeO.ite ?_ ?_)
      | (with_reducible refine LeO.bind ?_ (fun _ => ?_))
      | exact ih0 _ _ _
      | exact LeO.none _
      | refine LeO.ite ?_ ?_
      | refine LeO.bind ?_ (fun _ => ?_)
set_option maxHeartbeats 8000000 in
set_option maxRecDepth 100000 in
theorem wringerref7_SameCodes.calls (k : Nat) (A0 : Option Addr) (c0 : Nat) (l0 : List (S40)) (A1 : Option Addr) (c1 : Nat) (l1 : List (S40)) (r : Bool) (w : World) (hr0 : Kd.C k40 w A0 l0.length l0) (hc0 : l0.length ≤ c0) (hr1 : Kd.C k40 w A1 l1.length l1) (hc1 : l1.length ≤ c1) (h : wringerref7_SameCodes.f k l0 l1 = some r) :
    Calls Try.prog 13 #[.slice A0 l0.length c0, .slice A1 l1.length c1] w fun e w' => e = .returned (.bool r) ∧ Drawn0 w w' := by
  have hu40 := Try.underlying40
  have HR0 := Aside0.mk hr0
  have HC0 := Aside0.mk hc0
  clear hr0 hc0
  have HR1 := Aside0.mk hr1
  have HC1 := Aside0.mk hc1
  clear hr1 hc1
  have H : (if (l0.length : Int) = (l1.length : Int) then (wringerref7_SameCodes.l0 k l0 l1 0) else (some false)) = some r := h
  clear h
  by_cases c3 : (l0.length : Int) = (l1.length : Int)
  · rw [if_pos c3] at H
    have c3b0 : ((l0.length : Int) == (l1.length : Int)) = true := beq_iff_eq.mpr c3
    have c3b1 : ((l0.length : Int) != (l1.length : Int)) = false := bne_eq_false_iff_eq.mpr c3
    have c3b2 : (l0.length == l1.length) = true := by first | simpa using c3 | (simp at c3 ⊢; omega)
    clear c3
    have H' := Aside0.mk H
    clear H
    go_enter Try.func13, Try.ntmps13
    go_wp2
    repeat (go_quiet (fail); try go_wp2)
    go_loopg [5] k (fun kq v5 w' => ∃ (x5_1 : Int), v5 = .int .i64 x5_1 ∧ Aside0 (wringerref7_SameCodes.l0 kq l0 l1 x5_1 = some r) ∧ Aside0 (kq ≤ k) ∧ Drawn0 w w')
    case atStart => exact ⟨(0), (by first | rfl | (simp; done) | (simp [*]; done)), H', ⟨Nat.le_refl _⟩, by repeat (first | exact Drawn0.refl _ | apply Drawn0.step)⟩
    case round =>
      clear H'
      try clear c1
      try clear p2
      try clear c3
      try clear c3b0
      try clear c3b1
      try clear c3b2
      obtain ⟨x5_1, rfl, HA, HK1, ⟨m1, rfl⟩⟩ := hrel
      cases gk with
      | zero => exact absurd HA.out (by simp [wringerref7_SameCodes.l0])
      | succ k1 =>
        have H := HA.out
        clear HA
        simp only [wringerref7_SameCodes.l0] at H
        by_cases c4 : x5_1 < (l0.length : Int)
        · rw [if_pos c4] at H
          have c4b0 : decide (x5_1 < (l0.length : Int)) = true := decide_eq_true c4
          clear c4
          by_cases c5 : 0 ≤ x5_1
          · rw [if_pos c5] at H
            have c5b0 : decide (0 ≤ x5_1) = true := decide_eq_true c5
            clear c5
            by_cases c6 : x5_1 < (l1.length : Int)
            · rw [if_pos c6] at H
              have c6b0 : decide (x5_1 < (l1.length : Int)) = true := decide_eq_true c6
              clear c6
              by_cases c7 : (!(((rd_T40 l0 x5_1).f0) == ((rd_T40 l1 x5_1).f0)) || (!(((rd_T40 l0 x5_1).f1) == ((rd_T40 l1 x5_1).f1)))) = true
              · rw [if_pos c7] at H
                have c7b0 : (!(((rd_T40 l0 x5_1).f0) == ((rd_T40 l1 x5_1).f0)) || (!(((rd_T40 l0 x5_1).f1) == ((rd_T40 l1 x5_1).f1)))) = true := c7
                clear c7
                obtain rfl := Option.some.inj H
                have p135 : 0 ≤ (x5_1 : Int) := of_decide_eq_true (by first | (with_reducible assumption) | assumption)
                have q135 : x5_1 < (l0.length : Int) := of_decide_eq_true (by first | (with_reducible assumption) | assumption)
                obtain ⟨ad135, e135, hx135_0, hx135_1⟩ := at_T40 HR0.out x5_1 p135 q135
                cases e135
                replace p135 := eq_true p135
                replace q135 := eq_true q135
                have p136 : 0 ≤ (x5_1 : Int) := of_decide_eq_true (by first | (with_reducible assumption) | assumption)
                have q136 : x5_1 < (l1.length : Int) := of_decide_eq_true (by first | (with_reducible assumption) | assumption)
                obtain ⟨ad136, e136, hx136_0, hx136_1⟩ := at_T40 HR1.out x5_1 p136 q136
                cases e136
                replace p136 := eq_true p136
                replace q136 := eq_true q136
                go_wp2
                repeat (go_quiet (fail); try go_wp2)
                go_ret
                exact ⟨by first | rfl | (simp; done) | (simp [*]; done), by repeat (first | exact Drawn0.refl _ | apply Drawn0.step)⟩
              · rw [if_neg c7] at H
                have c7b0 : (!(((rd_T40 l0 x5_1).f0) == ((rd_T40 l1 x5_1).f0)) || (!(((rd_T40 l0 x5_1).f1) == ((rd_T40 l1 x5_1).f1)))) = false := by simpa using c7
                clear c7
                have H' := Aside0.mk H
                clear H
                have p135 : 0 ≤ (x5_1 : Int) := of_decide_eq_true (by first | (with_reducible assumption) | assumption)
                have q135 : x5_1 < (l0.length : Int) := of_decide_eq_true (by first | (with_reducible assumption) | assumption)
                obtain ⟨ad135, e135, hx135_0, hx135_1⟩ := at_T40 HR0.out x5_1 p135 q135
                cases e135
                replace p135 := eq_true p135
                replace q135 := eq_true q135
                have p136 : 0 ≤ (x5_1 : Int) := of_decide_eq_true (by first | (with_reducible assumption) | assumption)
                have q136 : x5_1 < (l1.length : Int) := of_decide_eq_true (by first | (with_reducible assumption) | assumption)
                obtain ⟨ad136, e136, hx136_0, hx136_1⟩ := at_T40 HR1.out x5_1 p136 q136
                cases e136
                replace p136 := eq_true p136
                replace q136 := eq_true q136
                go_wp2
                repeat (go_quiet (fail); try go_wp2)
                go_roundg k1
                case measure => have := HK1.out; omega
                case rel => exact ⟨(wrap64 (x5_1 + 1)), (by first | rfl | (simp; done) | (simp [*]; done)), H', ⟨by have := HK1.out; omega⟩, by repeat (first | exact Drawn0.refl _ | apply Drawn0.step)⟩
            · rw [if_neg c6] at H
              exact absurd H (by simp)
          · rw [if_neg c5] at H
            exact absurd H (by simp)
        · rw [if_neg c4] at H
          have c4b0 : decide (x5_1 < (l0.length : Int)) = false := decide_eq_false c4
          clear c4
          obtain rfl := Option.some.inj H
          go_wp2
          repeat (go_quiet (fail); try go_wp2)
          go_ret
          exact ⟨by first | rfl | (simp; done) | (simp [*]; done), by repeat (first | exact Drawn0.refl _ | apply Drawn0.step)⟩
  · rw [if_neg c3] at H
    have c3b0 : ((l0.length : Int) == (l1.length : Int)) = false := beq_eq_false_iff_ne.mpr c3
    have c3b1 : ((l0.length : Int) != (l1.length : Int)) = true := bne_iff_ne.mpr c3
    have c3b2 : (l0.length == l1.length) = false := by first | simpa using c3 | (simp at c3 ⊢; omega)
    obtain rfl := Option.some.inj H
    go_enter Try.func13, Try.ntmps13
    go_wp2
    repeat (go_quiet (fail); try go_wp2)
    go_ret
    exact ⟨by first | rfl | (simp; done) | (simp [*]; done), by repeat (first | exact Drawn0.refl _ | apply Drawn0.step)⟩

end Go.Proofs.Ytkdmamffbhlbgaa.PA

-- ---- PAx9

namespace Go.Proofs.Ytkdmamffbhlbgaa.PA
open Go.RowKit Go.Proofs.YtkdmamffbhlbgaaW.PrintWords Go.Proofs.YtkdmamffbhlbgaaW.PrintLast Go.Proofs.YtkdmamffbhlbgaaW.PrintMore
attribute [local go_sem] max2_int min2_int max_two min_two max_three min_three max_four min_four   -- for this text's walks alone
set_option linter.unusedVariables false
set_option linter.unusedSimpArgs false

/-! ### wringerlaw1_Err: function 14 -/
def wringerlaw1_Err.f (a0 : Int) : Option (Int) := some a0
set_option maxHeartbeats 8000000 in
set_option maxRecDepth 100000 in
theorem wringerlaw1_Err.calls (a0 : Int) (r : Int) (w : World) (h : wringerlaw1_Err.f a0 = some r) :
    Calls Try.prog 14 #[.int .i64 a0] w fun e w' => e = .returned (.int .i64 r) ∧ Drawn0 w w' := by
  have H : (some a0) = some r := h
  clear h
  obtain rfl := Option.some.inj H
  go_enter Try.func14, Try.ntmps14
  go_wp2
  go_ret
  exact ⟨by first | rfl | (simp; done) | (simp [*]; done), by repeat (first | exact Drawn0.refl _ | apply Drawn0.step)⟩

end Go.Proofs.Ytkdmamffbhlbgaa.PA

-- ---- PAx10

namespace Go.Proofs.Ytkdmamffbhlbgaa.PA
open Go.RowKit Go.Proofs.YtkdmamffbhlbgaaW.PrintWords Go.Proofs.YtkdmamffbhlbgaaW.PrintLast Go.Proofs.YtkdmamffbhlbgaaW.PrintMore
attribute [local go_sem] max2_int min2_int max_two min_two max_three min_three max_four min_four   -- for this text's walks alone
set_option linter.unusedVariables false
set_option linter.unusedSimpArgs false

attribute [local go_sem high] eqA40
/-! ### wringerlaw9_awake: function 8 -/
def wringerlaw9_awake.f (k : Nat)  : Option (Bool) := if 65 ≤ 35184372088832 then ((some (List.replicate 65 0 : List Int)).bind fun y108 => (if 3 < (y108.length : Int) then (if 5 < (y108.length : Int) then (if 64 < (y108.length : Int) then ((some (((y108.set (3 : Int).toNat 1).set (5 : Int).toNat 2).set (64 : Int).toNat 2 : List Int)).bind fun y113 => ((canon_Codes.f y113).bind fun bt114 => ((canon_May.f k y113).bind fun t118 => (if t118 = true then ((wringerlaw1_Err.f bt114.2).bind fun t119 => (if t119 = 0 then (if (bt114.1.length : Int) = 65 then (if 3 < (bt114.1.length : Int) then (if (((rd_T40 bt114.1 3).f0) == 0 && (((rd_T40 bt114.1 3).f1) == 1)) = true then (if 5 < (bt114.1.length : Int) then (if (((rd_T40 bt114.1 5).f0) == 2 && (((rd_T40 bt114.1 5).f1) == 2)) = true then (if 64 < (bt114.1.length : Int) then (some (((rd_T40 bt114.1 64).f0) == 3 && (((rd_T40 bt114.1 64).f1) == 2))) else (none)) else (some false)) else (none)) else (some false)) else (none)) else (some false)) else (some false))) else (some false))))) else (none)) else (none)) else (none))) else (none)
theorem wringerlaw9_awake.mono : ∀ k, LeO (wringerlaw9_awake.f k ) (wringerlaw9_awake.f (k + 1) ) := by
  intro  k
  unfold wringerlaw9_awake.f
  repeat' first
      | (with_reducible exact canon_May.mono _ _)
      | (with_reducible exact LeO.refl _)
      | (with_reducible exact LeO.none _)
      | (with_reducible refine LeO.ite ?_ ?_)
      | (with_reducible refine LeO.bind ?_ (fun _ => ?_))
      | exact canon_May.mono _ _
      | exact LeO.none _
      | refine LeO.ite ?_ ?_
      | refine LeO.bind ?_ (fun _ => ?_)
set_option maxHeartbeats 8000000 in
set_option maxRecDepth 100000 in
theorem wringerlaw9_awake.calls (k : Nat)  (r : Bool) (w : World) (h : wringerlaw9_awake.f k  = some r) :
    Calls Try.prog 8 #[] w fun e w' => e = .returned (.bool r) ∧ Below w.heap.size w w' := by
  have hu40 := Try.underlying40
  have HB := Aside0.mk (Below.refl w.heap.size w)
  have H : (if 65 ≤ 35184372088832 then ((some (List.replicate 65 0 : List Int)).bind fun y108 => (if 3 < (y108.length : Int) then (if 5 < (y108.length : Int) then (if 64 < (y108.length : Int) then ((some (((y108.set (3 : Int).toNat 1).set (5 : Int).toNat 2).set (64 : Int).toNat 2 : List Int)).bind fun y113 => ((canon_Codes.f y113).bind fun bt114 => ((canon_May.f k y113).bind fun t118 => (if t118 = true then ((wringerlaw1_Err.f bt114.2).bind fun t119 => (if t119 = 0 then (if (bt114.1.length : Int) = 65 then (if 3 < (bt114.1.length : Int) then (if (((rd_T40 bt114.1 3).f0) == 0 && (((rd_T40 bt114.1 3).f1) == 1)) = true then (if 5 < (bt114.1.length : Int) then (if (((rd_T40 bt114.1 5).f0) == 2 && (((rd_T40 bt114.1 5).f1) == 2)) = true then (if 64 < (bt114.1.length : Int) then (some (((rd_T40 bt114.1 64).f0) == 3 && (((rd_T40 bt114.1 64).f1) == 2))) else (none)) else (some false)) else (none)) else (some false)) else (none)) else (some false)) else (some false))) else (some false))))) else (none)) else (none)) else (none))) else (none)) = some r := h
  clear h
  by_cases c1 : 65 ≤ 35184372088832
  · rw [if_pos c1] at H
    have c1b0 := eq_true c1
    have c1b1 : decide (65 ≤ 35184372088832) = true := decide_eq_true c1
    clear c1
    obtain ⟨y108, hy108⟩ : ∃ y_ : List Int, y_ = (List.replicate 65 0) := ⟨_, rfl⟩
    replace H : (if 3 < (y108.length : Int) then (if 5 < (y108.length : Int) then (if 64 < (y108.length : Int) then ((some (((y108.set (3 : Int).toNat 1).set (5 : Int).toNat 2).set (64 : Int).toNat 2 : List Int)).bind fun y113 => ((canon_Codes.f y113).bind fun bt114 => ((canon_May.f k y113).bind fun t118 => (if t118 = true then ((wringerlaw1_Err.f bt114.2).bind fun t119 => (if t119 = 0 then (if (bt114.1.length : Int) = 65 then (if 3 < (bt114.1.length : Int) then (if (((rd_T40 bt114.1 3).f0) == 0 && (((rd_T40 bt114.1 3).f1) == 1)) = true then (if 5 < (bt114.1.length : Int) then (if (((rd_T40 bt114.1 5).f0) == 2 && (((rd_T40 bt114.1 5).f1) == 2)) = true then (if 64 < (bt114.1.length : Int) then (some (((rd_T40 bt114.1 64).f0) == 3 && (((rd_T40 bt114.1 64).f1) == 2))) else (none)) else (some false)) else (none)) else (some false)) else (none)) else (some false)) else (some false))) else (some false))))) else (none)) else (none)) else (none)) = some r := by first | (rw [hy108]; with_reducible exact H) | (have H2_ := (Option.bind_some _ _).symm.trans H; rw [hy108]; with_reducible exact H2_) | (have H2_ := (Option.bind_some _ _).symm.trans H; with_reducible exact H2_) | with_reducible exact H | (rw [hy108]; exact H) | exact H
    have Ny108 := Aside0.mk hy108
    clear hy108
    by_cases c2 : 3 < (y108.length : Int)
    · rw [if_pos c2] at H
      have c2b0 : decide (3 < (y108.length : Int)) = true := decide_eq_true c2
      have c2b1 : decide (3 < y108.length) = true := decide_eq_true (by omega)
      clear c2
      obtain ⟨y111, hy111⟩ : ∃ y_ : List Int, y_ = (y108.set (3 : Int).toNat 1) := ⟨_, rfl⟩
      replace H : (if 5 < (y108.length : Int) then (if 64 < (y108.length : Int) then ((some ((y111.set (5 : Int).toNat 2).set (64 : Int).toNat 2 : List Int)).bind fun y113 => ((canon_Codes.f y113).bind fun bt114 => ((canon_May.f k y113).bind fun t118 => (if t118 = true then ((wringerlaw1_Err.f bt114.2).bind fun t119 => (if t119 = 0 then (if (bt114.1.length : Int) = 65 then (if 3 < (bt114.1.length : Int) then (if (((rd_T40 bt114.1 3).f0) == 0 && (((rd_T40 bt114.1 3).f1) == 1)) = true then (if 5 < (bt114.1.length : Int) then (if (((rd_T40 bt114.1 5).f0) == 2 && (((rd_T40 bt114.1 5).f1) == 2)) = true then (if 64 < (bt114.1.length : Int) then (some (((rd_T40 bt114.1 64).f0) == 3 && (((rd_T40 bt114.1 64).f1) == 2))) else (none)) else (some false)) else (none)) else (some false)) else (none)) else (some false)) else (some false))) else (some false))))) else (none)) else (none)) = some r := by first | (rw [hy111]; with_reducible exact H) | (have H2_ := (Option.bind_some _ _).symm.trans H; rw [hy111]; with_reducible exact H2_) | (have H2_ := (Option.bind_some _ _).symm.trans H; with_reducible exact H2_) | with_reducible exact H | (rw [hy111]; exact H) | exact H
      have Ny111 := Aside0.mk hy111
      clear hy111
      by_cases c4 : 5 < (y108.length : Int)
      · rw [if_pos c4] at H
        have c4b0 : decide (5 < (y108.length : Int)) = true := decide_eq_true c4
        have c4b1 : decide (5 < y108.length) = true := decide_eq_true (by omega)
        clear c4
        obtain ⟨y112, hy112⟩ : ∃ y_ : List Int, y_ = (y111.set (5 : Int).toNat 2) := ⟨_, rfl⟩
        replace H : (if 64 < (y108.length : Int) then ((some (y112.set (64 : Int).toNat 2 : List Int)).bind fun y113 => ((canon_Codes.f y113).bind fun bt114 => ((canon_May.f k y113).bind fun t118 => (if t118 = true then ((wringerlaw1_Err.f bt114.2).bind fun t119 => (if t119 = 0 then (if (bt114.1.length : Int) = 65 then (if 3 < (bt114.1.length : Int) then (if (((rd_T40 bt114.1 3).f0) == 0 && (((rd_T40 bt114.1 3).f1) == 1)) = true then (if 5 < (bt114.1.length : Int) then (if (((rd_T40 bt114.1 5).f0) == 2 && (((rd_T40 bt114.1 5).f1) == 2)) = true then (if 64 < (bt114.1.length : Int) then (some (((rd_T40 bt114.1 64).f0) == 3 && (((rd_T40 bt114.1 64).f1) == 2))) else (none)) else (some false)) else (none)) else (some false)) else (none)) else (some false)) else (some false))) else (some false))))) else (none)) = some r := by first | (rw [hy112]; with_reducible exact H) | (have H2_ := (Option.bind_some _ _).symm.trans H; rw [hy112]; with_reducible exact H2_) | (have H2_ := (Option.bind_some _ _).symm.trans H; with_reducible exact H2_) | with_reducible exact H | (rw [hy112]; exact H) | exact H
        have Ny112 := Aside0.mk hy112
        clear hy112
        by_cases c6 : 64 < (y108.length : Int)
        · rw [if_pos c6] at H
          have c6b0 : decide (64 < (y108.length : Int)) = true := decide_eq_true c6
          have c6b1 : decide (64 < y108.length) = true := decide_eq_true (by omega)
          clear c6
          obtain ⟨y113, hy113⟩ : ∃ y_ : List Int, y_ = (y112.set (64 : Int).toNat 2) := ⟨_, rfl⟩
          replace H : ((canon_Codes.f y113).bind fun bt114 => ((canon_May.f k y113).bind fun t118 => (if t118 = true then ((wringerlaw1_Err.f bt114.2).bind fun t119 => (if t119 = 0 then (if (bt114.1.length : Int) = 65 then (if 3 < (bt114.1.length : Int) then (if (((rd_T40 bt114.1 3).f0) == 0 && (((rd_T40 bt114.1 3).f1) == 1)) = true then (if 5 < (bt114.1.length : Int) then (if (((rd_T40 bt114.1 5).f0) == 2 && (((rd_T40 bt114.1 5).f1) == 2)) = true then (if 64 < (bt114.1.length : Int) then (some (((rd_T40 bt114.1 64).f0) == 3 && (((rd_T40 bt114.1 64).f1) == 2))) else (none)) else (some false)) else (none)) else (some false)) else (none)) else (some false)) else (some false))) else (some false)))) = some r := by first | (rw [hy113]; with_reducible exact H) | (have H2_ := (Option.bind_some _ _).symm.trans H; rw [hy113]; with_reducible exact H2_) | (have H2_ := (Option.bind_some _ _).symm.trans H; with_reducible exact H2_) | with_reducible exact H | (rw [hy113]; exact H) | exact H
          have Ny113 := Aside0.mk hy113
          clear hy113
          replace H := Option.bind_eq_some_iff.mp H
          obtain ⟨⟨t114, t115⟩, A80, H⟩ := H
          replace H : ((canon_May.f k y113).bind fun t118 => (if t118 = true then ((wringerlaw1_Err.f t115).bind fun t119 => (if t119 = 0 then (if (t114.length : Int) = 65 then (if 3 < (t114.length : Int) then (if (((rd_T40 t114 3).f0) == 0 && (((rd_T40 t114 3).f1) == 1)) = true then (if 5 < (t114.length : Int) then (if (((rd_T40 t114 5).f0) == 2 && (((rd_T40 t114 5).f1) == 2)) = true then (if 64 < (t114.length : Int) then (some (((rd_T40 t114 64).f0) == 3 && (((rd_T40 t114 64).f1) == 2))) else (none)) else (some false)) else (none)) else (some false)) else (none)) else (some false)) else (some false))) else (some false))) = some r := H
          have A8 := Aside0.mk A80
          clear A80
          replace H := Option.bind_eq_some_iff.mp H
          obtain ⟨t118, A90, H⟩ := H
          replace H : (if t118 = true then ((wringerlaw1_Err.f t115).bind fun t119 => (if t119 = 0 then (if (t114.length : Int) = 65 then (if 3 < (t114.length : Int) then (if (((rd_T40 t114 3).f0) == 0 && (((rd_T40 t114 3).f1) == 1)) = true then (if 5 < (t114.length : Int) then (if (((rd_T40 t114 5).f0) == 2 && (((rd_T40 t114 5).f1) == 2)) = true then (if 64 < (t114.length : Int) then (some (((rd_T40 t114 64).f0) == 3 && (((rd_T40 t114 64).f1) == 2))) else (none)) else (some false)) else (none)) else (some false)) else (none)) else (some false)) else (some false))) else (some false)) = some r := H
          have A9 := Aside0.mk A90
          clear A90
          by_cases c10 : t118 = true
          · subst c10
            have H1 : ((wringerlaw1_Err.f t115).bind fun t119 => (if t119 = 0 then (if (t114.length : Int) = 65 then (if 3 < (t114.length : Int) then (if (((rd_T40 t114 3).f0) == 0 && (((rd_T40 t114 3).f1) == 1)) = true then (if 5 < (t114.length : Int) then (if (((rd_T40 t114 5).f0) == 2 && (((rd_T40 t114 5).f1) == 2)) = true then (if 64 < (t114.length : Int) then (some (((rd_T40 t114 64).f0) == 3 && (((rd_T40 t114 64).f1) == 2))) else (none)) else (some false)) else (none)) else (some false)) else (none)) else (some false)) else (some false))) = some r := by rw [if_pos rfl] at H; exact H
            clear H
            have H := H1
            clear H1
            replace H := Option.bind_eq_some_iff.mp H
            obtain ⟨t119, A110, H⟩ := H
            replace H : (if t119 = 0 then (if (t114.length : Int) = 65 then (if 3 < (t114.length : Int) then (if (((rd_T40 t114 3).f0) == 0 && (((rd_T40 t114 3).f1) == 1)) = true then (if 5 < (t114.length : Int) then (if (((rd_T40 t114 5).f0) == 2 && (((rd_T40 t114 5).f1) == 2)) = true then (if 64 < (t114.length : Int) then (some (((rd_T40 t114 64).f0) == 3 && (((rd_T40 t114 64).f1) == 2))) else (none)) else (some false)) else (none)) else (some false)) else (none)) else (some false)) else (some false)) = some r := H
            have A11 := Aside0.mk A110
            clear A110
            by_cases c12 : t119 = 0
            · rw [if_pos c12] at H
              have c12b0 : (t119 == 0) = true := beq_iff_eq.mpr c12
              have c12b1 : (t119 != 0) = false := bne_eq_false_iff_eq.mpr c12
              clear c12
              by_cases c13 : (t114.length : Int) = 65
              · rw [if_pos c13] at H
                have c13b0 : ((t114.length : Int) == 65) = true := beq_iff_eq.mpr c13
                have c13b1 : ((t114.length : Int) != 65) = false := bne_eq_false_iff_eq.mpr c13
                clear c13
                by_cases c14 : 3 < (t114.length : Int)
                · rw [if_pos c14] at H
                  have c14b0 : decide (3 < (t114.length : Int)) = true := decide_eq_true c14
                  have c14b1 : decide (3 < t114.length) = true := decide_eq_true (by omega)
                  clear c14
                  by_cases c15 : (((rd_T40 t114 3).f0) == 0 && (((rd_T40 t114 3).f1) == 1)) = true
                  · rw [if_pos c15] at H
                    have c15b0 : (((rd_T40 t114 3).f0) == 0 && (((rd_T40 t114 3).f1) == 1)) = true := c15
                    (try (have c15b1 : decide (((rd_T40 t114 3).f0) = 0 && (((rd_T40 t114 3).f1) == 1)) = true := by simpa using c15))
                    (try (have c15b2 : (((rd_T40 t114 3).f0) == 0 && (((rd_T40 t114 3).f1) == 1)) = true := by simpa using c15))
                    clear c15
                    by_cases c16 : 5 < (t114.length : Int)
                    · rw [if_pos c16] at H
                      have c16b0 : decide (5 < (t114.length : Int)) = true := decide_eq_true c16
                      have c16b1 : decide (5 < t114.length) = true := decide_eq_true (by omega)
                      clear c16
                      by_cases c17 : (((rd_T40 t114 5).f0) == 2 && (((rd_T40 t114 5).f1) == 2)) = true
                      · rw [if_pos c17] at H
                        have c17b0 : (((rd_T40 t114 5).f0) == 2 && (((rd_T40 t114 5).f1) == 2)) = true := c17
                        (try (have c17b1 : decide (((rd_T40 t114 5).f0) = 2 && (((rd_T40 t114 5).f1) == 2)) = true := by simpa using c17))
                        (try (have c17b2 : (((rd_T40 t114 5).f0) == 2 && (((rd_T40 t114 5).f1) == 2)) = true := by simpa using c17))
                        clear c17
                        by_cases c18 : 64 < (t114.length : Int)
                        · rw [if_pos c18] at H
                          have c18b0 : decide (64 < (t114.length : Int)) = true := decide_eq_true c18
                          have c18b1 : decide (64 < t114.length) = true := decide_eq_true (by omega)
                          clear c18
                          obtain rfl := Option.some.inj H
                          go_enter Try.func8, Try.ntmps8
                          go_wp2_with (first | ((with_reducible refine gate_dst (N := 4) rfl ?_); (try (refine gate_guard (by rfl) ?_; dsimp only)); refine Kd.R_make (Kd.int .i64) _ 3 rfl (N := 4) rfl 22 _ _ rfl 65 rfl rfl Try.underlying22 (.int .i64 0) 8 info3 rfl (by decide) (by omega) 0 (ok := fun _ => True) (okp := fun _ => True) rfl (fun _ hk => hk) trivial (by omega) (by omega) (Below.refl _ _) (Nat.le_refl _) ?_; intro v109 w19 ho20 hb hg_ hnew_; clear hg_ hnew_; (first | rw [← Ny108.out] at ho20 | (simp only [Int.reduceToNat] at ho20; rw [← Ny108.out] at ho20)); have n0_ := Aside0.mk (Kd.R_lower ho20 (below_size (by repeat (first | (with_reducible first | exact HB.out | apply below_alloc | apply pw_below_drewN | apply below_drew1) | exact HB.out)))); have n1_ := Aside0.mk (below_step (by repeat (first | (with_reducible first | exact HB.out | apply below_alloc | apply pw_below_drewN | apply below_drew1) | exact HB.out)) hb); clear HB; have HO110 := n0_; have HB := n1_; clear n0_ n1_; clear hb ho20; have p3 : 0 ≤ (3 : Int) := (by omega); have q3 : (3 : Int) < ((y108.length : Int) : Int) := of_decide_eq_true (by first | (with_reducible assumption) | assumption); have qi3 : (3 < y108.length) = True := eq_true (by omega); obtain ⟨go3, co3, eo3, gb3, gl3, cl3, HG3⟩ := Kd.R_form HO110.out (by omega); (first | cases eo3 | (injection eo3 with ea_ en_ ec_; (first | subst ea_ | (injection ea_ with ea_; subst ea_)); subst ec_; clear en_)); have GB3 := Aside0.mk gb3; have GG3 := Aside0.mk HG3; clear gb3 gl3 HG3; obtain ⟨hx3_0, hf3_0⟩ := Kd.R_celln 0 HO110.out (3 : Int) p3 q3; (try rw [show ((3 : Int)).toNat = 3 from rfl] at hx3_0); (try simp only [Nat.reduceMul, Nat.zero_mul, Nat.zero_add, Nat.reduceAdd] at hx3_0); (try rw [show ((3 : Int)).toNat = 3 from rfl] at hf3_0); (try simp only [Nat.reduceMul, Nat.zero_mul, Nat.zero_add, Nat.reduceAdd] at hf3_0); replace p3 := eq_true p3; replace q3 := eq_true q3; obtain ⟨hy21_, hz21_⟩ := Kd.R_celln 0 HO110.out (3 : Int) (by omega) (of_decide_eq_true (by first | (with_reducible assumption) | assumption)); (try simp only [Int.reduceToNat, Int.toNat_zero, Int.toNat_ofNat, Nat.reduceMul, Nat.zero_mul, Nat.zero_add] at hy21_ hz21_); (try rw [show ((3 : Int)).toNat = 3 from rfl] at hy21_); (try rw [show ((3 : Int)).toNat = 3 from rfl] at hz21_); have HP21 := Kd.R_putg HO110.out (3 : Int) 1) | ((with_reducible refine gate_store (t := 3) (p := 6) rfl ?_); refine store_event (t := 3) (p := 6) (v := ?vo_w22) (w1 := (w19.setCell ⟨go3, (3 : Int).toNat, none⟩ (.int .i64 1))) ?hg ?ho ?hn ?hr ?_; (case ho => rfl); (case hg => rfl); (case hn => rfl); (case hr => first | (go_simp; done) | (go_simp; rfl)); intro w22 hw; have hg : w19.grownBy w22 (some go3) := (by rw [hw]; exact HP21.2); have hp_ : Kd.R (Kd.int .i64) 3 w22 w.heap.size (fun _ => True) (.slice (some ⟨go3, 0, none⟩) y108.length co3) y111 := (by rw [hw, Ny111.out]; exact HP21.1); clear HP21; have n0_ := Aside0.mk (hp_); have n1_ := Aside0.mk ((by rw [hw]; exact below_set (HB.out) GB3.out : Below w.heap.size w w22)); clear HO110; clear HB; have HO110 := n0_; have HB := n1_; clear n0_ n1_; clear hg hw hp_; have p5 : 0 ≤ (5 : Int) := (by omega); have q5 : (5 : Int) < ((y108.length : Int) : Int) := of_decide_eq_true (by first | (with_reducible assumption) | assumption); have qi5 : (5 < y108.length) = True := eq_true (by omega); obtain ⟨hx5_0, hf5_0⟩ := Kd.R_celln 0 HO110.out (5 : Int) p5 q5; (try rw [show ((5 : Int)).toNat = 5 from rfl] at hx5_0); (try simp only [Nat.reduceMul, Nat.zero_mul, Nat.zero_add, Nat.reduceAdd] at hx5_0); (try rw [show ((5 : Int)).toNat = 5 from rfl] at hf5_0); (try simp only [Nat.reduceMul, Nat.zero_mul, Nat.zero_add, Nat.reduceAdd] at hf5_0); replace p5 := eq_true p5; replace q5 := eq_true q5; obtain ⟨hy23_, hz23_⟩ := Kd.R_celln 0 HO110.out (5 : Int) (by omega) (of_decide_eq_true (by first | (with_reducible assumption) | assumption)); (try simp only [Int.reduceToNat, Int.toNat_zero, Int.toNat_ofNat, Nat.reduceMul, Nat.zero_mul, Nat.zero_add] at hy23_ hz23_); (try rw [show ((5 : Int)).toNat = 5 from rfl] at hy23_); (try rw [show ((5 : Int)).toNat = 5 from rfl] at hz23_); have HP23 := Kd.R_putg HO110.out (5 : Int) 2) | ((with_reducible refine gate_store (t := 3) (p := 8) rfl ?_); refine store_event (t := 3) (p := 8) (v := ?vo_w24) (w1 := (w22.setCell ⟨go3, (5 : Int).toNat, none⟩ (.int .i64 2))) ?hg ?ho ?hn ?hr ?_; (case ho => rfl); (case hg => rfl); (case hn => rfl); (case hr => first | (go_simp; done) | (go_simp; rfl)); intro w24 hw; have hg : w22.grownBy w24 (some go3) := (by rw [hw]; exact HP23.2); have hp_ : Kd.R (Kd.int .i64) 3 w24 w.heap.size (fun _ => True) (.slice (some ⟨go3, 0, none⟩) y108.length co3) y112 := (by rw [hw, Ny112.out]; exact HP23.1); clear HP23; have n0_ := Aside0.mk (hp_); have n1_ := Aside0.mk ((by rw [hw]; exact below_set (HB.out) GB3.out : Below w.heap.size w w24)); clear HO110; clear HB; have HO110 := n0_; have HB := n1_; clear n0_ n1_; clear hg hw hp_; have p7 : 0 ≤ (64 : Int) := (by omega); have q7 : (64 : Int) < ((y108.length : Int) : Int) := of_decide_eq_true (by first | (with_reducible assumption) | assumption); have qi7 : (64 < y108.length) = True := eq_true (by omega); obtain ⟨hx7_0, hf7_0⟩ := Kd.R_celln 0 HO110.out (64 : Int) p7 q7; (try rw [show ((64 : Int)).toNat = 64 from rfl] at hx7_0); (try simp only [Nat.reduceMul, Nat.zero_mul, Nat.zero_add, Nat.reduceAdd] at hx7_0); (try rw [show ((64 : Int)).toNat = 64 from rfl] at hf7_0); (try simp only [Nat.reduceMul, Nat.zero_mul, Nat.zero_add, Nat.reduceAdd] at hf7_0); replace p7 := eq_true p7; replace q7 := eq_true q7; obtain ⟨hy25_, hz25_⟩ := Kd.R_celln 0 HO110.out (64 : Int) (by omega) (of_decide_eq_true (by first | (with_reducible assumption) | assumption)); (try simp only [Int.reduceToNat, Int.toNat_zero, Int.toNat_ofNat, Nat.reduceMul, Nat.zero_mul, Nat.zero_add] at hy25_ hz25_); (try rw [show ((64 : Int)).toNat = 64 from rfl] at hy25_); (try rw [show ((64 : Int)).toNat = 64 from rfl] at hz25_); have HP25 := Kd.R_putg HO110.out (64 : Int) 2) | ((with_reducible refine gate_store (t := 3) (p := 10) rfl ?_); refine store_event (t := 3) (p := 10) (v := ?vo_w26) (w1 := (w24.setCell ⟨go3, (64 : Int).toNat, none⟩ (.int .i64 2))) ?hg ?ho ?hn ?hr ?_; (case ho => rfl); (case hg => rfl); (case hn => rfl); (case hr => first | (go_simp; done) | (go_simp; rfl)); intro w26 hw; have hg : w24.grownBy w26 (some go3) := (by rw [hw]; exact HP25.2); have hp_ : Kd.R (Kd.int .i64) 3 w26 w.heap.size (fun _ => True) (.slice (some ⟨go3, 0, none⟩) y108.length co3) y113 := (by rw [hw, Ny113.out]; exact HP25.1); clear HP25; have n0_ := Aside0.mk (hp_); have n1_ := Aside0.mk ((by rw [hw]; exact below_set (HB.out) GB3.out : Below w.heap.size w w26)); clear HO110; clear HB; have HO110 := n0_; have HB := n1_; clear n0_ n1_; clear hg hw hp_) | ((with_reducible refine gate_callee (f := 9) rfl ?_); refine goesL_ (some 13) rfl rfl Try.func9 (by kernel_rfl) rfl #[.slice (some ⟨go3, 0, none⟩) y113.length co3] rfl (by (try simp only [List.map_toArray, List.map_cons, List.map_nil]); first | done | (rw [show y113.length = y108.length from (Kd.R_reads' HO110.out).1.symm] <;> rfl) | rfl | (simp only [List.length_drop, List.length_take]; rfl)) ?_; (with_reducible refine (canon_Codes.calls _ _ y113 t114 t115 _ ?side1 ?side2 A8.out).mono ?_); (case side1 => repeat (first | exact (Kd.R_reads' HO110.out).2.2 | (with_reducible refine Kd.C_alloc ?_ _) | (with_reducible refine Kd.C_drewN ?_ _) | (with_reducible refine Kd.C_drew ?_))); (case side2 => rw [show y113.length = y108.length from (Kd.R_reads' HO110.out).1.symm]; exact (Kd.R_reads' HO110.out).2.1); rintro e w27 ⟨v116, rfl, ho0, hb⟩; refine ⟨_, rfl, ?_⟩; have n0_ := Aside0.mk (Kd.R_below (by (with_reducible repeat (first | apply Kd.R_alloc | apply Kd.R_drewN | apply Kd.R_drew)); exact HO110.out) hb); have n1_ := Aside0.mk (Kd.R_lower ho0 (below_size (by repeat (first | (with_reducible first | exact HB.out | apply below_alloc | apply pw_below_drewN | apply below_drew1) | exact HB.out)))); have n2_ := Aside0.mk (below_step (by repeat (first | (with_reducible first | exact HB.out | apply below_alloc | apply pw_below_drewN | apply below_drew1) | exact HB.out)) hb); clear HO110; clear HB; have HO110 := n0_; have HO117 := n1_; have HB := n2_; clear n0_ n1_ n2_; (try clear hb); (try clear hb2); (try clear hk); (try clear hi); (try clear ho0)) | ((with_reducible refine gate_callee (f := 11) rfl ?_); refine goesL_ (some 17) rfl rfl Try.func11 (by kernel_rfl) rfl #[.slice (some ⟨go3, 0, none⟩) y113.length co3] rfl (by (try simp only [List.map_toArray, List.map_cons, List.map_nil]); first | done | (rw [show y113.length = y108.length from (Kd.R_reads' HO110.out).1.symm] <;> rfl) | rfl | (simp only [List.length_drop, List.length_take]; rfl)) ?_; (with_reducible refine (canon_May.calls k _ _ y113 true _ ?side1 ?side2 A9.out).mono ?_); (case side1 => repeat (first | exact (Kd.R_reads' HO110.out).2.2 | (with_reducible refine Kd.C_alloc ?_ _) | (with_reducible refine Kd.C_drewN ?_ _) | (with_reducible refine Kd.C_drew ?_))); (case side2 => rw [show y113.length = y108.length from (Kd.R_reads' HO110.out).1.symm]; exact (Kd.R_reads' HO110.out).2.1); rintro e w' ⟨rfl, ⟨nd, rfl⟩⟩; refine ⟨_, rfl, ?_⟩) | (go_at_call 14; (with_reducible refine (wringerlaw1_Err.calls t115 t119 _ A11.out).mono ?_); rintro e w' ⟨rfl, ⟨nd, rfl⟩⟩; obtain ⟨Ao28, co28, eo28⟩ := Kd.R_slice HO117.out; subst eo28; have p120 : 0 ≤ (3 : Int) := (by omega); have q120 : 3 < (t114.length : Int) := of_decide_eq_true (by first | (with_reducible assumption) | assumption); obtain ⟨ad120, e120, hx120_0, hx120_1⟩ := at_T40 (Kd.R_reads' HO117.out).2.2 3 p120 q120; cases e120; (try simp only [show (3 : Int).toNat = 3 from rfl, Nat.reduceMul, Nat.reduceEqDiff, Go.Addr.add, ↓reduceIte] at hx120_0); (try simp only [show (3 : Int).toNat = 3 from rfl, Nat.reduceMul, Nat.reduceEqDiff, Go.Addr.add, ↓reduceIte] at hx120_1); have qi120 : (3 < t114.length) = True := eq_true (by omega); (try rw [show ((3 : Int)).toNat = 3 from rfl] at hx120_0); (try rw [show 3 * 2 = 6 from rfl] at hx120_0); (try rw [show ((3 : Int)).toNat = 3 from rfl] at hx120_1); (try rw [show 3 * 2 = 6 from rfl] at hx120_1); replace p120 := eq_true p120; replace q120 := eq_true q120; have p121 : 0 ≤ (5 : Int) := (by omega); have q121 : 5 < (t114.length : Int) := of_decide_eq_true (by first | (with_reducible assumption) | assumption); obtain ⟨ad121, e121, hx121_0, hx121_1⟩ := at_T40 (Kd.R_reads' HO117.out).2.2 5 p121 q121; obtain rfl : ad120 = ad121 := (by injection e121); (try simp only [show (5 : Int).toNat = 5 from rfl, Nat.reduceMul, Nat.reduceEqDiff, Go.Addr.add, ↓reduceIte] at hx121_0); (try simp only [show (5 : Int).toNat = 5 from rfl, Nat.reduceMul, Nat.reduceEqDiff, Go.Addr.add, ↓reduceIte] at hx121_1); have qi121 : (5 < t114.length) = True := eq_true (by omega); (try rw [show ((5 : Int)).toNat = 5 from rfl] at hx121_0); (try rw [show 5 * 2 = 10 from rfl] at hx121_0); (try rw [show ((5 : Int)).toNat = 5 from rfl] at hx121_1); (try rw [show 5 * 2 = 10 from rfl] at hx121_1); replace p121 := eq_true p121; replace q121 := eq_true q121; have p122 : 0 ≤ (64 : Int) := (by omega); have q122 : 64 < (t114.length : Int) := of_decide_eq_true (by first | (with_reducible assumption) | assumption); obtain ⟨ad122, e122, hx122_0, hx122_1⟩ := at_T40 (Kd.R_reads' HO117.out).2.2 64 p122 q122; obtain rfl : ad120 = ad122 := (by injection e122); (try simp only [show (64 : Int).toNat = 64 from rfl, Nat.reduceMul, Nat.reduceEqDiff, Go.Addr.add, ↓reduceIte] at hx122_0); (try simp only [show (64 : Int).toNat = 64 from rfl, Nat.reduceMul, Nat.reduceEqDiff, Go.Addr.add, ↓reduceIte] at hx122_1); have qi122 : (64 < t114.length) = True := eq_true (by omega); (try rw [show ((64 : Int)).toNat = 64 from rfl] at hx122_0); (try rw [show 64 * 2 = 128 from rfl] at hx122_0); (try rw [show ((64 : Int)).toNat = 64 from rfl] at hx122_1); (try rw [show 64 * 2 = 128 from rfl] at hx122_1); replace p122 := eq_true p122; replace q122 := eq_true q122))
                          go_ret
                          exact ⟨by first | rfl | (simp [errW_none, errW_some] <;> rfl) | (simp [*, errW_none, errW_some] <;> rfl), by repeat (first | (with_reducible first | exact HB.out | apply below_alloc | apply pw_below_drewN | apply below_drew1) | exact HB.out)⟩
                        · rw [if_neg c18] at H
                          exact absurd H (by simp)
                      · rw [if_neg c17] at H
                        have c17b0 : (((rd_T40 t114 5).f0) == 2 && (((rd_T40 t114 5).f1) == 2)) = false := by simpa using c17
                        (try (have c17b1 : decide (((rd_T40 t114 5).f0) = 2 && (((rd_T40 t114 5).f1) == 2)) = false := by simpa using c17))
                        (try (have c17b2 : (((rd_T40 t114 5).f0) == 2 && (((rd_T40 t114 5).f1) == 2)) = false := by simpa using c17))
                        (try (have c17b3 : ¬ (((rd_T40 t114 5).f0) = 2 && (((rd_T40 t114 5).f1) == 2)) := by simpa using c17))
                        clear c17
                        obtain rfl := Option.some.inj H
                        go_enter Try.func8, Try.ntmps8
                        go_wp2_with (first | ((with_reducible refine gate_dst (N := 4) rfl ?_); (try (refine gate_guard (by rfl) ?_; dsimp only)); refine Kd.R_make (Kd.int .i64) _ 3 rfl (N := 4) rfl 22 _ _ rfl 65 rfl rfl Try.underlying22 (.int .i64 0) 8 info3 rfl (by decide) (by omega) 0 (ok := fun _ => True) (okp := fun _ => True) rfl (fun _ hk => hk) trivial (by omega) (by omega) (Below.refl _ _) (Nat.le_refl _) ?_; intro v109 w29 ho30 hb hg_ hnew_; clear hg_ hnew_; (first | rw [← Ny108.out] at ho30 | (simp only [Int.reduceToNat] at ho30; rw [← Ny108.out] at ho30)); have n0_ := Aside0.mk (Kd.R_lower ho30 (below_size (by repeat (first | (with_reducible first | exact HB.out | apply below_alloc | apply pw_below_drewN | apply below_drew1) | exact HB.out)))); have n1_ := Aside0.mk (below_step (by repeat (first | (with_reducible first | exact HB.out | apply below_alloc | apply pw_below_drewN | apply below_drew1) | exact HB.out)) hb); clear HB; have HO110 := n0_; have HB := n1_; clear n0_ n1_; clear hb ho30; have p3 : 0 ≤ (3 : Int) := (by omega); have q3 : (3 : Int) < ((y108.length : Int) : Int) := of_decide_eq_true (by first | (with_reducible assumption) | assumption); have qi3 : (3 < y108.length) = True := eq_true (by omega); obtain ⟨go3, co3, eo3, gb3, gl3, cl3, HG3⟩ := Kd.R_form HO110.out (by omega); (first | cases eo3 | (injection eo3 with ea_ en_ ec_; (first | subst ea_ | (injection ea_ with ea_; subst ea_)); subst ec_; clear en_)); have GB3 := Aside0.mk gb3; have GG3 := Aside0.mk HG3; clear gb3 gl3 HG3; obtain ⟨hx3_0, hf3_0⟩ := Kd.R_celln 0 HO110.out (3 : Int) p3 q3; (try rw [show ((3 : Int)).toNat = 3 from rfl] at hx3_0); (try simp only [Nat.reduceMul, Nat.zero_mul, Nat.zero_add, Nat.reduceAdd] at hx3_0); (try rw [show ((3 : Int)).toNat = 3 from rfl] at hf3_0); (try simp only [Nat.reduceMul, Nat.zero_mul, Nat.zero_add, Nat.reduceAdd] at hf3_0); replace p3 := eq_true p3; replace q3 := eq_true q3; obtain ⟨hy31_, hz31_⟩ := Kd.R_celln 0 HO110.out (3 : Int) (by omega) (of_decide_eq_true (by first | (with_reducible assumption) | assumption)); (try simp only [Int.reduceToNat, Int.toNat_zero, Int.toNat_ofNat, Nat.reduceMul, Nat.zero_mul, Nat.zero_add] at hy31_ hz31_); (try rw [show ((3 : Int)).toNat = 3 from rfl] at hy31_); (try rw [show ((3 : Int)).toNat = 3 from rfl] at hz31_); have HP31 := Kd.R_putg HO110.out (3 : Int) 1) | ((with_reducible refine gate_store (t := 3) (p := 6) rfl ?_); refine store_event (t := 3) (p := 6) (v := ?vo_w32) (w1 := (w29.setCell ⟨go3, (3 : Int).toNat, none⟩ (.int .i64 1))) ?hg ?ho ?hn ?hr ?_; (case ho => rfl); (case hg => rfl); (case hn => rfl); (case hr => first | (go_simp; done) | (go_simp; rfl)); intro w32 hw; have hg : w29.grownBy w32 (some go3) := (by rw [hw]; exact HP31.2); have hp_ : Kd.R (Kd.int .i64) 3 w32 w.heap.size (fun _ => True) (.slice (some ⟨go3, 0, none⟩) y108.length co3) y111 := (by rw [hw, Ny111.out]; exact HP31.1); clear HP31; have n0_ := Aside0.mk (hp_); have n1_ := Aside0.mk ((by rw [hw]; exact below_set (HB.out) GB3.out : Below w.heap.size w w32)); clear HO110; clear HB; have HO110 := n0_; have HB := n1_; clear n0_ n1_; clear hg hw hp_; have p5 : 0 ≤ (5 : Int) := (by omega); have q5 : (5 : Int) < ((y108.length : Int) : Int) := of_decide_eq_true (by first | (with_reducible assumption) | assumption); have qi5 : (5 < y108.length) = True := eq_true (by omega); obtain ⟨hx5_0, hf5_0⟩ := Kd.R_celln 0 HO110.out (5 : Int) p5 q5; (try rw [show ((5 : Int)).toNat = 5 from rfl] at hx5_0); (try simp only [Nat.reduceMul, Nat.zero_mul, Nat.zero_add, Nat.reduceAdd] at hx5_0); (try rw [show ((5 : Int)).toNat = 5 from rfl] at hf5_0); (try simp only [Nat.reduceMul, Nat.zero_mul, Nat.zero_add, Nat.reduceAdd] at hf5_0); replace p5 := eq_true p5; replace q5 := eq_true q5; obtain ⟨hy33_, hz33_⟩ := Kd.R_celln 0 HO110.out (5 : Int) (by omega) (of_decide_eq_true (by first | (with_reducible assumption) | assumption)); (try simp only [Int.reduceToNat, Int.toNat_zero, Int.toNat_ofNat, Nat.reduceMul, Nat.zero_mul, Nat.zero_add] at hy33_ hz33_); (try rw [show ((5 : Int)).toNat = 5 from rfl] at hy33_); (try rw [show ((5 : Int)).toNat = 5 from rfl] at hz33_); have HP33 := Kd.R_putg HO110.out (5 : Int) 2) | ((with_reducible refine gate_store (t := 3) (p := 8) rfl ?_); refine store_event (t := 3) (p := 8) (v := ?vo_w34) (w1 := (w32.setCell ⟨go3, (5 : Int).toNat, none⟩ (.int .i64 2))) ?hg ?ho ?hn ?hr ?_; (case ho => rfl); (case hg => rfl); (case hn => rfl); (case hr => first | (go_simp; done) | (go_simp; rfl)); intro w34 hw; have hg : w32.grownBy w34 (some go3) := (by rw [hw]; exact HP33.2); have hp_ : Kd.R (Kd.int .i64) 3 w34 w.heap.size (fun _ => True) (.slice (some ⟨go3, 0, none⟩) y108.length co3) y112 := (by rw [hw, Ny112.out]; exact HP33.1); clear HP33; have n0_ := Aside0.mk (hp_); have n1_ := Aside0.mk ((by rw [hw]; exact below_set (HB.out) GB3.out : Below w.heap.size w w34)); clear HO110; clear HB; have HO110 := n0_; have HB := n1_; clear n0_ n1_; clear hg hw hp_; have p7 : 0 ≤ (64 : Int) := (by omega); have q7 : (64 : Int) < ((y108.length : Int) : Int) := of_decide_eq_true (by first | (with_reducible assumption) | assumption); have qi7 : (64 < y108.length) = True := eq_true (by omega); obtain ⟨hx7_0, hf7_0⟩ := Kd.R_celln 0 HO110.out (64 : Int) p7 q7; (try rw [show ((64 : Int)).toNat = 64 from rfl] at hx7_0); (try simp only [Nat.reduceMul, Nat.zero_mul, Nat.zero_add, Nat.reduceAdd] at hx7_0); (try rw [show ((64 : Int)).toNat = 64 from rfl] at hf7_0); (try simp only [Nat.reduceMul, Nat.zero_mul, Nat.zero_add, Nat.reduceAdd] at hf7_0); replace p7 := eq_true p7; replace q7 := eq_true q7; obtain ⟨hy35_, hz35_⟩ := Kd.R_celln 0 HO110.out (64 : Int) (by omega) (of_decide_eq_true (by first | (with_reducible assumption) | assumption)); (try simp only [Int.reduceToNat, Int.toNat_zero, Int.toNat_ofNat, Nat.reduceMul, Nat.zero_mul, Nat.zero_add] at hy35_ hz35_); (try rw [show ((64 : Int)).toNat = 64 from rfl] at hy35_); (try rw [show ((64 : Int)).toNat = 64 from rfl] at hz35_); have HP35 := Kd.R_putg HO110.out (64 : Int) 2) | ((with_reducible refine gate_store (t := 3) (p := 10) rfl ?_); refine store_event (t := 3) (p := 10) (v := ?vo_w36) (w1 := (w34.setCell ⟨go3, (64 : Int).toNat, none⟩ (.int .i64 2))) ?hg ?ho ?hn ?hr ?_; (case ho => rfl); (case hg => rfl); (case hn => rfl); (case hr => first | (go_simp; done) | (go_simp; rfl)); intro w36 hw; have hg : w34.grownBy w36 (some go3) := (by rw [hw]; exact HP35.2); have hp_ : Kd.R (Kd.int .i64) 3 w36 w.heap.size (fun _ => True) (.slice (some ⟨go3, 0, none⟩) y108.length co3) y113 := (by rw [hw, Ny113.out]; exact HP35.1); clear HP35; have n0_ := Aside0.mk (hp_); have n1_ := Aside0.mk ((by rw [hw]; exact below_set (HB.out) GB3.out : Below w.heap.size w w36)); clear HO110; clear HB; have HO110 := n0_; have HB := n1_; clear n0_ n1_; clear hg hw hp_) | ((with_reducible refine gate_callee (f := 9) rfl ?_); refine goesL_ (some 13) rfl rfl Try.func9 (by kernel_rfl) rfl #[.slice (some ⟨go3, 0, none⟩) y113.length co3] rfl (by (try simp only [List.map_toArray, List.map_cons, List.map_nil]); first | done | (rw [show y113.length = y108.length from (Kd.R_reads' HO110.out).1.symm] <;> rfl) | rfl | (simp only [List.length_drop, List.length_take]; rfl)) ?_; (with_reducible refine (canon_Codes.calls _ _ y113 t114 t115 _ ?side1 ?side2 A8.out).mono ?_); (case side1 => repeat (first | exact (Kd.R_reads' HO110.out).2.2 | (with_reducible refine Kd.C_alloc ?_ _) | (with_reducible refine Kd.C_drewN ?_ _) | (with_reducible refine Kd.C_drew ?_))); (case side2 => rw [show y113.length = y108.length from (Kd.R_reads' HO110.out).1.symm]; exact (Kd.R_reads' HO110.out).2.1); rintro e w37 ⟨v116, rfl, ho0, hb⟩; refine ⟨_, rfl, ?_⟩; have n0_ := Aside0.mk (Kd.R_below (by (with_reducible repeat (first | apply Kd.R_alloc | apply Kd.R_drewN | apply Kd.R_drew)); exact HO110.out) hb); have n1_ := Aside0.mk (Kd.R_lower ho0 (below_size (by repeat (first | (with_reducible first | exact HB.out | apply below_alloc | apply pw_below_drewN | apply below_drew1) | exact HB.out)))); have n2_ := Aside0.mk (below_step (by repeat (first | (with_reducible first | exact HB.out | apply below_alloc | apply pw_below_drewN | apply below_drew1) | exact HB.out)) hb); clear HO110; clear HB; have HO110 := n0_; have HO117 := n1_; have HB := n2_; clear n0_ n1_ n2_; (try clear hb); (try clear hb2); (try clear hk); (try clear hi); (try clear ho0)) | ((with_reducible refine gate_callee (f := 11) rfl ?_); refine goesL_ (some 17) rfl rfl Try.func11 (by kernel_rfl) rfl #[.slice (some ⟨go3, 0, none⟩) y113.length co3] rfl (by (try simp only [List.map_toArray, List.map_cons, List.map_nil]); first | done | (rw [show y113.length = y108.length from (Kd.R_reads' HO110.out).1.symm] <;> rfl) | rfl | (simp only [List.length_drop, List.length_take]; rfl)) ?_; (with_reducible refine (canon_May.calls k _ _ y113 true _ ?side1 ?side2 A9.out).mono ?_); (case side1 => repeat (first | exact (Kd.R_reads' HO110.out).2.2 | (with_reducible refine Kd.C_alloc ?_ _) | (with_reducible refine Kd.C_drewN ?_ _) | (with_reducible refine Kd.C_drew ?_))); (case side2 => rw [show y113.length = y108.length from (Kd.R_reads' HO110.out).1.symm]; exact (Kd.R_reads' HO110.out).2.1); rintro e w' ⟨rfl, ⟨nd, rfl⟩⟩; refine ⟨_, rfl, ?_⟩) | (go_at_call 14; (with_reducible refine (wringerlaw1_Err.calls t115 t119 _ A11.out).mono ?_); rintro e w' ⟨rfl, ⟨nd, rfl⟩⟩; obtain ⟨Ao38, co38, eo38⟩ := Kd.R_slice HO117.out; subst eo38; have p120 : 0 ≤ (3 : Int) := (by omega); have q120 : 3 < (t114.length : Int) := of_decide_eq_true (by first | (with_reducible assumption) | assumption); obtain ⟨ad120, e120, hx120_0, hx120_1⟩ := at_T40 (Kd.R_reads' HO117.out).2.2 3 p120 q120; cases e120; (try simp only [show (3 : Int).toNat = 3 from rfl, Nat.reduceMul, Nat.reduceEqDiff, Go.Addr.add, ↓reduceIte] at hx120_0); (try simp only [show (3 : Int).toNat = 3 from rfl, Nat.reduceMul, Nat.reduceEqDiff, Go.Addr.add, ↓reduceIte] at hx120_1); have qi120 : (3 < t114.length) = True := eq_true (by omega); (try rw [show ((3 : Int)).toNat = 3 from rfl] at hx120_0); (try rw [show 3 * 2 = 6 from rfl] at hx120_0); (try rw [show ((3 : Int)).toNat = 3 from rfl] at hx120_1); (try rw [show 3 * 2 = 6 from rfl] at hx120_1); replace p120 := eq_true p120; replace q120 := eq_true q120; have p121 : 0 ≤ (5 : Int) := (by omega); have q121 : 5 < (t114.length : Int) := of_decide_eq_true (by first | (with_reducible assumption) | assumption); obtain ⟨ad121, e121, hx121_0, hx121_1⟩ := at_T40 (Kd.R_reads' HO117.out).2.2 5 p121 q121; obtain rfl : ad120 = ad121 := (by injection e121); (try simp only [show (5 : Int).toNat = 5 from rfl, Nat.reduceMul, Nat.reduceEqDiff, Go.Addr.add, ↓reduceIte] at hx121_0); (try simp only [show (5 : Int).toNat = 5 from rfl, Nat.reduceMul, Nat.reduceEqDiff, Go.Addr.add, ↓reduceIte] at hx121_1); have qi121 : (5 < t114.length) = True := eq_true (by omega); (try rw [show ((5 : Int)).toNat = 5 from rfl] at hx121_0); (try rw [show 5 * 2 = 10 from rfl] at hx121_0); (try rw [show ((5 : Int)).toNat = 5 from rfl] at hx121_1); (try rw [show 5 * 2 = 10 from rfl] at hx121_1); replace p121 := eq_true p121; replace q121 := eq_true q121))
                        go_ret
                        exact ⟨by first | rfl | (simp [errW_none, errW_some] <;> rfl) | (simp [*, errW_none, errW_some] <;> rfl), by repeat (first | (with_reducible first | exact HB.out | apply below_alloc | apply pw_below_drewN | apply below_drew1) | exact HB.out)⟩
                    · rw [if_neg c16] at H
                      exact absurd H (by simp)
                  · rw [if_neg c15] at H
                    have c15b0 : (((rd_T40 t114 3).f0) == 0 && (((rd_T40 t114 3).f1) == 1)) = false := by simpa using c15
                    (try (have c15b1 : decide (((rd_T40 t114 3).f0) = 0 && (((rd_T40 t114 3).f1) == 1)) = false := by simpa using c15))
                    (try (have c15b2 : (((rd_T40 t114 3).f0) == 0 && (((rd_T40 t114 3).f1) == 1)) = false := by simpa using c15))
                    (try (have c15b3 : ¬ (((rd_T40 t114 3).f0) = 0 && (((rd_T40 t114 3).f1) == 1)) := by simpa using c15))
                    clear c15
                    obtain rfl := Option.some.inj H
                    go_enter Try.func8, Try.ntmps8
                    go_wp2_with (first | ((with_reducible refine gate_dst (N := 4) rfl ?_); (try (refine gate_guard (by rfl) ?_; dsimp only)); refine Kd.R_make (Kd.int .i64) _ 3 rfl (N := 4) rfl 22 _ _ rfl 65 rfl rfl Try.underlying22 (.int .i64 0) 8 info3 rfl (by decide) (by omega) 0 (ok := fun _ => True) (okp := fun _ => True) rfl (fun _ hk => hk) trivial (by omega) (by omega) (Below.refl _ _) (Nat.le_refl _) ?_; intro v109 w39 ho40 hb hg_ hnew_; clear hg_ hnew_; (first | rw [← Ny108.out] at ho40 | (simp only [Int.reduceToNat] at ho40; rw [← Ny108.out] at ho40)); have n0_ := Aside0.mk (Kd.R_lower ho40 (below_size (by repeat (first | (with_reducible first | exact HB.out | apply below_alloc | apply pw_below_drewN | apply below_drew1) | exact HB.out)))); have n1_ := Aside0.mk (below_step (by repeat (first | (with_reducible first | exact HB.out | apply below_alloc | apply pw_below_drewN | apply below_drew1) | exact HB.out)) hb); clear HB; have HO110 := n0_; have HB := n1_; clear n0_ n1_; clear hb ho40; have p3 : 0 ≤ (3 : Int) := (by omega); have q3 : (3 : Int) < ((y108.length : Int) : Int) := of_decide_eq_true (by first | (with_reducible assumption) | assumption); have qi3 : (3 < y108.length) = True := eq_true (by omega); obtain ⟨go3, co3, eo3, gb3, gl3, cl3, HG3⟩ := Kd.R_form HO110.out (by omega); (first | cases eo3 | (injection eo3 with ea_ en_ ec_; (first | subst ea_ | (injection ea_ with ea_; subst ea_)); subst ec_; clear en_)); have GB3 := Aside0.mk gb3; have GG3 := Aside0.mk HG3; clear gb3 gl3 HG3; obtain ⟨hx3_0, hf3_0⟩ := Kd.R_celln 0 HO110.out (3 : Int) p3 q3; (try rw [show ((3 : Int)).toNat = 3 from rfl] at hx3_0); (try simp only [Nat.reduceMul, Nat.zero_mul, Nat.zero_add, Nat.reduceAdd] at hx3_0); (try rw [show ((3 : Int)).toNat = 3 from rfl] at hf3_0); (try simp only [Nat.reduceMul, Nat.zero_mul, Nat.zero_add, Nat.reduceAdd] at hf3_0); replace p3 := eq_true p3; replace q3 := eq_true q3; obtain ⟨hy41_, hz41_⟩ := Kd.R_celln 0 HO110.out (3 : Int) (by omega) (of_decide_eq_true (by first | (with_reducible assumption) | assumption)); (try simp only [Int.reduceToNat, Int.toNat_zero, Int.toNat_ofNat, Nat.reduceMul, Nat.zero_mul, Nat.zero_add] at hy41_ hz41_); (try rw [show ((3 : Int)).toNat = 3 from rfl] at hy41_); (try rw [show ((3 : Int)).toNat = 3 from rfl] at hz41_); have HP41 := Kd.R_putg HO110.out (3 : Int) 1) | ((with_reducible refine gate_store (t := 3) (p := 6) rfl ?_); refine store_event (t := 3) (p := 6) (v := ?vo_w42) (w1 := (w39.setCell ⟨go3, (3 : Int).toNat, none⟩ (.int .i64 1))) ?hg ?ho ?hn ?hr ?_; (case ho => rfl); (case hg => rfl); (case hn => rfl); (case hr => first | (go_simp; done) | (go_simp; rfl)); intro w42 hw; have hg : w39.grownBy w42 (some go3) := (by rw [hw]; exact HP41.2); have hp_ : Kd.R (Kd.int .i64) 3 w42 w.heap.size (fun _ => True) (.slice (some ⟨go3, 0, none⟩) y108.length co3) y111 := (by rw [hw, Ny111.out]; exact HP41.1); clear HP41; have n0_ := Aside0.mk (hp_); have n1_ := Aside0.mk ((by rw [hw]; exact below_set (HB.out) GB3.out : Below w.heap.size w w42)); clear HO110; clear HB; have HO110 := n0_; have HB := n1_; clear n0_ n1_; clear hg hw hp_; have p5 : 0 ≤ (5 : Int) := (by omega); have q5 : (5 : Int) < ((y108.length : Int) : Int) := of_decide_eq_true (by first | (with_reducible assumption) | assumption); have qi5 : (5 < y108.length) = True := eq_true (by omega); obtain ⟨hx5_0, hf5_0⟩ := Kd.R_celln 0 HO110.out (5 : Int) p5 q5; (try rw [show ((5 : Int)).toNat = 5 from rfl] at hx5_0); (try simp only [Nat.reduceMul, Nat.zero_mul, Nat.zero_add, Nat.reduceAdd] at hx5_0); (try rw [show ((5 : Int)).toNat = 5 from rfl] at hf5_0); (try simp only [Nat.reduceMul, Nat.zero_mul, Nat.zero_add, Nat.reduceAdd] at hf5_0); replace p5 := eq_true p5; replace q5 := eq_true q5; obtain ⟨hy43_, hz43_⟩ := Kd.R_celln 0 HO110.out (5 : Int) (by omega) (of_decide_eq_true (by first | (with_reducible assumption) | assumption)); (try simp only [Int.reduceToNat, Int.toNat_zero, Int.toNat_ofNat, Nat.reduceMul, Nat.zero_mul, Nat.zero_add] at hy43_ hz43_); (try rw [show ((5 : Int)).toNat = 5 from rfl] at hy43_); (try rw [show ((5 : Int)).toNat = 5 from rfl] at hz43_); have HP43 := Kd.R_putg HO110.out (5 : Int) 2) | ((with_reducible refine gate_store (t := 3) (p := 8) rfl ?_); refine store_event (t := 3) (p := 8) (v := ?vo_w44) (w1 := (w42.setCell ⟨go3, (5 : Int).toNat, none⟩ (.int .i64 2))) ?hg ?ho ?hn ?hr ?_; (case ho => rfl); (case hg => rfl); (case hn => rfl); (case hr => first | (go_simp; done) | (go_simp; rfl)); intro w44 hw; have hg : w42.grownBy w44 (some go3) := (by rw [hw]; exact HP43.2); have hp_ : Kd.R (Kd.int .i64) 3 w44 w.heap.size (fun _ => True) (.slice (some ⟨go3, 0, none⟩) y108.length co3) y112 := (by rw [hw, Ny112.out]; exact HP43.1); clear HP43; have n0_ := Aside0.mk (hp_); have n1_ := Aside0.mk ((by rw [hw]; exact below_set (HB.out) GB3.out : Below w.heap.size w w44)); clear HO110; clear HB; have HO110 := n0_; have HB := n1_; clear n0_ n1_; clear hg hw hp_; have p7 : 0 ≤ (64 : Int) := (by omega); have q7 : (64 : Int) < ((y108.length : Int) : Int) := of_decide_eq_true (by first | (with_reducible assumption) | assumption); have qi7 : (64 < y108.length) = True := eq_true (by omega); obtain ⟨hx7_0, hf7_0⟩ := Kd.R_celln 0 HO110.out (64 : Int) p7 q7; (try rw [show ((64 : Int)).toNat = 64 from rfl] at hx7_0); (try simp only [Nat.reduceMul, Nat.zero_mul, Nat.zero_add, Nat.reduceAdd] at hx7_0); (try rw [show ((64 : Int)).toNat = 64 from rfl] at hf7_0); (try simp only [Nat.reduceMul, Nat.zero_mul, Nat.zero_add, Nat.reduceAdd] at hf7_0); replace p7 := eq_true p7; replace q7 := eq_true q7; obtain ⟨hy45_, hz45_⟩ := Kd.R_celln 0 HO110.out (64 : Int) (by omega) (of_decide_eq_true (by first | (with_reducible assumption) | assumption)); (try simp only [Int.reduceToNat, Int.toNat_zero, Int.toNat_ofNat, Nat.reduceMul, Nat.zero_mul, Nat.zero_add] at hy45_ hz45_); (try rw [show ((64 : Int)).toNat = 64 from rfl] at hy45_); (try rw [show ((64 : Int)).toNat = 64 from rfl] at hz45_); have HP45 := Kd.R_putg HO110.out (64 : Int) 2) | ((with_reducible refine gate_store (t := 3) (p := 10) rfl ?_); refine store_event (t := 3) (p := 10) (v := ?vo_w46) (w1 := (w44.setCell ⟨go3, (64 : Int).toNat, none⟩ (.int .i64 2))) ?hg ?ho ?hn ?hr ?_; (case ho => rfl); (case hg => rfl); (case hn => rfl); (case hr => first | (go_simp; done) | (go_simp; rfl)); intro w46 hw; have hg : w44.grownBy w46 (some go3) := (by rw [hw]; exact HP45.2); have hp_ : Kd.R (Kd.int .i64) 3 w46 w.heap.size (fun _ => True) (.slice (some ⟨go3, 0, none⟩) y108.length co3) y113 := (by rw [hw, Ny113.out]; exact HP45.1); clear HP45; have n0_ := Aside0.mk (hp_); have n1_ := Aside0.mk ((by rw [hw]; exact below_set (HB.out) GB3.out : Below w.heap.size w w46)); clear HO110; clear HB; have HO110 := n0_; have HB := n1_; clear n0_ n1_; clear hg hw hp_) | ((with_reducible refine gate_callee (f := 9) rfl ?_); refine goesL_ (some 13) rfl rfl Try.func9 (by kernel_rfl) rfl #[.slice (some ⟨go3, 0, none⟩) y113.length co3] rfl (by (try simp only [List.map_toArray, List.map_cons, List.map_nil]); first | done | (rw [show y113.length = y108.length from (Kd.R_reads' HO110.out).1.symm] <;> rfl) | rfl | (simp only [List.length_drop, List.length_take]; rfl)) ?_; (with_reducible refine (canon_Codes.calls _ _ y113 t114 t115 _ ?side1 ?side2 A8.out).mono ?_); (case side1 => repeat (first | exact (Kd.R_reads' HO110.out).2.2 | (with_reducible refine Kd.C_alloc ?_ _) | (with_reducible refine Kd.C_drewN ?_ _) | (with_reducible refine Kd.C_drew ?_))); (case side2 => rw [show y113.length = y108.length from (Kd.R_reads' HO110.out).1.symm]; exact (Kd.R_reads' HO110.out).2.1); rintro e w47 ⟨v116, rfl, ho0, hb⟩; refine ⟨_, rfl, ?_⟩; have n0_ := Aside0.mk (Kd.R_below (by (with_reducible repeat (first | apply Kd.R_alloc | apply Kd.R_drewN | apply Kd.R_drew)); exact HO110.out) hb); have n1_ := Aside0.mk (Kd.R_lower ho0 (below_size (by repeat (first | (with_reducible first | exact HB.out | apply below_alloc | apply pw_below_drewN | apply below_drew1) | exact HB.out)))); have n2_ := Aside0.mk (below_step (by repeat (first | (with_reducible first | exact HB.out | apply below_alloc | apply pw_below_drewN | apply below_drew1) | exact HB.out)) hb); clear HO110; clear HB; have HO110 := n0_; have HO117 := n1_; have HB := n2_; clear n0_ n1_ n2_; (try clear hb); (try clear hb2); (try clear hk); (try clear hi); (try clear ho0)) | ((with_reducible refine gate_callee (f := 11) rfl ?_); refine goesL_ (some 17) rfl rfl Try.func11 (by kernel_rfl) rfl #[.slice (some ⟨go3, 0, none⟩) y113.length co3] rfl (by (try simp only [List.map_toArray, List.map_cons, List.map_nil]); first | done | (rw [show y113.length = y108.length from (Kd.R_reads' HO110.out).1.symm] <;> rfl) | rfl | (simp only [List.length_drop, List.length_take]; rfl)) ?_; (with_reducible refine (canon_May.calls k _ _ y113 true _ ?side1 ?side2 A9.out).mono ?_); (case side1 => repeat (first | exact (Kd.R_reads' HO110.out).2.2 | (with_reducible refine Kd.C_alloc ?_ _) | (with_reducible refine Kd.C_drewN ?_ _) | (with_reducible refine Kd.C_drew ?_))); (case side2 => rw [show y113.length = y108.length from (Kd.R_reads' HO110.out).1.symm]; exact (Kd.R_reads' HO110.out).2.1); rintro e w' ⟨rfl, ⟨nd, rfl⟩⟩; refine ⟨_, rfl, ?_⟩) | (go_at_call 14; (with_reducible refine (wringerlaw1_Err.calls t115 t119 _ A11.out).mono ?_); rintro e w' ⟨rfl, ⟨nd, rfl⟩⟩; obtain ⟨Ao48, co48, eo48⟩ := Kd.R_slice HO117.out; subst eo48; have p120 : 0 ≤ (3 : Int) := (by omega); have q120 : 3 < (t114.length : Int) := of_decide_eq_true (by first | (with_reducible assumption) | assumption); obtain ⟨ad120, e120, hx120_0, hx120_1⟩ := at_T40 (Kd.R_reads' HO117.out).2.2 3 p120 q120; cases e120; (try simp only [show (3 : Int).toNat = 3 from rfl, Nat.reduceMul, Nat.reduceEqDiff, Go.Addr.add, ↓reduceIte] at hx120_0); (try simp only [show (3 : Int).toNat = 3 from rfl, Nat.reduceMul, Nat.reduceEqDiff, Go.Addr.add, ↓reduceIte] at hx120_1); have qi120 : (3 < t114.length) = True := eq_true (by omega); (try rw [show ((3 : Int)).toNat = 3 from rfl] at hx120_0); (try rw [show 3 * 2 = 6 from rfl] at hx120_0); (try rw [show ((3 : Int)).toNat = 3 from rfl] at hx120_1); (try rw [show 3 * 2 = 6 from rfl] at hx120_1); replace p120 := eq_true p120; replace q120 := eq_true q120))
                    go_ret
                    exact ⟨by first | rfl | (simp [errW_none, errW_some] <;> rfl) | (simp [*, errW_none, errW_some] <;> rfl), by repeat (first | (with_reducible first | exact HB.out | apply below_alloc | apply pw_below_drewN | apply below_drew1) | exact HB.out)⟩
                · rw [if_neg c14] at H
                  exact absurd H (by simp)
              · rw [if_neg c13] at H
                have c13b0 : ((t114.length : Int) == 65) = false := beq_eq_false_iff_ne.mpr c13
                have c13b1 : ((t114.length : Int) != 65) = true := bne_iff_ne.mpr c13
                obtain rfl := Option.some.inj H
                go_enter Try.func8, Try.ntmps8
                go_wp2_with (first | ((with_reducible refine gate_dst (N := 4) rfl ?_); (try (refine gate_guard (by rfl) ?_; dsimp only)); refine Kd.R_make (Kd.int .i64) _ 3 rfl (N := 4) rfl 22 _ _ rfl 65 rfl rfl Try.underlying22 (.int .i64 0) 8 info3 rfl (by decide) (by omega) 0 (ok := fun _ => True) (okp := fun _ => True) rfl (fun _ hk => hk) trivial (by omega) (by omega) (Below.refl _ _) (Nat.le_refl _) ?_; intro v109 w49 ho50 hb hg_ hnew_; clear hg_ hnew_; (first | rw [← Ny108.out] at ho50 | (simp only [Int.reduceToNat] at ho50; rw [← Ny108.out] at ho50)); have n0_ := Aside0.mk (Kd.R_lower ho50 (below_size (by repeat (first | (with_reducible first | exact HB.out | apply below_alloc | apply pw_below_drewN | apply below_drew1) | exact HB.out)))); have n1_ := Aside0.mk (below_step (by repeat (first | (with_reducible first | exact HB.out | apply below_alloc | apply pw_below_drewN | apply below_drew1) | exact HB.out)) hb); clear HB; have HO110 := n0_; have HB := n1_; clear n0_ n1_; clear hb ho50; have p3 : 0 ≤ (3 : Int) := (by omega); have q3 : (3 : Int) < ((y108.length : Int) : Int) := of_decide_eq_true (by first | (with_reducible assumption) | assumption); have qi3 : (3 < y108.length) = True := eq_true (by omega); obtain ⟨go3, co3, eo3, gb3, gl3, cl3, HG3⟩ := Kd.R_form HO110.out (by omega); (first | cases eo3 | (injection eo3 with ea_ en_ ec_; (first | subst ea_ | (injection ea_ with ea_; subst ea_)); subst ec_; clear en_)); have GB3 := Aside0.mk gb3; have GG3 := Aside0.mk HG3; clear gb3 gl3 HG3; obtain ⟨hx3_0, hf3_0⟩ := Kd.R_celln 0 HO110.out (3 : Int) p3 q3; (try rw [show ((3 : Int)).toNat = 3 from rfl] at hx3_0); (try simp only [Nat.reduceMul, Nat.zero_mul, Nat.zero_add, Nat.reduceAdd] at hx3_0); (try rw [show ((3 : Int)).toNat = 3 from rfl] at hf3_0); (try simp only [Nat.reduceMul, Nat.zero_mul, Nat.zero_add, Nat.reduceAdd] at hf3_0); replace p3 := eq_true p3; replace q3 := eq_true q3; obtain ⟨hy51_, hz51_⟩ := Kd.R_celln 0 HO110.out (3 : Int) (by omega) (of_decide_eq_true (by first | (with_reducible assumption) | assumption)); (try simp only [Int.reduceToNat, Int.toNat_zero, Int.toNat_ofNat, Nat.reduceMul, Nat.zero_mul, Nat.zero_add] at hy51_ hz51_); (try rw [show ((3 : Int)).toNat = 3 from rfl] at hy51_); (try rw [show ((3 : Int)).toNat = 3 from rfl] at hz51_); have HP51 := Kd.R_putg HO110.out (3 : Int) 1) | ((with_reducible refine gate_store (t := 3) (p := 6) rfl ?_); refine store_event (t := 3) (p := 6) (v := ?vo_w52) (w1 := (w49.setCell ⟨go3, (3 : Int).toNat, none⟩ (.int .i64 1))) ?hg ?ho ?hn ?hr ?_; (case ho => rfl); (case hg => rfl); (case hn => rfl); (case hr => first | (go_simp; done) | (go_simp; rfl)); intro w52 hw; have hg : w49.grownBy w52 (some go3) := (by rw [hw]; exact HP51.2); have hp_ : Kd.R (Kd.int .i64) 3 w52 w.heap.size (fun _ => True) (.slice (some ⟨go3, 0, none⟩) y108.length co3) y111 := (by rw [hw, Ny111.out]; exact HP51.1); clear HP51; have n0_ := Aside0.mk (hp_); have n1_ := Aside0.mk ((by rw [hw]; exact below_set (HB.out) GB3.out : Below w.heap.size w w52)); clear HO110; clear HB; have HO110 := n0_; have HB := n1_; clear n0_ n1_; clear hg hw hp_; have p5 : 0 ≤ (5 : Int) := (by omega); have q5 : (5 : Int) < ((y108.length : Int) : Int) := of_decide_eq_true (by first | (with_reducible assumption) | assumption); have qi5 : (5 < y108.length) = True := eq_true (by omega); obtain ⟨hx5_0, hf5_0⟩ := Kd.R_celln 0 HO110.out (5 : Int) p5 q5; (try rw [show ((5 : Int)).toNat = 5 from rfl] at hx5_0); (try simp only [Nat.reduceMul, Nat.zero_mul, Nat.zero_add, Nat.reduceAdd] at hx5_0); (try rw [show ((5 : Int)).toNat = 5 from rfl] at hf5_0); (try simp only [Nat.reduceMul, Nat.zero_mul, Nat.zero_add, Nat.reduceAdd] at hf5_0); replace p5 := eq_true p5; replace q5 := eq_true q5; obtain ⟨hy53_, hz53_⟩ := Kd.R_celln 0 HO110.out (5 : Int) (by omega) (of_decide_eq_true (by first | (with_reducible assumption) | assumption)); (try simp only [Int.reduceToNat, Int.toNat_zero, Int.toNat_ofNat, Nat.reduceMul, Nat.zero_mul, Nat.zero_add] at hy53_ hz53_); (try rw [show ((5 : Int)).toNat = 5 from rfl] at hy53_); (try rw [show ((5 : Int)).toNat = 5 from rfl] at hz53_); have HP53 := Kd.R_putg HO110.out (5 : Int) 2) | ((with_reducible refine gate_store (t := 3) (p := 8) rfl ?_); refine store_event (t := 3) (p := 8) (v := ?vo_w54) (w1 := (w52.setCell ⟨go3, (5 : Int).toNat, none⟩ (.int .i64 2))) ?hg ?ho ?hn ?hr ?_; (case ho => rfl); (case hg => rfl); (case hn => rfl); (case hr => first | (go_simp; done) | (go_simp; rfl)); intro w54 hw; have hg : w52.grownBy w54 (some go3) := (by rw [hw]; exact HP53.2); have hp_ : Kd.R (Kd.int .i64) 3 w54 w.heap.size (fun _ => True) (.slice (some ⟨go3, 0, none⟩) y108.length co3) y112 := (by rw [hw, Ny112.out]; exact HP53.1); clear HP53; have n0_ := Aside0.mk (hp_); have n1_ := Aside0.mk ((by rw [hw]; exact below_set (HB.out) GB3.out : Below w.heap.size w w54)); clear HO110; clear HB; have HO110 := n0_; have HB := n1_; clear n0_ n1_; clear hg hw hp_; have p7 : 0 ≤ (64 : Int) := (by omega); have q7 : (64 : Int) < ((y108.length : Int) : Int) := of_decide_eq_true (by first | (with_reducible assumption) | assumption); have qi7 : (64 < y108.length) = True := eq_true (by omega); obtain ⟨hx7_0, hf7_0⟩ := Kd.R_celln 0 HO110.out (64 : Int) p7 q7; (try rw [show ((64 : Int)).toNat = 64 from rfl] at hx7_0); (try simp only [Nat.reduceMul, Nat.zero_mul, Nat.zero_add, Nat.reduceAdd] at hx7_0); (try rw [show ((64 : Int)).toNat = 64 from rfl] at hf7_0); (try simp only [Nat.reduceMul, Nat.zero_mul, Nat.zero_add, Nat.reduceAdd] at hf7_0); replace p7 := eq_true p7; replace q7 := eq_true q7; obtain ⟨hy55_, hz55_⟩ := Kd.R_celln 0 HO110.out (64 : Int) (by omega) (of_decide_eq_true (by first | (with_reducible assumption) | assumption)); (try simp only [Int.reduceToNat, Int.toNat_zero, Int.toNat_ofNat, Nat.reduceMul, Nat.zero_mul, Nat.zero_add] at hy55_ hz55_); (try rw [show ((64 : Int)).toNat = 64 from rfl] at hy55_); (try rw [show ((64 : Int)).toNat = 64 from rfl] at hz55_); have HP55 := Kd.R_putg HO110.out (64 : Int) 2) | ((with_reducible refine gate_store (t := 3) (p := 10) rfl ?_); refine store_event (t := 3) (p := 10) (v := ?vo_w56) (w1 := (w54.setCell ⟨go3, (64 : Int).toNat, none⟩ (.int .i64 2))) ?hg ?ho ?hn ?hr ?_; (case ho => rfl); (case hg => rfl); (case hn => rfl); (case hr => first | (go_simp; done) | (go_simp; rfl)); intro w56 hw; have hg : w54.grownBy w56 (some go3) := (by rw [hw]; exact HP55.2); have hp_ : Kd.R (Kd.int .i64) 3 w56 w.heap.size (fun _ => True) (.slice (some ⟨go3, 0, none⟩) y108.length co3) y113 := (by rw [hw, Ny113.out]; exact HP55.1); clear HP55; have n0_ := Aside0.mk (hp_); have n1_ := Aside0.mk ((by rw [hw]; exact below_set (HB.out) GB3.out : Below w.heap.size w w56)); clear HO110; clear HB; have HO110 := n0_; have HB := n1_; clear n0_ n1_; clear hg hw hp_) | ((with_reducible refine gate_callee (f := 9) rfl ?_); refine goesL_ (some 13) rfl rfl Try.func9 (by kernel_rfl) rfl #[.slice (some ⟨go3, 0, none⟩) y113.length co3] rfl (by (try simp only [List.map_toArray, List.map_cons, List.map_nil]); first | done | (rw [show y113.length = y108.length from (Kd.R_reads' HO110.out).1.symm] <;> rfl) | rfl | (simp only [List.length_drop, List.length_take]; rfl)) ?_; (with_reducible refine (canon_Codes.calls _ _ y113 t114 t115 _ ?side1 ?side2 A8.out).mono ?_); (case side1 => repeat (first | exact (Kd.R_reads' HO110.out).2.2 | (with_reducible refine Kd.C_alloc ?_ _) | (with_reducible refine Kd.C_drewN ?_ _) | (with_reducible refine Kd.C_drew ?_))); (case side2 => rw [show y113.length = y108.length from (Kd.R_reads' HO110.out).1.symm]; exact (Kd.R_reads' HO110.out).2.1); rintro e w57 ⟨v116, rfl, ho0, hb⟩; refine ⟨_, rfl, ?_⟩; have n0_ := Aside0.mk (Kd.R_below (by (with_reducible repeat (first | apply Kd.R_alloc | apply Kd.R_drewN | apply Kd.R_drew)); exact HO110.out) hb); have n1_ := Aside0.mk (Kd.R_lower ho0 (below_size (by repeat (first | (with_reducible first | exact HB.out | apply below_alloc | apply pw_below_drewN | apply below_drew1) | exact HB.out)))); have n2_ := Aside0.mk (below_step (by repeat (first | (with_reducible first | exact HB.out | apply below_alloc | apply pw_below_drewN | apply below_drew1) | exact HB.out)) hb); clear HO110; clear HB; have HO110 := n0_; have HO117 := n1_; have HB := n2_; clear n0_ n1_ n2_; (try clear hb); (try clear hb2); (try clear hk); (try clear hi); (try clear ho0)) | ((with_reducible refine gate_callee (f := 11) rfl ?_); refine goesL_ (some 17) rfl rfl Try.func11 (by kernel_rfl) rfl #[.slice (some ⟨go3, 0, none⟩) y113.length co3] rfl (by (try simp only [List.map_toArray, List.map_cons, List.map_nil]); first | done | (rw [show y113.length = y108.length from (Kd.R_reads' HO110.out).1.symm] <;> rfl) | rfl | (simp only [List.length_drop, List.length_take]; rfl)) ?_; (with_reducible refine (canon_May.calls k _ _ y113 true _ ?side1 ?side2 A9.out).mono ?_); (case side1 => repeat (first | exact (Kd.R_reads' HO110.out).2.2 | (with_reducible refine Kd.C_alloc ?_ _) | (with_reducible refine Kd.C_drewN ?_ _) | (with_reducible refine Kd.C_drew ?_))); (case side2 => rw [show y113.length = y108.length from (Kd.R_reads' HO110.out).1.symm]; exact (Kd.R_reads' HO110.out).2.1); rintro e w' ⟨rfl, ⟨nd, rfl⟩⟩; refine ⟨_, rfl, ?_⟩) | (go_at_call 14; (with_reducible refine (wringerlaw1_Err.calls t115 t119 _ A11.out).mono ?_); rintro e w' ⟨rfl, ⟨nd, rfl⟩⟩; obtain ⟨Ao58, co58, eo58⟩ := Kd.R_slice HO117.out; subst eo58))
                go_ret
                exact ⟨by first | rfl | (simp [errW_none, errW_some] <;> rfl) | (simp [*, errW_none, errW_some] <;> rfl), by repeat (first | (with_reducible first | exact HB.out | apply below_alloc | apply pw_below_drewN | apply below_drew1) | exact HB.out)⟩
            · rw [if_neg c12] at H
              have c12b0 : (t119 == 0) = false := beq_eq_false_iff_ne.mpr c12
              have c12b1 : (t119 != 0) = true := bne_iff_ne.mpr c12
              obtain rfl := Option.some.inj H
              go_enter Try.func8, Try.ntmps8
              go_wp2_with (first | ((with_reducible refine gate_dst (N := 4) rfl ?_); (try (refine gate_guard (by rfl) ?_; dsimp only)); refine Kd.R_make (Kd.int .i64) _ 3 rfl (N := 4) rfl 22 _ _ rfl 65 rfl rfl Try.underlying22 (.int .i64 0) 8 info3 rfl (by decide) (by omega) 0 (ok := fun _ => True) (okp := fun _ => True) rfl (fun _ hk => hk) trivial (by omega) (by omega) (Below.refl _ _) (Nat.le_refl _) ?_; intro v109 w59 ho60 hb hg_ hnew_; clear hg_ hnew_; (first | rw [← Ny108.out] at ho60 | (simp only [Int.reduceToNat] at ho60; rw [← Ny108.out] at ho60)); have n0_ := Aside0.mk (Kd.R_lower ho60 (below_size (by repeat (first | (with_reducible first | exact HB.out | apply below_alloc | apply pw_below_drewN | apply below_drew1) | exact HB.out)))); have n1_ := Aside0.mk (below_step (by repeat (first | (with_reducible first | exact HB.out | apply below_alloc | apply pw_below_drewN | apply below_drew1) | exact HB.out)) hb); clear HB; have HO110 := n0_; have HB := n1_; clear n0_ n1_; clear hb ho60; have p3 : 0 ≤ (3 : Int) := (by omega); have q3 : (3 : Int) < ((y108.length : Int) : Int) := of_decide_eq_true (by first | (with_reducible assumption) | assumption); have qi3 : (3 < y108.length) = True := eq_true (by omega); obtain ⟨go3, co3, eo3, gb3, gl3, cl3, HG3⟩ := Kd.R_form HO110.out (by omega); (first | cases eo3 | (injection eo3 with ea_ en_ ec_; (first | subst ea_ | (injection ea_ with ea_; subst ea_)); subst ec_; clear en_)); have GB3 := Aside0.mk gb3; have GG3 := Aside0.mk HG3; clear gb3 gl3 HG3; obtain ⟨hx3_0, hf3_0⟩ := Kd.R_celln 0 HO110.out (3 : Int) p3 q3; (try rw [show ((3 : Int)).toNat = 3 from rfl] at hx3_0); (try simp only [Nat.reduceMul, Nat.zero_mul, Nat.zero_add, Nat.reduceAdd] at hx3_0); (try rw [show ((3 : Int)).toNat = 3 from rfl] at hf3_0); (try simp only [Nat.reduceMul, Nat.zero_mul, Nat.zero_add, Nat.reduceAdd] at hf3_0); replace p3 := eq_true p3; replace q3 := eq_true q3; obtain ⟨hy61_, hz61_⟩ := Kd.R_celln 0 HO110.out (3 : Int) (by omega) (of_decide_eq_true (by first | (with_reducible assumption) | assumption)); (try simp only [Int.reduceToNat, Int.toNat_zero, Int.toNat_ofNat, Nat.reduceMul, Nat.zero_mul, Nat.zero_add] at hy61_ hz61_); (try rw [show ((3 : Int)).toNat = 3 from rfl] at hy61_); (try rw [show ((3 : Int)).toNat = 3 from rfl] at hz61_); have HP61 := Kd.R_putg HO110.out (3 : Int) 1) | ((with_reducible refine gate_store (t := 3) (p := 6) rfl ?_); refine store_event (t := 3) (p := 6) (v := ?vo_w62) (w1 := (w59.setCell ⟨go3, (3 : Int).toNat, none⟩ (.int .i64 1))) ?hg ?ho ?hn ?hr ?_; (case ho => rfl); (case hg => rfl); (case hn => rfl); (case hr => first | (go_simp; done) | (go_simp; rfl)); intro w62 hw; have hg : w59.grownBy w62 (some go3) := (by rw [hw]; exact HP61.2); have hp_ : Kd.R (Kd.int .i64) 3 w62 w.heap.size (fun _ => True) (.slice (some ⟨go3, 0, none⟩) y108.length co3) y111 := (by rw [hw, Ny111.out]; exact HP61.1); clear HP61; have n0_ := Aside0.mk (hp_); have n1_ := Aside0.mk ((by rw [hw]; exact below_set (HB.out) GB3.out : Below w.heap.size w w62)); clear HO110; clear HB; have HO110 := n0_; have HB := n1_; clear n0_ n1_; clear hg hw hp_; have p5 : 0 ≤ (5 : Int) := (by omega); have q5 : (5 : Int) < ((y108.length : Int) : Int) := of_decide_eq_true (by first | (with_reducible assumption) | assumption); have qi5 : (5 < y108.length) = True := eq_true (by omega); obtain ⟨hx5_0, hf5_0⟩ := Kd.R_celln 0 HO110.out (5 : Int) p5 q5; (try rw [show ((5 : Int)).toNat = 5 from rfl] at hx5_0); (try simp only [Nat.reduceMul, Nat.zero_mul, Nat.zero_add, Nat.reduceAdd] at hx5_0); (try rw [show ((5 : Int)).toNat = 5 from rfl] at hf5_0); (try simp only [Nat.reduceMul, Nat.zero_mul, Nat.zero_add, Nat.reduceAdd] at hf5_0); replace p5 := eq_true p5; replace q5 := eq_true q5; obtain ⟨hy63_, hz63_⟩ := Kd.R_celln 0 HO110.out (5 : Int) (by omega) (of_decide_eq_true (by first | (with_reducible assumption) | assumption)); (try simp only [Int.reduceToNat, Int.toNat_zero, Int.toNat_ofNat, Nat.reduceMul, Nat.zero_mul, Nat.zero_add] at hy63_ hz63_); (try rw [show ((5 : Int)).toNat = 5 from rfl] at hy63_); (try rw [show ((5 : Int)).toNat = 5 from rfl] at hz63_); have HP63 := Kd.R_putg HO110.out (5 : Int) 2) | ((with_reducible refine gate_store (t := 3) (p := 8) rfl ?_); refine store_event (t := 3) (p := 8) (v := ?vo_w64) (w1 := (w62.setCell ⟨go3, (5 : Int).toNat, none⟩ (.int .i64 2))) ?hg ?ho ?hn ?hr ?_; (case ho => rfl); (case hg => rfl); (case hn => rfl); (case hr => first | (go_simp; done) | (go_simp; rfl)); intro w64 hw; have hg : w62.grownBy w64 (some go3) := (by rw [hw]; exact HP63.2); have hp_ : Kd.R (Kd.int .i64) 3 w64 w.heap.size (fun _ => True) (.slice (some ⟨go3, 0, none⟩) y108.length co3) y112 := (by rw [hw, Ny112.out]; exact HP63.1); clear HP63; have n0_ := Aside0.mk (hp_); have n1_ := Aside0.mk ((by rw [hw]; exact below_set (HB.out) GB3.out : Below w.heap.size w w64)); clear HO110; clear HB; have HO110 := n0_; have HB := n1_; clear n0_ n1_; clear hg hw hp_; have p7 : 0 ≤ (64 : Int) := (by omega); have q7 : (64 : Int) < ((y108.length : Int) : Int) := of_decide_eq_true (by first | (with_reducible assumption) | assumption); have qi7 : (64 < y108.length) = True := eq_true (by omega); obtain ⟨hx7_0, hf7_0⟩ := Kd.R_celln 0 HO110.out (64 : Int) p7 q7; (try rw [show ((64 : Int)).toNat = 64 from rfl] at hx7_0); (try simp only [Nat.reduceMul, Nat.zero_mul, Nat.zero_add, Nat.reduceAdd] at hx7_0); (try rw [show ((64 : Int)).toNat = 64 from rfl] at hf7_0); (try simp only [Nat.reduceMul, Nat.zero_mul, Nat.zero_add, Nat.reduceAdd] at hf7_0); replace p7 := eq_true p7; replace q7 := eq_true q7; obtain ⟨hy65_, hz65_⟩ := Kd.R_celln 0 HO110.out (64 : Int) (by omega) (of_decide_eq_true (by first | (with_reducible assumption) | assumption)); (try simp only [Int.reduceToNat, Int.toNat_zero, Int.toNat_ofNat, Nat.reduceMul, Nat.zero_mul, Nat.zero_add] at hy65_ hz65_); (try rw [show ((64 : Int)).toNat = 64 from rfl] at hy65_); (try rw [show ((64 : Int)).toNat = 64 from rfl] at hz65_); have HP65 := Kd.R_putg HO110.out (64 : Int) 2) | ((with_reducible refine gate_store (t := 3) (p := 10) rfl ?_); refine store_event (t := 3) (p := 10) (v := ?vo_w66) (w1 := (w64.setCell ⟨go3, (64 : Int).toNat, none⟩ (.int .i64 2))) ?hg ?ho ?hn ?hr ?_; (case ho => rfl); (case hg => rfl); (case hn => rfl); (case hr => first | (go_simp; done) | (go_simp; rfl)); intro w66 hw; have hg : w64.grownBy w66 (some go3) := (by rw [hw]; exact HP65.2); have hp_ : Kd.R (Kd.int .i64) 3 w66 w.heap.size (fun _ => True) (.slice (some ⟨go3, 0, none⟩) y108.length co3) y113 := (by rw [hw, Ny113.out]; exact HP65.1); clear HP65; have n0_ := Aside0.mk (hp_); have n1_ := Aside0.mk ((by rw [hw]; exact below_set (HB.out) GB3.out : Below w.heap.size w w66)); clear HO110; clear HB; have HO110 := n0_; have HB := n1_; clear n0_ n1_; clear hg hw hp_) | ((with_reducible refine gate_callee (f := 9) rfl ?_); refine goesL_ (some 13) rfl rfl Try.func9 (by kernel_rfl) rfl #[.slice (some ⟨go3, 0, none⟩) y113.length co3] rfl (by (try simp only [List.map_toArray, List.map_cons, List.map_nil]); first | done | (rw [show y113.length = y108.length from (Kd.R_reads' HO110.out).1.symm] <;> rfl) | rfl | (simp only [List.length_drop, List.length_take]; rfl)) ?_; (with_reducible refine (canon_Codes.calls _ _ y113 t114 t115 _ ?side1 ?side2 A8.out).mono ?_); (case side1 => repeat (first | exact (Kd.R_reads' HO110.out).2.2 | (with_reducible refine Kd.C_alloc ?_ _) | (with_reducible refine Kd.C_drewN ?_ _) | (with_reducible refine Kd.C_drew ?_))); (case side2 => rw [show y113.length = y108.length from (Kd.R_reads' HO110.out).1.symm]; exact (Kd.R_reads' HO110.out).2.1); rintro e w67 ⟨v116, rfl, ho0, hb⟩; refine ⟨_, rfl, ?_⟩; have n0_ := Aside0.mk (Kd.R_below (by (with_reducible repeat (first | apply Kd.R_alloc | apply Kd.R_drewN | apply Kd.R_drew)); exact HO110.out) hb); have n1_ := Aside0.mk (Kd.R_lower ho0 (below_size (by repeat (first | (with_reducible first | exact HB.out | apply below_alloc | apply pw_below_drewN | apply below_drew1) | exact HB.out)))); have n2_ := Aside0.mk (below_step (by repeat (first | (with_reducible first | exact HB.out | apply below_alloc | apply pw_below_drewN | apply below_drew1) | exact HB.out)) hb); clear HO110; clear HB; have HO110 := n0_; have HO117 := n1_; have HB := n2_; clear n0_ n1_ n2_; (try clear hb); (try clear hb2); (try clear hk); (try clear hi); (try clear ho0)) | ((with_reducible refine gate_callee (f := 11) rfl ?_); refine goesL_ (some 17) rfl rfl Try.func11 (by kernel_rfl) rfl #[.slice (some ⟨go3, 0, none⟩) y113.length co3] rfl (by (try simp only [List.map_toArray, List.map_cons, List.map_nil]); first | done | (rw [show y113.length = y108.length from (Kd.R_reads' HO110.out).1.symm] <;> rfl) | rfl | (simp only [List.length_drop, List.length_take]; rfl)) ?_; (with_reducible refine (canon_May.calls k _ _ y113 true _ ?side1 ?side2 A9.out).mono ?_); (case side1 => repeat (first | exact (Kd.R_reads' HO110.out).2.2 | (with_reducible refine Kd.C_alloc ?_ _) | (with_reducible refine Kd.C_drewN ?_ _) | (with_reducible refine Kd.C_drew ?_))); (case side2 => rw [show y113.length = y108.length from (Kd.R_reads' HO110.out).1.symm]; exact (Kd.R_reads' HO110.out).2.1); rintro e w' ⟨rfl, ⟨nd, rfl⟩⟩; refine ⟨_, rfl, ?_⟩) | (go_at_call 14; (with_reducible refine (wringerlaw1_Err.calls t115 t119 _ A11.out).mono ?_); rintro e w' ⟨rfl, ⟨nd, rfl⟩⟩))
              go_ret
              exact ⟨by first | rfl | (simp [errW_none, errW_some] <;> rfl) | (simp [*, errW_none, errW_some] <;> rfl), by repeat (first | (with_reducible first | exact HB.out | apply below_alloc | apply pw_below_drewN | apply below_drew1) | exact HB.out)⟩
          · replace c10 := Bool.eq_false_iff.mpr c10
            subst c10
            have H1 : (some false) = some r := by rw [if_neg (show ¬ (false = true) by decide)] at H; exact H
            clear H
            have H := H1
            clear H1
            obtain rfl := Option.some.inj H
            go_enter Try.func8, Try.ntmps8
            go_wp2_with (first | ((with_reducible refine gate_dst (N := 4) rfl ?_); (try (refine gate_guard (by rfl) ?_; dsimp only)); refine Kd.R_make (Kd.int .i64) _ 3 rfl (N := 4) rfl 22 _ _ rfl 65 rfl rfl Try.underlying22 (.int .i64 0) 8 info3 rfl (by decide) (by omega) 0 (ok := fun _ => True) (okp := fun _ => True) rfl (fun _ hk => hk) trivial (by omega) (by omega) (Below.refl _ _) (Nat.le_refl _) ?_; intro v109 w68 ho69 hb hg_ hnew_; clear hg_ hnew_; (first | rw [← Ny108.out] at ho69 | (simp only [Int.reduceToNat] at ho69; rw [← Ny108.out] at ho69)); have n0_ := Aside0.mk (Kd.R_lower ho69 (below_size (by repeat (first | (with_reducible first | exact HB.out | apply below_alloc | apply pw_below_drewN | apply below_drew1) | exact HB.out)))); have n1_ := Aside0.mk (below_step (by repeat (first | (with_reducible first | exact HB.out | apply below_alloc | apply pw_below_drewN | apply below_drew1) | exact HB.out)) hb); clear HB; have HO110 := n0_; have HB := n1_; clear n0_ n1_; clear hb ho69; have p3 : 0 ≤ (3 : Int) := (by omega); have q3 : (3 : Int) < ((y108.length : Int) : Int) := of_decide_eq_true (by first | (with_reducible assumption) | assumption); have qi3 : (3 < y108.length) = True := eq_true (by omega); obtain ⟨go3, co3, eo3, gb3, gl3, cl3, HG3⟩ := Kd.R_form HO110.out (by omega); (first | cases eo3 | (injection eo3 with ea_ en_ ec_; (first | subst ea_ | (injection ea_ with ea_; subst ea_)); subst ec_; clear en_)); have GB3 := Aside0.mk gb3; have GG3 := Aside0.mk HG3; clear gb3 gl3 HG3; obtain ⟨hx3_0, hf3_0⟩ := Kd.R_celln 0 HO110.out (3 : Int) p3 q3; (try rw [show ((3 : Int)).toNat = 3 from rfl] at hx3_0); (try simp only [Nat.reduceMul, Nat.zero_mul, Nat.zero_add, Nat.reduceAdd] at hx3_0); (try rw [show ((3 : Int)).toNat = 3 from rfl] at hf3_0); (try simp only [Nat.reduceMul, Nat.zero_mul, Nat.zero_add, Nat.reduceAdd] at hf3_0); replace p3 := eq_true p3; replace q3 := eq_true q3; obtain ⟨hy70_, hz70_⟩ := Kd.R_celln 0 HO110.out (3 : Int) (by omega) (of_decide_eq_true (by first | (with_reducible assumption) | assumption)); (try simp only [Int.reduceToNat, Int.toNat_zero, Int.toNat_ofNat, Nat.reduceMul, Nat.zero_mul, Nat.zero_add] at hy70_ hz70_); (try rw [show ((3 : Int)).toNat = 3 from rfl] at hy70_); (try rw [show ((3 : Int)).toNat = 3 from rfl] at hz70_); have HP70 := Kd.R_putg HO110.out (3 : Int) 1) | ((with_reducible refine gate_store (t := 3) (p := 6) rfl ?_); refine store_event (t := 3) (p := 6) (v := ?vo_w71) (w1 := (w68.setCell ⟨go3, (3 : Int).toNat, none⟩ (.int .i64 1))) ?hg ?ho ?hn ?hr ?_; (case ho => rfl); (case hg => rfl); (case hn => rfl); (case hr => first | (go_simp; done) | (go_simp; rfl)); intro w71 hw; have hg : w68.grownBy w71 (some go3) := (by rw [hw]; exact HP70.2); have hp_ : Kd.R (Kd.int .i64) 3 w71 w.heap.size (fun _ => True) (.slice (some ⟨go3, 0, none⟩) y108.length co3) y111 := (by rw [hw, Ny111.out]; exact HP70.1); clear HP70; have n0_ := Aside0.mk (hp_); have n1_ := Aside0.mk ((by rw [hw]; exact below_set (HB.out) GB3.out : Below w.heap.size w w71)); clear HO110; clear HB; have HO110 := n0_; have HB := n1_; clear n0_ n1_; clear hg hw hp_; have p5 : 0 ≤ (5 : Int) := (by omega); have q5 : (5 : Int) < ((y108.length : Int) : Int) := of_decide_eq_true (by first | (with_reducible assumption) | assumption); have qi5 : (5 < y108.length) = True := eq_true (by omega); obtain ⟨hx5_0, hf5_0⟩ := Kd.R_celln 0 HO110.out (5 : Int) p5 q5; (try rw [show ((5 : Int)).toNat = 5 from rfl] at hx5_0); (try simp only [Nat.reduceMul, Nat.zero_mul, Nat.zero_add, Nat.reduceAdd] at hx5_0); (try rw [show ((5 : Int)).toNat = 5 from rfl] at hf5_0); (try simp only [Nat.reduceMul, Nat.zero_mul, Nat.zero_add, Nat.reduceAdd] at hf5_0); replace p5 := eq_true p5; replace q5 := eq_true q5; obtain ⟨hy72_, hz72_⟩ := Kd.R_celln 0 HO110.out (5 : Int) (by omega) (of_decide_eq_true (by first | (with_reducible assumption) | assumption)); (try simp only [Int.reduceToNat, Int.toNat_zero, Int.toNat_ofNat, Nat.reduceMul, Nat.zero_mul, Nat.zero_add] at hy72_ hz72_); (try rw [show ((5 : Int)).toNat = 5 from rfl] at hy72_); (try rw [show ((5 : Int)).toNat = 5 from rfl] at hz72_); have HP72 := Kd.R_putg HO110.out (5 : Int) 2) | ((with_reducible refine gate_store (t := 3) (p := 8) rfl ?_); refine store_event (t := 3) (p := 8) (v := ?vo_w73) (w1 := (w71.setCell ⟨go3, (5 : Int).toNat, none⟩ (.int .i64 2))) ?hg ?ho ?hn ?hr ?_; (case ho => rfl); (case hg => rfl); (case hn => rfl); (case hr => first | (go_simp; done) | (go_simp; rfl)); intro w73 hw; have hg : w71.grownBy w73 (some go3) := (by rw [hw]; exact HP72.2); have hp_ : Kd.R (Kd.int .i64) 3 w73 w.heap.size (fun _ => True) (.slice (some ⟨go3, 0, none⟩) y108.length co3) y112 := (by rw [hw, Ny112.out]; exact HP72.1); clear HP72; have n0_ := Aside0.mk (hp_); have n1_ := Aside0.mk ((by rw [hw]; exact below_set (HB.out) GB3.out : Below w.heap.size w w73)); clear HO110; clear HB; have HO110 := n0_; have HB := n1_; clear n0_ n1_; clear hg hw hp_; have p7 : 0 ≤ (64 : Int) := (by omega); have q7 : (64 : Int) < ((y108.length : Int) : Int) := of_decide_eq_true (by first | (with_reducible assumption) | assumption); have qi7 : (64 < y108.length) = True := eq_true (by omega); obtain ⟨hx7_0, hf7_0⟩ := Kd.R_celln 0 HO110.out (64 : Int) p7 q7; (try rw [show ((64 : Int)).toNat = 64 from rfl] at hx7_0); (try simp only [Nat.reduceMul, Nat.zero_mul, Nat.zero_add, Nat.reduceAdd] at hx7_0); (try rw [show ((64 : Int)).toNat = 64 from rfl] at hf7_0); (try simp only [Nat.reduceMul, Nat.zero_mul, Nat.zero_add, Nat.reduceAdd] at hf7_0); replace p7 := eq_true p7; replace q7 := eq_true q7; obtain ⟨hy74_, hz74_⟩ := Kd.R_celln 0 HO110.out (64 : Int) (by omega) (of_decide_eq_true (by first | (with_reducible assumption) | assumption)); (try simp only [Int.reduceToNat, Int.toNat_zero, Int.toNat_ofNat, Nat.reduceMul, Nat.zero_mul, Nat.zero_add] at hy74_ hz74_); (try rw [show ((64 : Int)).toNat = 64 from rfl] at hy74_); (try rw [show ((64 : Int)).toNat = 64 from rfl] at hz74_); have HP74 := Kd.R_putg HO110.out (64 : Int) 2) | ((with_reducible refine gate_store (t := 3) (p := 10) rfl ?_); refine store_event (t := 3) (p := 10) (v := ?vo_w75) (w1 := (w73.setCell ⟨go3, (64 : Int).toNat, none⟩ (.int .i64 2))) ?hg ?ho ?hn ?hr ?_; (case ho => rfl); (case hg => rfl); (case hn => rfl); (case hr => first | (go_simp; done) | (go_simp; rfl)); intro w75 hw; have hg : w73.grownBy w75 (some go3) := (by rw [hw]; exact HP74.2); have hp_ : Kd.R (Kd.int .i64) 3 w75 w.heap.size (fun _ => True) (.slice (some ⟨go3, 0, none⟩) y108.length co3) y113 := (by rw [hw, Ny113.out]; exact HP74.1); clear HP74; have n0_ := Aside0.mk (hp_); have n1_ := Aside0.mk ((by rw [hw]; exact below_set (HB.out) GB3.out : Below w.heap.size w w75)); clear HO110; clear HB; have HO110 := n0_; have HB := n1_; clear n0_ n1_; clear hg hw hp_) | ((with_reducible refine gate_callee (f := 9) rfl ?_); refine goesL_ (some 13) rfl rfl Try.func9 (by kernel_rfl) rfl #[.slice (some ⟨go3, 0, none⟩) y113.length co3] rfl (by (try simp only [List.map_toArray, List.map_cons, List.map_nil]); first | done | (rw [show y113.length = y108.length from (Kd.R_reads' HO110.out).1.symm] <;> rfl) | rfl | (simp only [List.length_drop, List.length_take]; rfl)) ?_; (with_reducible refine (canon_Codes.calls _ _ y113 t114 t115 _ ?side1 ?side2 A8.out).mono ?_); (case side1 => repeat (first | exact (Kd.R_reads' HO110.out).2.2 | (with_reducible refine Kd.C_alloc ?_ _) | (with_reducible refine Kd.C_drewN ?_ _) | (with_reducible refine Kd.C_drew ?_))); (case side2 => rw [show y113.length = y108.length from (Kd.R_reads' HO110.out).1.symm]; exact (Kd.R_reads' HO110.out).2.1); rintro e w76 ⟨v116, rfl, ho0, hb⟩; refine ⟨_, rfl, ?_⟩; have n0_ := Aside0.mk (Kd.R_below (by (with_reducible repeat (first | apply Kd.R_alloc | apply Kd.R_drewN | apply Kd.R_drew)); exact HO110.out) hb); have n1_ := Aside0.mk (Kd.R_lower ho0 (below_size (by repeat (first | (with_reducible first | exact HB.out | apply below_alloc | apply pw_below_drewN | apply below_drew1) | exact HB.out)))); have n2_ := Aside0.mk (below_step (by repeat (first | (with_reducible first | exact HB.out | apply below_alloc | apply pw_below_drewN | apply below_drew1) | exact HB.out)) hb); clear HO110; clear HB; have HO110 := n0_; have HO117 := n1_; have HB := n2_; clear n0_ n1_ n2_; (try clear hb); (try clear hb2); (try clear hk); (try clear hi); (try clear ho0)) | ((with_reducible refine gate_callee (f := 11) rfl ?_); refine goesL_ (some 17) rfl rfl Try.func11 (by kernel_rfl) rfl #[.slice (some ⟨go3, 0, none⟩) y113.length co3] rfl (by (try simp only [List.map_toArray, List.map_cons, List.map_nil]); first | done | (rw [show y113.length = y108.length from (Kd.R_reads' HO110.out).1.symm] <;> rfl) | rfl | (simp only [List.length_drop, List.length_take]; rfl)) ?_; (with_reducible refine (canon_May.calls k _ _ y113 false _ ?side1 ?side2 A9.out).mono ?_); (case side1 => repeat (first | exact (Kd.R_reads' HO110.out).2.2 | (with_reducible refine Kd.C_alloc ?_ _) | (with_reducible refine Kd.C_drewN ?_ _) | (with_reducible refine Kd.C_drew ?_))); (case side2 => rw [show y113.length = y108.length from (Kd.R_reads' HO110.out).1.symm]; exact (Kd.R_reads' HO110.out).2.1); rintro e w' ⟨rfl, ⟨nd, rfl⟩⟩; refine ⟨_, rfl, ?_⟩))
            go_ret
            exact ⟨by first | rfl | (simp [errW_none, errW_some] <;> rfl) | (simp [*, errW_none, errW_some] <;> rfl), by repeat (first | (with_reducible first | exact HB.out | apply below_alloc | apply pw_below_drewN | apply below_drew1) | exact HB.out)⟩
        · rw [if_neg c6] at H
          exact absurd H (by simp)
      · rw [if_neg c4] at H
        exact absurd H (by simp)
    · rw [if_neg c2] at H
      exact absurd H (by simp)
  · rw [if_neg c1] at H
    exact absurd H (by simp)

end Go.Proofs.Ytkdmamffbhlbgaa.PA

-- ---- Uk
/- The document's codes: what the print's functions come to. No program in sight. -/
namespace Go.Proofs.Ytkdmamffbhlbgaa.PA
set_option linter.unusedVariables false
set_option linter.unusedSimpArgs false
open Go.RowKit Go.Proofs.YtkdmamffbhlbgaaW.PrintWords Go.Proofs.YtkdmamffbhlbgaaW.PrintLast Go.Proofs.YtkdmamffbhlbgaaW.PrintMore Dp Cd

abbrev CodeS := S40
abbrev zC : CodeS := z40
theorem awake9 : Ev (fun k => wringerlaw9_awake.f k) true := Ev.of wringerlaw9_awake.mono (k := 400) (by kernel_rfl)

/-- Those that are told by now: all shorter ones, and of this length those ahead of place i. -/
def dn (l : List Int) (n i : Nat) : List Nat := ((List.range' 1 (n - 1)).flatMap fun m : Nat => (List.range l.length).filter fun j => l.getD j 0 == (m : Int)) ++ (List.range i).filter fun j => l.getD j 0 == (n : Int)
theorem dn_first (l : List Int) : dn l 1 0 = [] := by simp [dn]
theorem dn_step (l : List Int) (n i : Nat) : dn l n (i + 1) = dn l n i ++ (if l.getD i 0 = (n : Int) then [i] else []) := by
  unfold dn
  rw [List.range_succ, List.filter_append, ← List.append_assoc]
  congr 1
  by_cases h : l.getD i 0 = (n : Int)
  · rw [if_pos h]; simp only [List.filter_cons, List.filter_nil, h]; simp
  · rw [if_neg h]; simp only [List.filter_cons, List.filter_nil]; rw [if_neg (by rw [beq_iff_eq]; exact h)]
theorem dn_next (l : List Int) (n : Nat) (h : 1 ≤ n) : dn l (n + 1) 0 = dn l n l.length := by
  unfold dn
  rw [show n + 1 - 1 = (n - 1) + 1 by omega, List.range'_1_concat, List.flatMap_append]
  simp [show 1 + (n - 1) = n by omega]
theorem dn_last (l : List Int) : dn l 16 0 = ordS l := by unfold dn ordS; simp
theorem dn_sub (l : List Int) (n i : Nat) (h1 : 1 ≤ n) (h2 : n ≤ 15) (hi : i ≤ l.length) : (dn l n i).Sublist (ordS l) := by
  have e : List.range' 1 15 = List.range' 1 (n - 1) ++ (n :: List.range' (n + 1) (15 - n)) := by
    have h3 := List.range'_append_1 (s := 1) (m := n - 1) (n := 15 - (n - 1))
    rw [show n - 1 + (15 - (n - 1)) = 15 by omega] at h3
    rw [← h3, show 15 - (n - 1) = (15 - n) + 1 by omega, List.range'_succ, show 1 + (n - 1) = n by omega]
  unfold dn ordS
  rw [e, List.flatMap_append, List.flatMap_cons]
  refine List.Sublist.append_left ?_ _
  refine List.Sublist.trans ?_ (List.sublist_append_left _ _)
  exact (List.range_sublist.2 hi).filter _
theorem kd_sub (l : List Int) {a b : List Nat} (h : a.Sublist b) : kd l a ≤ kd l b := by
  unfold kd
  induction h with
  | slnil => exact Nat.le_refl _
  | cons x _ ih => rw [List.map_cons, List.sum_cons]; exact Nat.le_trans ih (Nat.le_add_left _ _)
  | cons_cons x _ ih => rw [List.map_cons, List.map_cons, List.sum_cons, List.sum_cons]; omega
theorem cst_zero (l : List Int) (done : List Nat) (hm : ∀ c ∈ done, 1 ≤ l.getD c 0) : (cst l done).2.2 = 0 → (cst l done).2.1 = 0 := by
  have key : ∀ (d : List Nat) (s : List (Int × Int) × (Nat × Nat)), (∀ c ∈ d, 1 ≤ l.getD c 0) → (s.2.2 = 0 → s.2.1 = 0) → (d.foldl (cstep l) s).2.2 = 0 → (d.foldl (cstep l) s).2.1 = 0 := by
    intro d
    induction d with
    | nil => intro s _ h; exact h
    | cons a t ih =>
      intro s hm h
      refine ih _ (fun c hc => hm c (List.mem_cons_of_mem _ hc)) fun h0 => ?_
      have h1 : (nx s.2 (l.getD a 0).toNat).2 = (l.getD a 0).toNat := by unfold nx; split <;> rfl
      have h2 : (nx s.2 (l.getD a 0).toNat).2 = 0 := h0
      have := hm a (by simp)
      omega
  exact key done _ hm (fun _ => rfl)

theorem may_range {l : List Int} (h : mayL l = true) : l.length = 65 ∧ ∀ x ∈ l, 0 ≤ x ∧ x ≤ 15 := by
  unfold mayL at h; rw [decide_eq_true_eq] at h; exact ⟨h.1, h.2.1⟩
theorem shl_pow (x d : Nat) (h : (x + 1) * 2 ^ d ≤ 32768) (hd : d ≤ 15) : shl .i64 (wrap64 ((x : Int) + 1)) (d : Int) = (((x + 1) * 2 ^ d : Nat) : Int) := by
  have h1 : 1 ≤ 2 ^ d := Nat.pow_pos (by decide)
  have h2 : (x + 1) * 1 ≤ (x + 1) * 2 ^ d := Nat.mul_le_mul_left _ h1
  rw [w64 (by omega) (by omega), show ((x : Int) + 1) = ((x + 1 : Nat) : Int) by omega, shl_nat (x + 1) d (by omega) (by omega)]
theorem map_set {α β : Type} (f : α → β) (l : List α) (i : Nat) (a : α) : (l.map f).set i (f a) = (l.set i a).map f := by rw [List.map_set]

/-- One length's round, from a place on. -/
theorem canon_l1 (l : List Int) (h65 : l.length = 65) (hm : mayL l = true) (n : Nat) (h1 : 1 ≤ n) (h15 : n ≤ 15) (R : List CodeS × Int)
    (hnext : Ev (fun k => wringerref7_Canon.l0 k l ((cst l (dn l (n + 1) 0)).1.map codeS) ((cst l (dn l (n + 1) 0)).2.1 : Int) ((cst l (dn l (n + 1) 0)).2.2 : Int) ((n + 1 : Nat) : Int)) R) :
    ∀ (d i : Nat), i + d = 65 → Ev (fun k => wringerref7_Canon.l1 k l ((cst l (dn l n i)).1.map codeS) ((cst l (dn l n i)).2.1 : Int) ((cst l (dn l n i)).2.2 : Int) (n : Int) (i : Int)) R := by
  intro d
  induction d with
  | zero =>
    intro i hi
    have e : i = 65 := by omega
    subst e
    rw [← h65, ← dn_next l n h1]
    refine Ev.step (f := fun k => wringerref7_Canon.l0 k l ((cst l (dn l (n + 1) 0)).1.map codeS) ((cst l (dn l (n + 1) 0)).2.1 : Int) ((cst l (dn l (n + 1) 0)).2.2 : Int) ((n + 1 : Nat) : Int)) (fun k => ?_) hnext
    simp only [wringerref7_Canon.l1]
    rw [if_neg (by omega), w64 (by omega) (by omega)]; rfl
  | succ d ih =>
    intro i hi
    have ih2 := ih (i + 1) (by omega)
    rw [dn_step] at ih2
    by_cases hn : l.getD i 0 = (n : Int)
    · rw [if_pos hn, cst_snoc] at ih2
      have hsub : (dn l n (i + 1)).Sublist (ordS l) := dn_sub l n (i + 1) h1 h15 (by omega)
      rw [dn_step, if_pos hn] at hsub
      have hso := (sorted_ordS l).sublist hsub
      have hmem : ∀ a ∈ dn l n i ++ [i], 1 ≤ l.getD a 0 ∧ l.getD a 0 ≤ 15 := fun a ha => (mem_ordS.1 (hsub.subset ha)).2
      have hso2 := List.pairwise_append.1 hso
      have hinv := cst_inv l (dn l n i) (hso2.1.imp fun {a b} h => by omega) (fun a ha => hmem a (List.mem_append_left _ ha))
      have hle := hinv.2 (n : Int) (fun a ha => by have := hso2.2.2 a ha i (by simp); omega)
      have hkd := kd_sub l hsub
      have hx15 : ∀ x ∈ l, x ≤ 15 := fun x hx => ((may_range hm).2 x hx).2
      rw [kd_all l hx15, kd_append] at hkd
      have hks := ks_le hm
      have hk1 : kd l [i] = 2 ^ (15 - n) := by unfold kd; rw [List.map_cons, List.map_nil, List.sum_cons, List.sum_nil, hn, Int.toNat_natCast, Nat.add_zero]
      have hinv2 := inv_nx (n := n) hinv.1 h1 h15 (by omega)
      have hz := cst_zero l (dn l n i) (fun c hc => (hmem c (List.mem_append_left _ hc)).1)
      obtain ⟨out, hout⟩ : ∃ out, out = (cst l (dn l n i)).1 := ⟨_, rfl⟩
      obtain ⟨st, hst⟩ : ∃ st, st = (cst l (dn l n i)).2 := ⟨_, rfl⟩
      have hol : out.length = 65 := by rw [hout]; exact length_cst l _
      have hcs : cstep l (cst l (dn l n i)) i = (out.set i (((nx st n).1 : Int), (n : Int)), nx st n) := by
        unfold cstep; rw [hn, Int.toNat_natCast, ← hst, ← hout]
        have : (nx st n).2 = n := by unfold nx; split <;> rfl
        rw [this]
      rw [hcs] at ih2
      rw [← hst, ← hout]
      rw [← hst] at hz hle hinv2
      simp only at ih2
      have hn2 : (nx st n).2 = n := by unfold nx; split <;> rfl
      refine Ev.step (f := fun k => wringerref7_Canon.l1 k l ((out.set i (((nx st n).1 : Int), (n : Int))).map codeS) ((nx st n).1 : Int) ((nx st n).2 : Int) (n : Int) ((i + 1 : Nat) : Int)) (fun k => ?_) ih2
      rw [hn2, ← map_set]
      have ew : wrap64 ((i : Int) + 1) = ((i + 1 : Nat) : Int) := by rw [w64 (by omega) (by omega)]; rfl
      simp only [wringerref7_Canon.l1, rd_nat, ew, Int.toNat_natCast, List.length_map]
      clear ih ih2 hsub hso hso2 hinv hmem hx15 ew hcs hnext
      rw [if_pos (by omega), if_pos (by omega), if_pos hn]
      by_cases hs0 : st.2 = 0
      · have hx : (nx st n).1 = 0 := by unfold nx; rw [if_pos hs0]
        rw [if_neg (by omega), if_pos (by omega), hz hs0, hx]; rfl
      · have hx : (nx st n).1 = (st.1 + 1) * 2 ^ (n - st.2) := by unfold nx; rw [if_neg hs0]
        have hb : (nx st n).1 + 1 ≤ 32768 := by
          rcases hinv2 with ⟨h0, _⟩ | ⟨_, _, h2⟩
          · omega
          · have h3 : 1 ≤ 2 ^ (15 - (nx st n).2) := Nat.pow_pos (by decide)
            have h4 : ((nx st n).1 + 1) * 1 ≤ ((nx st n).1 + 1) * 2 ^ (15 - (nx st n).2) := Nat.mul_le_mul_left _ h3
            omega
        have ed : wrap64 ((n : Int) - (st.2 : Int)) = ((n - st.2 : Nat) : Int) := by rw [w64 (by omega) (by omega)]; omega
        have es := shl_pow st.1 (n - st.2) (by rw [← hx]; omega) (by omega)
        rw [if_pos (by omega), ed, es, ← hx]
        rw [if_pos (by omega), if_pos (by omega)]; rfl
    · rw [if_neg hn, List.append_nil] at ih2
      refine Ev.step (f := fun k => wringerref7_Canon.l1 k l ((cst l (dn l n i)).1.map codeS) ((cst l (dn l n i)).2.1 : Int) ((cst l (dn l n i)).2.2 : Int) (n : Int) ((i + 1 : Nat) : Int)) (fun k => ?_) ih2
      simp only [wringerref7_Canon.l1, rd_nat]
      rw [if_pos (by omega), if_pos (by omega), if_neg hn, w64 (by omega) (by omega)]; rfl
theorem canon_l0 (l : List Int) (h65 : l.length = 65) (hm : mayL l = true) : ∀ (d n : Nat), n + d = 16 → 1 ≤ n →
    Ev (fun k => wringerref7_Canon.l0 k l ((cst l (dn l n 0)).1.map codeS) ((cst l (dn l n 0)).2.1 : Int) ((cst l (dn l n 0)).2.2 : Int) (n : Int)) ((codeL l).map codeS, 0) := by
  intro d
  induction d with
  | zero =>
    intro n hn _
    have e : n = 16 := by omega
    subst e
    refine Ev.step (f := fun _ => some ((codeL l).map codeS, 0)) (fun k => ?_) (Ev.now _)
    simp only [wringerref7_Canon.l0]
    rw [if_neg (by omega), dn_last]; rfl
  | succ d ih =>
    intro n hn h1
    refine Ev.step (f := fun k => wringerref7_Canon.l1 k l ((cst l (dn l n 0)).1.map codeS) ((cst l (dn l n 0)).2.1 : Int) ((cst l (dn l n 0)).2.2 : Int) (n : Int) ((0 : Nat) : Int)) (fun k => ?_)
      (canon_l1 l h65 hm n h1 (by omega) _ (ih (n + 1) (by omega) (by omega)) 65 0 (by omega))
    simp only [wringerref7_Canon.l0]
    rw [if_pos (by omega)]; rfl
theorem rcanon_is (l : List Int) : Ev (fun k => wringerref7_Canon.f k l) (codesE l) := by
  unfold wringerref7_Canon.f
  refine Ev.bind (rmay_is l) ?_
  unfold codesE
  cases hm : mayL l with
  | false => exact Ev.ite_neg (by simp) (Ev.ofSome (by rw [if_neg (by simp)]))
  | true =>
    refine Ev.ite_pos rfl (Ev.ite_pos (by decide) ?_)
    rw [if_pos rfl]
    have h65 := (may_range hm).1
    have := canon_l0 l h65 hm 15 1 (by omega) (by omega)
    rw [dn_first] at this
    exact this
theorem samec_l0 (a : List CodeS) (hb : a.length < 1000000) : ∀ (d i : Nat), i + d = a.length → Ev (fun k => wringerref7_SameCodes.l0 k a a (i : Int)) true := by
  intro d
  induction d with
  | zero =>
    intro i hi
    exact Ev.step (f := fun _ => some true) (fun k => by simp only [wringerref7_SameCodes.l0]; rw [if_neg (by omega)]) (Ev.now _)
  | succ d ih =>
    intro i hi
    refine Ev.step (f := fun k => wringerref7_SameCodes.l0 k a a ((i + 1 : Nat) : Int)) (fun k => ?_) (ih (i + 1) (by omega))
    simp only [wringerref7_SameCodes.l0]
    rw [if_pos (by omega), if_pos (by omega), if_pos (by omega), if_neg (by simp), w64 (by omega) (by omega)]; rfl
theorem samec_self (a : List CodeS) (hb : a.length < 1000000) : Ev (fun k => wringerref7_SameCodes.f k a a) true := by
  unfold wringerref7_SameCodes.f
  exact Ev.ite_pos rfl (samec_l0 a hb a.length 0 (by omega))
theorem codesE_len (l : List Int) : (codesE l).1.length ≤ 65 := by
  unfold codesE
  split
  · rw [List.length_map]; exact Nat.le_of_eq (length_cst l _)
  · simp
end Go.Proofs.Ytkdmamffbhlbgaa.PA

-- ---- Nl
/- Numbers of a sum, out of how often each comes: plain facts. No program in sight. -/
namespace Go.Proofs.Ytkdmamffbhlbgaa.Nl
set_option linter.unusedSimpArgs false
set_option linter.unusedVariables false
set_option linter.unusedSectionVars false
open Hp Ol

def bump (l : List Int) (k : Nat) (d : Int) : List Int := l.set k (l.getD k 0 + d)
theorem length_bump (l : List Int) (k : Nat) (d : Int) : (bump l k d).length = l.length := by simp [bump]
theorem getD_bump (l : List Int) (k : Nat) (d : Int) (i : Nat) (hk : k < l.length) : (bump l k d).getD i 0 = if i = k then l.getD k 0 + d else l.getD i 0 := by
  unfold bump
  by_cases h : i = k
  · subst h; rw [if_pos rfl]; simp [List.getD_eq_getElem?_getD, hk]
  · rw [if_neg h]; simp only [List.getD_eq_getElem?_getD]; rw [List.getElem?_set_ne (Ne.symm h)]
theorem sum_set (l : List Int) : ∀ (k : Nat) (v : Int), k < l.length → (l.set k v).sum = l.sum - l.getD k 0 + v := by
  induction l with
  | nil => intro k v h; simp at h
  | cons a t ih =>
    intro k v h
    cases k with
    | zero => simp; omega
    | succ k =>
      have := ih k v (by simpa using h)
      simp only [List.set_cons_succ, List.sum_cons, this]
      have e : (a :: t).getD (k + 1) 0 = t.getD k 0 := by simp
      rw [e]; omega
theorem sum_bump (l : List Int) (k : Nat) (d : Int) (h : k < l.length) : (bump l k d).sum = l.sum + d := by
  unfold bump; rw [sum_set l k _ h]; omega

def share (size all n : Int) : Int := if 0 < n then max 1 (n * size / all) else 0
def shares (f : List Int) (size all : Int) : List Int := f.map (share size all)
def decTop : Nat → List Int → List Int
  | 0, l => l
  | m + 1, l => decTop m (bump l ((ordL l).headD 0) (-1))
def normL (f : List Int) (size : Int) : List Int :=
  if (shares f size f.sum).sum ≤ size then bump (shares f size f.sum) ((ordL f).headD 0) (size - (shares f size f.sum).sum) else decTop ((shares f size f.sum).sum - size).toNat (shares f size f.sum)

theorem getD_shares (f : List Int) (size all : Int) (i : Nat) (h : i < f.length) : (shares f size all).getD i 0 = share size all (f.getD i 0) := by
  simp [shares, List.getD_eq_getElem?_getD, h]
theorem length_shares (f : List Int) (size all : Int) : (shares f size all).length = f.length := by simp [shares]
theorem share_nonneg (size all n : Int) : 0 ≤ share size all n := by unfold share; split <;> omega
theorem share_pos (size all n : Int) : 0 < share size all n ↔ 0 < n := by
  unfold share
  split
  · rename_i h; exact ⟨fun _ => h, fun _ => by omega⟩
  · rename_i h; exact ⟨fun h2 => by omega, fun h2 => absurd h2 h⟩
theorem share_le (size all n : Int) (hs : 1 ≤ size) (ha : 0 < all) (hn : n ≤ all) : share size all n ≤ size := by
  unfold share
  split
  · rename_i h
    have h1 : n * size ≤ all * size := Int.mul_le_mul_of_nonneg_right hn (by omega)
    have h2 : n * size / all ≤ size := by
      have := Int.ediv_le_ediv ha h1
      rwa [Int.mul_ediv_cancel_left _ (by omega)] at this
    omega
  · omega
theorem share_mono (size all a b : Int) (hs : 1 ≤ size) (ha : 0 < all) (h : a ≤ b) : share size all a ≤ share size all b := by
  unfold share
  split
  · rw [if_pos (by omega)]
    have h1 : a * size ≤ b * size := Int.mul_le_mul_of_nonneg_right h (by omega)
    have := Int.ediv_le_ediv ha h1
    omega
  · split <;> omega

theorem sum_nonneg (l : List Int) (h : ∀ x ∈ l, 0 ≤ x) : 0 ≤ l.sum := by
  induction l with
  | nil => simp
  | cons a t ih => have := ih fun x hx => h x (List.mem_cons_of_mem _ hx); have := h a (by simp); simp; omega
theorem le_sum (l : List Int) (h : ∀ x ∈ l, 0 ≤ x) : ∀ x ∈ l, x ≤ l.sum := by
  induction l with
  | nil => simp
  | cons a t ih =>
    intro x hx
    have h0 := sum_nonneg t fun x hx => h x (List.mem_cons_of_mem _ hx)
    have h1 := h a (by simp)
    simp only [List.sum_cons]
    rcases List.mem_cons.1 hx with rfl | hx
    · omega
    · have := ih (fun x hx => h x (List.mem_cons_of_mem _ hx)) x hx; omega
theorem sum_le_max (l : List Int) (m : Int) (h : ∀ x ∈ l, x ≤ m) : l.sum ≤ m * l.length := by
  induction l with
  | nil => simp
  | cons a t ih =>
    have h1 := ih fun x hx => h x (List.mem_cons_of_mem _ hx)
    have h2 := h a (by simp)
    simp only [List.sum_cons, List.length_cons]
    have e : m * ((t.length + 1 : Nat) : Int) = m * (t.length : Int) + m := by rw [Int.natCast_add, Int.mul_add]; simp
    rw [e]; omega
theorem mem_getD {l : List Int} {x : Int} (h : x ∈ l) : ∃ i, i < l.length ∧ l.getD i 0 = x := by
  obtain ⟨i, hi, rfl⟩ := List.mem_iff_getElem.1 h
  exact ⟨i, hi, by simp [List.getD_eq_getElem?_getD, hi]⟩
theorem getD_mem {l : List Int} {i : Nat} (h : i < l.length) : l.getD i 0 ∈ l := by
  rw [List.getD_eq_getElem?_getD, List.getElem?_eq_getElem h]; exact List.getElem_mem _

/-- Where one number at least is greater than 1: the greatest is, and one is taken from it. -/
structure Top (l : List Int) (k : Nat) : Prop where
  lt : k < l.length
  two : 2 ≤ l.getD k 0
  max : ∀ i, i < l.length → l.getD i 0 ≤ l.getD k 0
  least : ∀ i, i < l.length → l.getD i 0 = l.getD k 0 → k ≤ i
theorem top_of {l : List Int} (h : (l.length : Int) < l.sum) : Top l ((ordL l).headD 0) ∧ ∃ t, ordL l = (ordL l).headD 0 :: t := by
  have h2 : ∃ x ∈ l, 2 ≤ x := by
    apply Classical.byContradiction
    intro hno
    have := sum_le_max l 1 fun x hx => by
      have : ¬ 2 ≤ x := fun h2 => hno ⟨x, hx, h2⟩
      omega
    omega
  obtain ⟨x, hx, hx2⟩ := h2
  obtain ⟨i, hi, rfl⟩ := mem_getD hx
  obtain ⟨k, t, hk⟩ := ordL_cons (f := l) ⟨i, hi, by omega⟩
  obtain ⟨a, b, c⟩ := ordL_head hk
  rw [hk]
  exact ⟨⟨a, by have := (c i hi).1; simp only [List.headD_cons]; omega, fun j hj => (c j hj).1, fun j hj => (c j hj).2⟩, t, rfl⟩

/-- What every step keeps. -/
structure Ok (f l : List Int) : Prop where
  len : l.length = f.length
  pos : ∀ i, i < f.length → (0 < l.getD i 0 ↔ 0 < f.getD i 0)
  nn : ∀ i, i < f.length → 0 ≤ l.getD i 0
  mono : ∀ i j, i < f.length → j < f.length → f.getD j 0 < f.getD i 0 → l.getD j 0 ≤ l.getD i 0 + 1
theorem Ok.step {f l : List Int} (h : Ok f l) {k : Nat} (ht : Top l k) : Ok f (bump l k (-1)) := by
  have hk := ht.lt
  have h2 := ht.two
  have G := fun i => getD_bump l k (-1) i hk
  refine ⟨by rw [length_bump]; exact h.len, fun i hi => ?_, fun i hi => ?_, fun i j hi hj hf => ?_⟩
  · rw [G i]
    have := h.pos i hi
    split
    · subst i; constructor
      · intro _; exact this.1 (by omega)
      · intro _; omega
    · exact this
  · rw [G i]; have := h.nn i hi; split <;> omega
  · rw [G i, G j]
    have := h.mono i j hi hj hf
    have hm := ht.max j (by rw [h.len]; exact hj)
    split <;> split <;> (try subst i) <;> (try subst j) <;> omega
theorem decTop_ok {f : List Int} : ∀ (m : Nat) (l : List Int), Ok f l → (f.length : Int) + (m : Int) ≤ l.sum → Ok f (decTop m l) ∧ (decTop m l).sum = l.sum - m := by
  intro m
  induction m with
  | zero => intro l h _; exact ⟨h, by simp [decTop]⟩
  | succ m ih =>
    intro l h hs
    obtain ⟨ht, _⟩ := top_of (l := l) (by rw [h.len]; omega)
    have h1 := h.step ht
    have h2 := sum_bump l ((ordL l).headD 0) (-1) ht.lt
    obtain ⟨a, b⟩ := ih _ h1 (by omega)
    unfold decTop
    exact ⟨a, by omega⟩

theorem bump_zero (l : List Int) (k : Nat) : bump l k 0 = l := by
  by_cases h : k < l.length
  · unfold bump
    rw [Int.add_zero]
    have e : l.getD k 0 = l[k] := by simp [List.getD_eq_getElem?_getD, h]
    rw [e]; exact List.set_getElem_self h
  · unfold bump; exact List.set_eq_of_length_le (by omega)
theorem decTop_succ : ∀ (m : Nat) (l : List Int), decTop (m + 1) l = bump (decTop m l) ((ordL (decTop m l)).headD 0) (-1) := by
  intro m
  induction m with
  | zero => intro l; rfl
  | succ m ih => intro l; show decTop (m + 1) _ = _; rw [ih]; rfl

/-- Frequencies that may be asked. -/
structure Fr (f : List Int) : Prop where
  len : f.length = 65
  nn : ∀ x ∈ f, 0 ≤ x
  le : ∀ x ∈ f, x ≤ 16777216
  pos : 0 < f.sum
theorem Fr.le_all {f : List Int} (h : Fr f) : ∀ x ∈ f, x ≤ f.sum := le_sum f h.nn
theorem Fr.some {f : List Int} (h : Fr f) : ∃ i, i < f.length ∧ 0 < f.getD i 0 := by
  apply Classical.byContradiction
  intro hno
  have := sum_le_max f 0 fun x hx => by
    obtain ⟨i, hi, rfl⟩ := mem_getD hx
    have : ¬ 0 < f.getD i 0 := fun h2 => hno ⟨i, hi, h2⟩
    omega
  have := h.pos
  omega
theorem Fr.sum_le {f : List Int} (h : Fr f) : f.sum ≤ 1090519040 := by
  have := sum_le_max f 16777216 h.le
  rw [h.len] at this
  omega
theorem Fr.shares_ok {f : List Int} (h : Fr f) {size : Int} (hs : 1 ≤ size) : Ok f (shares f size f.sum) := by
  refine ⟨length_shares .., fun i hi => ?_, fun i hi => ?_, fun i j hi hj hf => ?_⟩
  · rw [getD_shares f _ _ i hi]; exact share_pos ..
  · rw [getD_shares f _ _ i hi]; exact share_nonneg ..
  · rw [getD_shares f _ _ i hi, getD_shares f _ _ j hj]
    have := share_mono size f.sum _ _ hs h.pos (Int.le_of_lt hf)
    omega
theorem Fr.share_le {f : List Int} (h : Fr f) {size : Int} (hs : 1 ≤ size) {x : Int} (hx : x ∈ f) : 0 ≤ share size f.sum x ∧ share size f.sum x ≤ size :=
  ⟨share_nonneg .., Nl.share_le _ _ _ hs h.pos (h.le_all x hx)⟩
theorem Fr.shares_sum {f : List Int} (h : Fr f) {size : Int} (hs : 1 ≤ size) : 0 ≤ (shares f size f.sum).sum ∧ (shares f size f.sum).sum ≤ size * 65 := by
  constructor
  · apply sum_nonneg
    intro x hx
    obtain ⟨n, hn, rfl⟩ := List.mem_map.1 hx
    exact (h.share_le hs hn).1
  · have := sum_le_max (shares f size f.sum) size fun x hx => by
      obtain ⟨n, hn, rfl⟩ := List.mem_map.1 hx
      exact (h.share_le hs hn).2
    rw [length_shares, h.len] at this
    exact this
theorem Fr.head {f : List Int} (h : Fr f) : ∃ t, ordL f = (ordL f).headD 0 :: t ∧ (ordL f).headD 0 < 65 := by
  obtain ⟨k, t, hk⟩ := ordL_cons h.some
  have := (ordL_head hk).1
  rw [h.len] at this
  rw [hk]; exact ⟨t, rfl, this⟩

theorem Fr.norm {f : List Int} (h : Fr f) {size : Int} (hs : 66 ≤ size) : Ok f (normL f size) ∧ (normL f size).sum = size := by
  have ho := h.shares_ok (size := size) (by omega)
  unfold normL
  by_cases hle : (shares f size f.sum).sum ≤ size
  · rw [if_pos hle]
    obtain ⟨t, hk, hlt⟩ := h.head
    generalize hK : (ordL f).headD 0 = k at hk hlt
    obtain ⟨k1, k2, k3⟩ := ordL_head hk
    have hkl : k < (shares f size f.sum).length := by rw [length_shares]; exact k1
    refine ⟨⟨by rw [length_bump]; exact ho.len, fun i hi => ?_, fun i hi => ?_, fun i j hi hj hf => ?_⟩, by rw [sum_bump _ _ _ hkl]; omega⟩
    · rw [getD_bump _ _ _ _ hkl]
      have := ho.pos i hi
      split
      · subst i
        constructor
        · intro _; exact k2
        · intro _; have := this.2 k2; omega
      · exact this
    · rw [getD_bump _ _ _ _ hkl]; have := ho.nn i hi; split
      · subst i; omega
      · exact this
    · rw [getD_bump _ _ _ _ hkl, getD_bump _ _ _ _ hkl]
      have h1 := ho.mono i j hi hj hf
      have h2 := (k3 i hi).1
      split
      · subst j; omega
      · split
        · subst i; omega
        · exact h1
  · rw [if_neg hle]
    obtain ⟨a, b⟩ := decTop_ok (f := f) ((shares f size f.sum).sum - size).toNat _ ho (by rw [h.len]; omega)
    exact ⟨a, by omega⟩
theorem Fr.norm_len {f : List Int} (h : Fr f) {size : Int} (hs : 66 ≤ size) : (normL f size).length = 65 := by rw [(h.norm hs).1.len, h.len]
theorem Fr.norm_at {f : List Int} (h : Fr f) {size : Int} (hs : 66 ≤ size) : ∀ x ∈ normL f size, 0 ≤ x ∧ x ≤ size := by
  obtain ⟨ho, hsum⟩ := h.norm hs
  have hn : ∀ x ∈ normL f size, 0 ≤ x := fun x hx => by
    obtain ⟨i, hi, rfl⟩ := mem_getD hx
    exact ho.nn i (by rw [← ho.len]; exact hi)
  exact fun x hx => ⟨hn x hx, by have := le_sum _ hn x hx; omega⟩
/-- Which may be asked. -/
def frB (f : List Int) : Bool := decide (f.length = 65 ∧ (∀ x ∈ f, 0 ≤ x ∧ x ≤ 16777216) ∧ 0 < f.sum)
theorem frB_iff (f : List Int) : frB f = true ↔ Fr f := by
  unfold frB; rw [decide_eq_true_eq]
  exact ⟨fun ⟨a, b, c⟩ => ⟨a, fun x hx => (b x hx).1, fun x hx => (b x hx).2, c⟩, fun h => ⟨h.len, fun x hx => ⟨h.nn x hx, h.le x hx⟩, h.pos⟩⟩
/-- The shares of the first i, nought for the others. -/
def shN (f : List Int) (size all : Int) (i : Nat) : List Int := ((f.take i).map (share size all)) ++ List.replicate (f.length - i) 0
theorem shN_zero (f : List Int) (size all : Int) : shN f size all 0 = List.replicate f.length 0 := by simp [shN]
theorem shN_all (f : List Int) (size all : Int) : shN f size all f.length = shares f size all := by simp [shN, shares]
theorem length_shN (f : List Int) (size all : Int) (i : Nat) (h : i ≤ f.length) : (shN f size all i).length = f.length := by simp [shN]; omega
theorem shN_succ (f : List Int) (size all : Int) (i : Nat) (h : i < f.length) : shN f size all (i + 1) = (shN f size all i).set i (share size all (f.getD i 0)) := by
  unfold shN
  have e : f.length - i = (f.length - (i + 1)) + 1 := by omega
  have e2 : f.getD i 0 = f[i] := by simp [List.getD_eq_getElem?_getD, h]
  have hl : ((f.take i).map (share size all)).length = i := by simp; omega
  rw [List.take_succ_eq_append_getElem h, List.map_append, e, List.replicate_succ, e2]
  rw [List.set_append_right _ _ (by omega), hl, Nat.sub_self, List.set_cons_zero, List.append_assoc]; rfl
theorem shN_at (f : List Int) (size all : Int) (i : Nat) (h : i < f.length) : (shN f size all i).getD i 0 = 0 := by
  unfold shN
  have hl : ((f.take i).map (share size all)).length = i := by simp; omega
  rw [List.getD_eq_getElem?_getD, List.getElem?_append_right (by omega), hl, Nat.sub_self, List.getElem?_replicate, if_pos (by omega)]; rfl
theorem shN_same (f : List Int) (size all : Int) (i : Nat) (h : i < f.length) (h0 : ¬ 0 < f.getD i 0) : shN f size all (i + 1) = shN f size all i := by
  rw [shN_succ f size all i h]
  have hs : share size all (f.getD i 0) = 0 := by unfold share; rw [if_neg h0]
  rw [hs]
  have := bump_zero (shN f size all i) i
  unfold bump at this
  rwa [shN_at f size all i h, Int.add_zero] at this
theorem sum_shN (f : List Int) (size all : Int) (i : Nat) (h : i < f.length) : (shN f size all (i + 1)).sum = (shN f size all i).sum + share size all (f.getD i 0) := by
  rw [shN_succ f size all i h, sum_set _ _ _ (by rw [length_shN _ _ _ _ (by omega)]; exact h), shN_at f size all i h]; omega
theorem take_sum (f : List Int) (i : Nat) (h : i < f.length) : (f.take (i + 1)).sum = (f.take i).sum + f.getD i 0 := by
  rw [List.take_succ_eq_append_getElem h, List.sum_append]
  simp [List.getD_eq_getElem?_getD, h]
theorem Fr.take_sum {f : List Int} (h : Fr f) (i : Nat) : 0 ≤ (f.take i).sum ∧ (f.take i).sum ≤ 1090519040 := by
  have h1 := sum_nonneg (f.take i) fun x hx => h.nn x (List.mem_of_mem_take hx)
  have h2 := sum_nonneg (f.drop i) fun x hx => h.nn x (List.mem_of_mem_drop hx)
  have h3 : f.sum = (f.take i).sum + (f.drop i).sum := by rw [← List.sum_append, List.take_append_drop]
  have := h.sum_le
  omega
theorem Fr.shN_sum {f : List Int} (h : Fr f) {size : Int} (hs : 1 ≤ size) : ∀ i, i ≤ f.length → 0 ≤ (shN f size f.sum i).sum ∧ (shN f size f.sum i).sum ≤ size * (i : Int) := by
  intro i
  induction i with
  | zero => intro _; rw [shN_zero]; simp
  | succ i ih =>
    intro hi
    have := ih (by omega)
    rw [sum_shN f size f.sum i (by omega)]
    have h2 := h.share_le hs (getD_mem (show i < f.length by omega))
    have e : size * ((i + 1 : Nat) : Int) = size * (i : Int) + size := by rw [Int.natCast_add, Int.mul_add]; simp
    rw [e]; omega
end Go.Proofs.Ytkdmamffbhlbgaa.Nl

-- ---- PAx19

namespace Go.Proofs.Ytkdmamffbhlbgaa.PA
open Go.RowKit Go.Proofs.YtkdmamffbhlbgaaW.PrintWords Go.Proofs.YtkdmamffbhlbgaaW.PrintLast Go.Proofs.YtkdmamffbhlbgaaW.PrintMore
attribute [local go_sem] max2_int min2_int max_two min_two max_three min_three max_four min_four   -- for this text's walks alone
set_option linter.unusedVariables false
set_option linter.unusedSimpArgs false

/-! ### wringerlaw8_Freq: function 16 -/
def wringerlaw8_Freq.l0 : Nat → List Int → List Int → Int → Option (List Int)
  | 0, _, _, _ => none
  | k + 1, x0, x3, x4 => if (wrap64 (x4 + 1)) < (x0.length : Int) then (if 0 ≤ x4 then (if x4 < (x0.length : Int) then (if 0 ≤ (wrap64 (x4 + 1)) then (if 0 ≤ (Int.tmod (IntKind.u16.wrap (Int.tdiv (rd x0 x4) 65)) 16) then (if 0 ≤ (Int.tmod (wrap64 (rd x0 x4)) 65) then (if (Int.tmod (wrap64 (rd x0 x4)) 65) < (x3.length : Int) then (wringerlaw8_Freq.l0 k x0 (x3.set ((Int.tmod (wrap64 (rd x0 x4)) 65) : Int).toNat (shr .i64 (wrap64 (rd x0 (wrap64 (x4 + 1)))) (Int.tmod (IntKind.u16.wrap (Int.tdiv (rd x0 x4) 65)) 16))) (wrap64 (x4 + 2))) else (none)) else (none)) else (none)) else (none)) else (none)) else (none)) else (some x3)
def wringerlaw8_Freq.f (k : Nat) (l0 : List Int) : Option (List Int) := if 65 ≤ 35184372088832 then (wringerlaw8_Freq.l0 k l0 (List.replicate 65 0) 0) else (none)
theorem wringerlaw8_Freq.mono_l : ∀ k, (∀ y0 y1 y2, LeO (wringerlaw8_Freq.l0 k y0 y1 y2) (wringerlaw8_Freq.l0 (k + 1) y0 y1 y2))
  | 0 => fun _ _ _ r h => by simp [wringerlaw8_Freq.l0] at h
  | k + 1 => by
    have ih0 := wringerlaw8_Freq.mono_l k
    · intro y0 y1 y2
      unfold wringerlaw8_Freq.l0
      repeat' first
      | (with_reducible exact ih0 _ _ _)
      | (with_reducible exact LeO.refl _)
      | (with_reducible exact LeO.none _)
      | (with_reducible refine LeO.ite ?_ ?_)
      | (with_reducible refine LeO.bind ?_ (fun _ => ?_))
      | exact ih0 _ _ _
      | exact LeO.none _
      | refine LeO.ite ?_ ?_
      | refine LeO.bind ?_ (fun _ => ?_)
theorem wringerlaw8_Freq.mono : ∀ a0 k, LeO (wringerlaw8_Freq.f k a0) (wringerlaw8_Freq.f (k + 1) a0) := by
  intro a0 k
  have ih0 := wringerlaw8_Freq.mono_l k
  unfold wringerlaw8_Freq.f
  repeat' first
      | (with_reducible exact ih0 _ _ _)
      | (with_reducible exact LeO.refl _)
      | (with_reducible exact LeO.none _)
      | (with_reducible refine LeO.ite ?_ ?_)
      | (with_reducible refine LeO.bind ?_ (fun _ => ?_))
      | exact ih0 _ _ _
      | exact LeO.none _
      | refine LeO.ite ?_ ?_
      | refine LeO.bind ?_ (fun _ => ?_)
def wringerlaw8_Freq.T5 : Bool × List (List Nat × List Nat) := (true, [([], []), ([], []), ([], []), ([1, 2], [1, 2]), ([3], [3]), ([4], [4]), ([5], [5]), ([], []), ([], []), ([8], [8]), ([7, 9], [7, 9]), ([10], [10]), ([11], [11]), ([], []), ([], []), ([13, 14], [13, 14]), ([15], [15]), ([16], [16]), ([17], [17]), ([12, 18], [12, 18]), ([0, 6, 0, 1, 2, 3, 4, 5, 6, 7, 8, 9, 10, 11, 12, 13, 14, 15, 16, 17, 18, 19], [0, 6]), ([20, 19, 0, 1, 2, 3, 4, 5, 6, 7, 8, 9, 10, 11, 12, 13, 14, 15, 16, 17, 18, 19], [19, 20])])
def wringerlaw8_Freq.B5 : List Nat := [0, 0, 0, 6, 14, 30, 62, 0, 0, 256, 896, 1920, 3968, 0, 0, 24576, 57344, 122880, 253952, 524160, 1048575, 2097151]
theorem wringerlaw8_Freq.tab5 : rtab .any (opsOf Try.f16 5) = wringerlaw8_Freq.T5 := by kernel_rfl
theorem wringerlaw8_Freq.bits5 : waitsOk wringerlaw8_Freq.T5.2 wringerlaw8_Freq.B5 = true := by kernel_rfl
set_option maxHeartbeats 8000000 in
set_option maxRecDepth 100000 in
theorem wringerlaw8_Freq.calls (k : Nat) (A0 : Option Addr) (c0 : Nat) (l0 : List Int) (r : List Int) (w : World) (hr0 : Kd.C (Kd.int .u16) w A0 l0.length l0) (hc0 : l0.length ≤ c0) (h : wringerlaw8_Freq.f k l0 = some r) :
    Calls Try.prog 16 #[.slice A0 l0.length c0] w fun e w' => ∃ v0_ : Value, e = .returned (v0_) ∧ Kd.R (Kd.int .i64) 3 w' w.heap.size (fun _ => True) v0_ r ∧ Below w.heap.size w w' := by
  have HR0 := Aside0.mk hr0
  have HC0 := Aside0.mk hc0
  clear hr0 hc0
  have HB := Aside0.mk (Below.refl w.heap.size w)
  have H : (if 65 ≤ 35184372088832 then (wringerlaw8_Freq.l0 k l0 (List.replicate 65 0) 0) else (none)) = some r := h
  clear h
  by_cases c2 : 65 ≤ 35184372088832
  · rw [if_pos c2] at H
    have c2b0 := eq_true c2
    have c2b1 : decide (65 ≤ 35184372088832) = true := decide_eq_true c2
    clear c2
    obtain ⟨y164, hy164⟩ : ∃ y_ : List Int, y_ = (List.replicate 65 0) := ⟨_, rfl⟩
    replace H : (wringerlaw8_Freq.l0 k l0 y164 0) = some r := by first | (rw [hy164]; with_reducible exact H) | (have H2_ := (Option.bind_some _ _).symm.trans H; rw [hy164]; with_reducible exact H2_) | (have H2_ := (Option.bind_some _ _).symm.trans H; with_reducible exact H2_) | with_reducible exact H | (rw [hy164]; exact H) | exact H
    have Ny164 := Aside0.mk hy164
    clear hy164
    have H' := Aside0.mk H
    clear H
    go_enter Try.func16, Try.ntmps16
    go_wp2_with (first | ((with_reducible refine gate_dst (N := 5) rfl ?_); refine Kd.R_make (Kd.int .i64) _ 3 rfl (N := 5) rfl 22 _ _ rfl 65 rfl rfl Try.underlying22 (.int .i64 0) 8 info3 rfl (by decide) (by omega) 0 (ok := fun _ => True) (okp := fun _ => True) rfl (fun _ hk => hk) trivial (by omega) (by omega) (Below.refl _ _) (Nat.le_refl _) ?_; intro v165 w3 ho4 hb hg_ hnew_; clear hg_ hnew_; (first | rw [← Ny164.out] at ho4 | (simp only [Int.reduceToNat] at ho4; rw [← Ny164.out] at ho4)); have n0_ := Aside0.mk (Kd.R_lower ho4 (below_size (by repeat (first | (with_reducible first | exact HB.out | apply below_alloc | apply pw_below_drewN | apply below_drew1) | exact HB.out)))); have n1_ := Aside0.mk (below_step (by repeat (first | (with_reducible first | exact HB.out | apply below_alloc | apply pw_below_drewN | apply below_drew1) | exact HB.out)) hb); clear HB; have HO166 := n0_; have HB := n1_; clear n0_ n1_; clear hb ho4))
    go_loopg [4] k (fun kq v4 w' => ∃ (x3_1 : List Int) (x4_1 : Int), v4 = .int .i64 x4_1 ∧ Aside0 (wringerlaw8_Freq.l0 kq l0 x3_1 x4_1 = some r) ∧ Aside0 (kq ≤ k) ∧ Aside0 (Kd.R (Kd.int .i64) 3 w' w.heap.size (fun _ => True) v165 x3_1) ∧ Aside0 (Below w.heap.size w w'))
    case atStart => exact ⟨(y164), (0), (by first | rfl | (simp; done) | (simp [*]; done)), H', ⟨Nat.le_refl _⟩, ⟨by (with_reducible repeat (first | apply Kd.R_alloc | apply Kd.R_drewN | apply Kd.R_drew)); exact HO166.out⟩, ⟨by repeat (first | (with_reducible first | exact HB.out | apply below_alloc | apply pw_below_drewN | apply below_drew1) | exact HB.out)⟩⟩
    case round =>
      clear H'
      try clear c1
      try clear c2
      try clear c2b0
      try clear c2b1
      try clear p2
      obtain ⟨x3_1, x4_1, rfl, HA, HK1, HO_3, HB⟩ := hrel
      cases gk with
      | zero => exact absurd HA.out (by simp [wringerlaw8_Freq.l0])
      | succ k1 =>
        have H := HA.out
        clear HA
        simp only [wringerlaw8_Freq.l0] at H
        by_cases c5 : (wrap64 (x4_1 + 1)) < (l0.length : Int)
        · rw [if_pos c5] at H
          have c5b0 : decide ((wrap64 (x4_1 + 1)) < (l0.length : Int)) = true := decide_eq_true c5
          clear c5
          by_cases c6 : 0 ≤ x4_1
          · rw [if_pos c6] at H
            have c6b0 : decide (0 ≤ x4_1) = true := decide_eq_true c6
            clear c6
            by_cases c7 : x4_1 < (l0.length : Int)
            · rw [if_pos c7] at H
              have c7b0 : decide (x4_1 < (l0.length : Int)) = true := decide_eq_true c7
              clear c7
              obtain ⟨ji8, hji8⟩ : ∃ j_ : Int, (wrap64 (x4_1 + 1)) = j_ := ⟨_, rfl⟩
              replace H : (if 0 ≤ (ji8) then (if 0 ≤ (Int.tmod (IntKind.u16.wrap (Int.tdiv (rd l0 x4_1) 65)) 16) then (if 0 ≤ (Int.tmod (wrap64 (rd l0 x4_1)) 65) then (if (Int.tmod (wrap64 (rd l0 x4_1)) 65) < (x3_1.length : Int) then (wringerlaw8_Freq.l0 k1 l0 (x3_1.set ((Int.tmod (wrap64 (rd l0 x4_1)) 65) : Int).toNat (shr .i64 (wrap64 (rd l0 (ji8))) (Int.tmod (IntKind.u16.wrap (Int.tdiv (rd l0 x4_1) 65)) 16))) (wrap64 (x4_1 + 2))) else (none)) else (none)) else (none)) else (none)) = some r := by first | (rw [hji8] at H; exact H) | (simp only [hji8] at H ⊢; exact H)
              (try rw [hji8] at c5b0)
              have hji8w : (IntKind.i64.wrap (x4_1 + 1)) = ji8 := (i64_w _).trans hji8
              by_cases c9 : 0 ≤ (ji8)
              · rw [if_pos c9] at H
                have c9b0 : decide (0 ≤ (ji8)) = true := decide_eq_true c9
                clear c9
                obtain ⟨ji10, hji10⟩ : ∃ j_ : Int, (Int.tmod (IntKind.u16.wrap (Int.tdiv (rd l0 x4_1) 65)) 16) = j_ := ⟨_, rfl⟩
                replace H : (if 0 ≤ (ji10) then (if 0 ≤ (Int.tmod (wrap64 (rd l0 x4_1)) 65) then (if (Int.tmod (wrap64 (rd l0 x4_1)) 65) < (x3_1.length : Int) then (wringerlaw8_Freq.l0 k1 l0 (x3_1.set ((Int.tmod (wrap64 (rd l0 x4_1)) 65) : Int).toNat (shr .i64 (wrap64 (rd l0 (ji8))) (ji10))) (wrap64 (x4_1 + 2))) else (none)) else (none)) else (none)) = some r := by first | (rw [hji10] at H; exact H) | (simp only [hji10] at H ⊢; exact H)
                by_cases c11 : 0 ≤ (ji10)
                · rw [if_pos c11] at H
                  have c11b0 := eq_true c11
                  have c11b1 : decide (0 ≤ (ji10)) = true := decide_eq_true c11
                  clear c11
                  obtain ⟨ji12, hji12⟩ : ∃ j_ : Int, (shr .i64 (wrap64 (rd l0 (ji8))) (ji10)) = j_ := ⟨_, rfl⟩
                  replace H : (if 0 ≤ (Int.tmod (wrap64 (rd l0 x4_1)) 65) then (if (Int.tmod (wrap64 (rd l0 x4_1)) 65) < (x3_1.length : Int) then (wringerlaw8_Freq.l0 k1 l0 (x3_1.set ((Int.tmod (wrap64 (rd l0 x4_1)) 65) : Int).toNat (ji12)) (wrap64 (x4_1 + 2))) else (none)) else (none)) = some r := by first | (rw [hji12] at H; exact H) | (simp only [hji12] at H ⊢; exact H)
                  have hji12_ : ((wrap64 (rd l0 (ji8))) / 2 ^ min (ji10).toNat 64) = ji12 := hji12
                  have hji12z : (ji10) ≤ 64 → ((wrap64 (rd l0 (ji8))) / 2 ^ (ji10).toNat) = ji12 := shr_small hji12
                  obtain ⟨ji13, hji13⟩ : ∃ j_ : Int, (Int.tmod (wrap64 (rd l0 x4_1)) 65) = j_ := ⟨_, rfl⟩
                  replace H : (if 0 ≤ (ji13) then (if (ji13) < (x3_1.length : Int) then (wringerlaw8_Freq.l0 k1 l0 (x3_1.set ((ji13) : Int).toNat (ji12)) (wrap64 (x4_1 + 2))) else (none)) else (none)) = some r := by first | (rw [hji13] at H; exact H) | (simp only [hji13] at H ⊢; exact H)
                  by_cases c14 : 0 ≤ (ji13)
                  · rw [if_pos c14] at H
                    have c14b0 : decide (0 ≤ (ji13)) = true := decide_eq_true c14
                    clear c14
                    by_cases c15 : (ji13) < (x3_1.length : Int)
                    · rw [if_pos c15] at H
                      have c15b0 : decide ((ji13) < (x3_1.length : Int)) = true := decide_eq_true c15
                      clear c15
                      obtain ⟨y170, hy170⟩ : ∃ y_ : List Int, y_ = (x3_1.set ((ji13) : Int).toNat (ji12)) := ⟨_, rfl⟩
                      replace H : (wringerlaw8_Freq.l0 k1 l0 y170 (wrap64 (x4_1 + 2))) = some r := by first | (rw [hy170]; with_reducible exact H) | (have H2_ := (Option.bind_some _ _).symm.trans H; rw [hy170]; with_reducible exact H2_) | (have H2_ := (Option.bind_some _ _).symm.trans H; with_reducible exact H2_) | with_reducible exact H | (rw [hy170]; exact H) | exact H
                      have Ny170 := Aside0.mk hy170
                      clear hy170
                      have H' := Aside0.mk H
                      clear H
                      try go_wp2
                      have n0_ := Aside0.mk (Kd.R_drew HO_3.out)
                      have n1_ := Aside0.mk (below_drew1 HB.out)
                      clear HO_3
                      clear HB
                      have HO_3 := n0_
                      have HB := n1_
                      clear n0_ n1_
                      have p167 : 0 ≤ (x4_1 : Int) := of_decide_eq_true (by first | (with_reducible assumption) | assumption)
                      have q167 : x4_1 < (l0.length : Int) := of_decide_eq_true (by first | (with_reducible assumption) | assumption)
                      obtain ⟨ad167, e167, hx167_0⟩ := Kd.at_int HR0.out x4_1 p167 q167
                      have hw167_0 := hx167_0
                      cases e167
                      replace hx167_0 := (HB.out.cell (World.block_lt_of_cell? w _ hx167_0)).trans hx167_0
                      replace p167 := eq_true p167
                      replace q167 := eq_true q167
                      have p168 : 0 ≤ ((ji8) : Int) := of_decide_eq_true (by first | (with_reducible assumption) | assumption)
                      have q168 : (ji8) < (l0.length : Int) := of_decide_eq_true (by first | (with_reducible assumption) | assumption)
                      obtain ⟨ad168, e168, hx168_0⟩ := Kd.at_int HR0.out (ji8) p168 q168
                      have hw168_0 := hx168_0
                      obtain rfl : ad167 = ad168 := (by injection e168)
                      replace hx168_0 := (HB.out.cell (World.block_lt_of_cell? w _ hx168_0)).trans hx168_0
                      replace p168 := eq_true p168
                      replace q168 := eq_true q168
                      have p169 : 0 ≤ (x4_1 : Int) := of_decide_eq_true (by first | (with_reducible assumption) | assumption)
                      have q169 : x4_1 < (l0.length : Int) := of_decide_eq_true (by first | (with_reducible assumption) | assumption)
                      obtain ⟨ad169, e169, hx169_0⟩ := Kd.at_int HR0.out x4_1 p169 q169
                      have hw169_0 := hx169_0
                      obtain rfl : ad167 = ad169 := (by injection e169)
                      replace hx169_0 := (HB.out.cell (World.block_lt_of_cell? w _ hx169_0)).trans hx169_0
                      replace p169 := eq_true p169
                      replace q169 := eq_true q169
                      have p16 : 0 ≤ ((ji13) : Int) := of_decide_eq_true (by first | (with_reducible assumption) | assumption)
                      have q16 : ((ji13) : Int) < ((x3_1.length : Int) : Int) := of_decide_eq_true (by first | (with_reducible assumption) | assumption)
                      obtain ⟨go16, co16, eo16, gb16, gl16, cl16, HG16⟩ := Kd.R_form HO_3.out (by omega)
                      (first | cases eo16 | (injection eo16 with ea_ en_ ec_; (first | subst ea_ | (injection ea_ with ea_; subst ea_)); subst ec_; clear en_))
                      have GB16 := Aside0.mk gb16
                      have GG16 := Aside0.mk HG16
                      clear gb16 gl16 HG16
                      obtain ⟨hx16_0, hf16_0⟩ := Kd.R_celln 0 HO_3.out ((ji13) : Int) p16 q16
                      replace p16 := eq_true p16
                      replace q16 := eq_true q16
                      have HP18 := Kd.R_putn HO_3.out ((ji13) : Int) ji12
                      rw [← Ny170.out] at HP18
                      have HQ18 := Aside0.mk HP18
                      clear HP18
                      refine start_ (n := 22) (S := fun w' => w'.cell? (ad167.add (x4_1).toNat) = some (.int .u16 (rd l0 x4_1)) ∧ w'.cell? (ad167.add ((ji8)).toNat) = some (.int .u16 (rd l0 (ji8))) ∧ w'.cell? (ad167.add (x4_1).toNat) = some (.int .u16 (rd l0 x4_1))) (ds := [21]) #[false, false, false, false, false, false, false, false, false, false, false, false, false, false, false, false, false, false, false, false, false, false] (by kernel_rfl) rfl rfl ⟨((HB.out.cell (World.block_lt_of_cell? w _ hw167_0)).trans hw167_0), ((HB.out.cell (World.block_lt_of_cell? w _ hw168_0)).trans hw168_0), ((HB.out.cell (World.block_lt_of_cell? w _ hw169_0)).trans hw169_0)⟩ (fun hHeld => ?_); refine with_tabW wringerlaw8_Freq.tab5 wringerlaw8_Freq.bits5 (fun HT_ HW_ => ?_)
                      generalize wr.drew = w17 at HO_3 HB GG16 HQ18 hf16_0 hx167_0 hx168_0 hx169_0 hx16_0 hHeld ⊢
                      refine pure_ (i := 0) (N := some 13) (v := ?_) (a' := ?_) #[true, false, false, false, false, false, false, false, false, false, false, false, false, false, false, false, false, false, false, false, false, false] rfl rfl (any_of HT_.out (by kernel_rfl)) (fun _ _ _ h => h) (Or.inl ⟨by rfl, ?_⟩) ?_ ?_
                      rotate_left
                      · intro w'
                        go_simp
                        with_reducible rfl
                      rotate_left
                      · simp only [Act.put, List.setIfInBounds_toArray, List.set_cons_zero, List.set_cons_succ, i64_w, i32_w]
                        rfl
                      refine pure_ (i := 1) (N := some 14) (v := ?_) (a' := ?_) #[true, true, false, false, false, false, false, false, false, false, false, false, false, false, false, false, false, false, false, false, false, false] rfl rfl (any_of HT_.out (by kernel_rfl)) (fun _ _ _ h => h) (Or.inl ⟨by rfl, ?_⟩) ?_ ?_
                      rotate_left
                      · intro w'
                        go_simp
                        with_reducible rfl
                      rotate_left
                      · simp only [Act.put, List.setIfInBounds_toArray, List.set_cons_zero, List.set_cons_succ, i64_w, i32_w]
                        rfl
                      refine pure_ (i := 2) (N := some 15) (v := ?_) (a' := ?_) #[true, true, true, false, false, false, false, false, false, false, false, false, false, false, false, false, false, false, false, false, false, false] rfl rfl (any_of HT_.out (by kernel_rfl)) (fun _ _ _ h => h) (Or.inl ⟨by rfl, ?_⟩) ?_ ?_
                      rotate_left
                      · intro w'
                        go_simp
                        with_reducible rfl
                      rotate_left
                      · simp only [Act.put, List.setIfInBounds_toArray, List.set_cons_zero, List.set_cons_succ, i64_w, i32_w]
                        rfl
                      refine pure_ (i := 3) (N := some 16) (v := ?_) (a' := ?_) #[true, true, true, true, false, false, false, false, false, false, false, false, false, false, false, false, false, false, false, false, false, false] rfl rfl (any_of HT_.out (by kernel_rfl)) (fun _ _ _ h => h) (Or.inl ⟨by rfl, ?_⟩) ?_ ?_
                      rotate_left
                      · intro w'
                        go_simp
                        with_reducible rfl
                      rotate_left
                      · simp only [Act.put, List.setIfInBounds_toArray, List.set_cons_zero, List.set_cons_succ, i64_w, i32_w]
                        rfl
                      refine pure_ (i := 7) (N := some 20) (v := ?_) (a' := ?_) #[true, true, true, true, false, false, false, true, false, false, false, false, false, false, false, false, false, false, false, false, false, false] rfl rfl (any_of HT_.out (by kernel_rfl)) (fun _ _ _ h => h) (Or.inl ⟨by rfl, ?_⟩) ?_ ?_
                      rotate_left
                      · intro w'
                        go_simp
                        with_reducible rfl
                      rotate_left
                      · simp only [Act.put, List.setIfInBounds_toArray, List.set_cons_zero, List.set_cons_succ, i64_w, i32_w]
                        rfl
                      refine pure_ (i := 8) (N := some 21) (v := ?_) (a' := ?_) #[true, true, true, true, false, false, false, true, true, false, false, false, false, false, false, false, false, false, false, false, false, false] rfl rfl (any_of HT_.out (by kernel_rfl)) (fun _ _ _ h => h) (Or.inl ⟨by rfl, ?_⟩) ?_ ?_
                      rotate_left
                      · intro w'
                        go_simp
                        with_reducible rfl
                      rotate_left
                      · simp only [Act.put, List.setIfInBounds_toArray, List.set_cons_zero, List.set_cons_succ, i64_w, i32_w]
                        rfl
                      refine pure_ (i := 9) (N := some 22) (v := ?_) (a' := ?_) #[true, true, true, true, false, false, false, true, true, true, false, false, false, false, false, false, false, false, false, false, false, false] rfl rfl (any_of HT_.out (by kernel_rfl)) (fun _ _ _ h => h) (Or.inl ⟨by rfl, ?_⟩) ?_ ?_
                      rotate_left
                      · intro w'
                        go_simp
                        with_reducible rfl
                      rotate_left
                      · simp only [Act.put, List.setIfInBounds_toArray, List.set_cons_zero, List.set_cons_succ, i64_w, i32_w]
                        rfl
                      refine pure_ (i := 10) (N := some 23) (v := ?_) (a' := ?_) #[true, true, true, true, false, false, false, true, true, true, true, false, false, false, false, false, false, false, false, false, false, false] rfl rfl (any_of HT_.out (by kernel_rfl)) (fun _ _ _ h => h) (Or.inl ⟨by rfl, ?_⟩) ?_ ?_
                      rotate_left
                      · intro w'
                        go_simp
                        with_reducible rfl
                      rotate_left
                      · simp only [Act.put, List.setIfInBounds_toArray, List.set_cons_zero, List.set_cons_succ, i64_w, i32_w]
                        rfl
                      refine pure_ (i := 13) (N := some 26) (v := ?_) (a' := ?_) #[true, true, true, true, false, false, false, true, true, true, true, false, false, true, false, false, false, false, false, false, false, false] rfl rfl (any_of HT_.out (by kernel_rfl)) (fun _ _ _ h => h) (Or.inl ⟨by rfl, ?_⟩) ?_ ?_
                      rotate_left
                      · intro w'
                        go_simp
                        with_reducible rfl
                      rotate_left
                      · simp only [Act.put, List.setIfInBounds_toArray, List.set_cons_zero, List.set_cons_succ, i64_w, i32_w]
                        rfl
                      refine pure_ (i := 14) (N := some 27) (v := ?_) (a' := ?_) #[true, true, true, true, false, false, false, true, true, true, true, false, false, true, true, false, false, false, false, false, false, false] rfl rfl (any_of HT_.out (by kernel_rfl)) (fun _ _ _ h => h) (Or.inl ⟨by rfl, ?_⟩) ?_ ?_
                      rotate_left
                      · intro w'
                        go_simp
                        with_reducible rfl
                      rotate_left
                      · simp only [Act.put, List.setIfInBounds_toArray, List.set_cons_zero, List.set_cons_succ, i64_w, i32_w]
                        rfl
                      refine pure_ (i := 15) (N := some 28) (v := ?_) (a' := ?_) #[true, true, true, true, false, false, false, true, true, true, true, false, false, true, true, true, false, false, false, false, false, false] rfl rfl (any_of HT_.out (by kernel_rfl)) (fun _ _ _ h => h) (Or.inl ⟨by rfl, ?_⟩) ?_ ?_
                      rotate_left
                      · intro w'
                        go_simp
                        with_reducible rfl
                      rotate_left
                      · simp only [Act.put, List.setIfInBounds_toArray, List.set_cons_zero, List.set_cons_succ, i64_w, i32_w]
                        rfl
                      refine take_ (i := 4) (N := some 17) (v := ?_) (a' := ?_) #[true, true, true, true, true, false, false, true, true, true, true, false, false, true, true, true, false, false, false, false, false, false] rfl rfl (take_ofW HT_.out HW_.out (by kernel_rfl)) (fun _ _ _ h => h) (Or.inl ⟨by rfl, ?_⟩) hHeld ?_ ?_
                      rotate_left
                      · rintro w' ⟨s0, s1, s2⟩
                        go_simp
                        with_reducible rfl
                      rotate_left
                      · simp only [Act.put, List.setIfInBounds_toArray, List.set_cons_zero, List.set_cons_succ, i64_w, i32_w]
                        rfl
                      refine pure_ (i := 5) (N := some 18) (v := ?_) (a' := ?_) #[true, true, true, true, true, true, false, true, true, true, true, false, false, true, true, true, false, false, false, false, false, false] rfl rfl (any_of HT_.out (by kernel_rfl)) (fun _ _ _ h => h) (Or.inl ⟨by rfl, ?_⟩) ?_ ?_
                      rotate_left
                      · intro w'
                        go_simp
                        with_reducible rfl
                      rotate_left
                      · simp only [Act.put, List.setIfInBounds_toArray, List.set_cons_zero, List.set_cons_succ, i64_w, i32_w]
                        rfl
                      refine pure_ (i := 6) (N := some 19) (v := ?_) (a' := ?_) #[true, true, true, true, true, true, true, true, true, true, true, false, false, true, true, true, false, false, false, false, false, false] rfl rfl (any_of HT_.out (by kernel_rfl)) (fun _ _ _ h => h) (Or.inl ⟨by rfl, ?_⟩) ?_ ?_
                      rotate_left
                      · intro w'
                        go_simp
                        with_reducible rfl
                      rotate_left
                      · simp only [Act.put, List.setIfInBounds_toArray, List.set_cons_zero, List.set_cons_succ, i64_w, i32_w]
                        rfl
                      refine take_ (i := 11) (N := some 24) (v := ?_) (a' := ?_) #[true, true, true, true, true, true, true, true, true, true, true, true, false, true, true, true, false, false, false, false, false, false] rfl rfl (take_ofW HT_.out HW_.out (by kernel_rfl)) (fun _ _ _ h => h) (Or.inl ⟨by rfl, ?_⟩) hHeld ?_ ?_
                      rotate_left
                      · rintro w' ⟨s0, s1, s2⟩
                        go_simp
                        with_reducible rfl
                      rotate_left
                      · simp only [Act.put, List.setIfInBounds_toArray, List.set_cons_zero, List.set_cons_succ, i64_w, i32_w]
                        rfl
                      refine pure_ (i := 12) (N := some 25) (v := ?_) (a' := ?_) #[true, true, true, true, true, true, true, true, true, true, true, true, true, true, true, true, false, false, false, false, false, false] rfl rfl (any_of HT_.out (by kernel_rfl)) (fun _ _ _ h => h) (Or.inl ⟨by rfl, ?_⟩) ?_ ?_
                      rotate_left
                      · intro w'
                        go_simp
                        with_reducible rfl
                      rotate_left
                      · simp only [Act.put, List.setIfInBounds_toArray, List.set_cons_zero, List.set_cons_succ, i64_w, i32_w]
                        rfl
                      refine take_ (i := 16) (N := some 29) (v := ?_) (a' := ?_) #[true, true, true, true, true, true, true, true, true, true, true, true, true, true, true, true, true, false, false, false, false, false] rfl rfl (take_ofW HT_.out HW_.out (by kernel_rfl)) (fun _ _ _ h => h) (Or.inl ⟨by rfl, ?_⟩) hHeld ?_ ?_
                      rotate_left
                      · rintro w' ⟨s0, s1, s2⟩
                        go_simp
                        with_reducible rfl
                      rotate_left
                      · simp only [Act.put, List.setIfInBounds_toArray, List.set_cons_zero, List.set_cons_succ, i64_w, i32_w]
                        rfl
                      refine pure_ (i := 17) (N := some 30) (v := ?_) (a' := ?_) #[true, true, true, true, true, true, true, true, true, true, true, true, true, true, true, true, true, true, false, false, false, false] rfl rfl (any_of HT_.out (by kernel_rfl)) (fun _ _ _ h => h) (Or.inl ⟨by rfl, ?_⟩) ?_ ?_
                      rotate_left
                      · intro w'
                        go_simp
                        with_reducible rfl
                      rotate_left
                      · simp only [Act.put, List.setIfInBounds_toArray, List.set_cons_zero, List.set_cons_succ, i64_w, i32_w]
                        rfl
                      refine pure_ (i := 18) (N := some 31) (v := ?_) (a' := ?_) #[true, true, true, true, true, true, true, true, true, true, true, true, true, true, true, true, true, true, true, false, false, false] rfl rfl (any_of HT_.out (by kernel_rfl)) (fun _ _ _ h => h) (Or.inl ⟨by rfl, ?_⟩) ?_ ?_
                      rotate_left
                      · intro w'
                        go_simp
                        with_reducible rfl
                      rotate_left
                      · simp only [Act.put, List.setIfInBounds_toArray, List.set_cons_zero, List.set_cons_succ, i64_w, i32_w]
                        rfl
                      refine pure_ (i := 19) (N := some 32) (v := ?_) (a' := ?_) #[true, true, true, true, true, true, true, true, true, true, true, true, true, true, true, true, true, true, true, true, false, false] rfl rfl (any_of HT_.out (by kernel_rfl)) (fun _ _ _ h => h) (Or.inl ⟨by rfl, ?_⟩) ?_ ?_
                      rotate_left
                      · intro w'
                        go_simp
                        with_reducible rfl
                      rotate_left
                      · simp only [Act.put, List.setIfInBounds_toArray, List.set_cons_zero, List.set_cons_succ, i64_w, i32_w]
                        rfl
                      refine pure_ (i := 20) (N := some 33) (v := ?_) (a' := ?_) #[true, true, true, true, true, true, true, true, true, true, true, true, true, true, true, true, true, true, true, true, true, false] rfl rfl (any_of HT_.out (by kernel_rfl)) (fun _ _ _ h => h) (Or.inl ⟨by rfl, ?_⟩) ?_ ?_
                      rotate_left
                      · intro w'
                        go_simp
                        with_reducible rfl
                      rotate_left
                      · simp only [Act.put, List.setIfInBounds_toArray, List.set_cons_zero, List.set_cons_succ, i64_w, i32_w]
                        rfl
                      refine last_ (i := 21) (N := none) #[true, true, true, true, true, true, true, true, true, true, true, true, true, true, true, true, true, true, true, true, true, true] rfl rfl (one_of HT_.out (by kernel_rfl)) (by decide) (fun K hK => ?_)
                      refine skip_ (w1 := ?_) (by rfl) rfl ?_ ?_
                      rotate_left
                      · go_simp
                        rfl
                      refine hK.out _ _ ?_
                      clear hK K
                      refine done_ (done_of HT_.out (by kernel_rfl)) ?_
                      try go_wp2
                      go_roundg k1
                      case measure => have := HK1.out; omega
                      case rel => exact ⟨(y170), (wrap64 (x4_1 + 2)), (by first | rfl | (simp; done) | (simp [*]; done)), H', ⟨by have := HK1.out; omega⟩, ⟨by (with_reducible repeat (first | apply Kd.R_alloc | apply Kd.R_drewN | apply Kd.R_drew)); exact HQ18.out⟩, ⟨by repeat (first | (with_reducible first | exact HB.out | apply below_alloc | apply pw_below_drewN | apply below_drew1 | refine below_set ?_ GB16.out) | exact HB.out)⟩⟩
                    · rw [if_neg c15] at H
                      exact absurd H (by simp)
                  · rw [if_neg c14] at H
                    exact absurd H (by simp)
                · rw [if_neg c11] at H
                  exact absurd H (by simp)
              · rw [if_neg c9] at H
                exact absurd H (by simp)
            · rw [if_neg c7] at H
              exact absurd H (by simp)
          · rw [if_neg c6] at H
            exact absurd H (by simp)
        · rw [if_neg c5] at H
          have c5b0 : decide ((wrap64 (x4_1 + 1)) < (l0.length : Int)) = false := decide_eq_false c5
          clear c5
          obtain rfl := Option.some.inj H
          go_wp2
          go_ret
          exact ⟨_, by first | rfl | (simp [errW_none, errW_some] <;> rfl) | (simp [*, errW_none, errW_some] <;> rfl), by (with_reducible repeat (first | apply Kd.R_alloc | apply Kd.R_drewN | apply Kd.R_drew)); exact HO_3.out, by repeat (first | (with_reducible first | exact HB.out | apply below_alloc | apply pw_below_drewN | apply below_drew1) | exact HB.out)⟩
  · rw [if_neg c2] at H
    exact absurd H (by simp)

end Go.Proofs.Ytkdmamffbhlbgaa.PA

-- ---- Uq
/- Frequencies by numbers: what they are good for. -/
namespace Go.Proofs.Ytkdmamffbhlbgaa.PA
set_option linter.unusedVariables false
set_option linter.unusedSimpArgs false
open Go.RowKit Go.Proofs.YtkdmamffbhlbgaaW.PrintWords Go.Proofs.YtkdmamffbhlbgaaW.PrintLast Go.Proofs.YtkdmamffbhlbgaaW.PrintMore Nl

/-- 65 numbers, none below nought, none above 65535. -/
structure FreqOk (f : List Int) : Prop where
  len : f.length = 65
  each : ∀ x ∈ f, 0 ≤ x ∧ x ≤ 65535
theorem mem_set_or {l : List Int} {i : Nat} {v x : Int} (h : x ∈ l.set i v) : x ∈ l ∨ x = v := List.mem_or_eq_of_mem_set h
theorem freqOk_set {f : List Int} (h : FreqOk f) (i : Nat) (v : Int) (h0 : 0 ≤ v) (h1 : v ≤ 65535) : FreqOk (f.set i v) :=
  ⟨by rw [List.length_set]; exact h.len, fun x hx => by
    rcases mem_set_or hx with hx | rfl
    · exact h.each x hx
    · exact ⟨h0, h1⟩⟩
theorem u16_at {ns : List Int} (h : ∀ x ∈ ns, (Lit.int .u16 x).wf = true) (i : Nat) (hi : i < ns.length) : ∃ v : Nat, ns.getD i 0 = (v : Int) ∧ v ≤ 65535 := by
  have hw := h _ (getD_mem hi)
  simp only [Lit.wf, Bool.and_eq_true, decide_eq_true_eq] at hw
  have h1 : IntKind.u16.min = 0 := rfl
  have h2 : IntKind.u16.max = 65535 := rfl
  exact ⟨(ns.getD i 0).toNat, by omega, by omega⟩
theorem u16_wrap (n : Nat) (h : n ≤ 65535) : IntKind.u16.wrap (n : Int) = (n : Int) := by
  simp [IntKind.wrap, IntKind.bits, IntKind.signed]; omega
theorem freq_l0 (ns : List Int) (hw : ∀ x ∈ ns, (Lit.int .u16 x).wf = true) (hl : ns.length < 1000000) : ∀ (d i : Nat) (f : List Int), i + d = ns.length + 1 → FreqOk f →
    ∃ g, Ev (fun k => wringerlaw8_Freq.l0 k ns f (i : Int)) g ∧ FreqOk g := by
  intro d
  induction d using Nat.strongRecOn with
  | _ d ih =>
    intro i f hi hf
    by_cases hlt : i + 1 < ns.length
    · obtain ⟨v, hv, hvb⟩ := u16_at hw i (by omega)
      obtain ⟨u, hu, hub⟩ := u16_at hw (i + 1) hlt
      have hfl := hf.len
      have e5 : u / 2 ^ (v / 65 % 16) ≤ u := Nat.div_le_self _ _
      obtain ⟨p, hp⟩ : ∃ p, p = u / 2 ^ (v / 65 % 16) := ⟨_, rfl⟩
      rw [← hp] at e5
      obtain ⟨g, hg, hgf⟩ := ih (d - 2) (by omega) (i + 2) (f.set (v % 65) (p : Int)) (by omega) (freqOk_set hf _ _ (by omega) (by omega))
      refine ⟨g, Ev.step (f := fun k => wringerlaw8_Freq.l0 k ns (f.set (v % 65) (p : Int)) ((i + 2 : Nat) : Int)) (fun k => ?_) hg, hgf⟩
      have c1 : ((i + 1 : Nat) : Int) < (ns.length : Int) := by omega
      have c2 : (0 : Int) ≤ (i : Int) := by omega
      have c3 : (i : Int) < (ns.length : Int) := by omega
      have c4 : (0 : Int) ≤ ((i + 1 : Nat) : Int) := by omega
      have c5 : (0 : Int) ≤ ((v / 65 % 16 : Nat) : Int) := Int.natCast_nonneg _
      have c6 : (0 : Int) ≤ ((v % 65 : Nat) : Int) := Int.natCast_nonneg _
      have c7 : ((v % 65 : Nat) : Int) < (f.length : Int) := by omega
      have w1 : wrap64 ((i : Int) + 1) = ((i + 1 : Nat) : Int) := by rw [w64 (by omega) (by omega)]; rfl
      have w2 : wrap64 ((i : Int) + 2) = ((i + 2 : Nat) : Int) := by clear w1; rw [w64 (by omega) (by omega)]; rfl
      have w3 : wrap64 (v : Int) = (v : Int) := by clear w1 w2; exact w64 (by omega) (by omega)
      have w4 : wrap64 (u : Int) = (u : Int) := by clear w1 w2 w3; exact w64 (by omega) (by omega)
      have w5 : IntKind.u16.wrap ((v / 65 : Nat) : Int) = ((v / 65 : Nat) : Int) := by clear w1 w2 w3 w4; exact u16_wrap _ (by omega)
      have e4 := shr_nat u (v / 65 % 16) (by clear w1 w2 w3 w4 w5; omega)
      rw [← hp] at e4
      have e1 : Int.tdiv (v : Int) 65 = ((v / 65 : Nat) : Int) := tdiv_nat v 65
      have e2 : Int.tmod (v : Int) 65 = ((v % 65 : Nat) : Int) := tmod_nat v 65
      have e3 : Int.tmod ((v / 65 : Nat) : Int) 16 = ((v / 65 % 16 : Nat) : Int) := tmod_nat _ 16
      simp only [wringerlaw8_Freq.l0]
      rw [w1, w2, rd_nat, rd_nat, hv, hu, w3, w4, e1, w5, e3, e2, e4]
      rw [if_pos c1, if_pos c2, if_pos c3, if_pos c4, if_pos c5, if_pos c6, if_pos c7, Int.toNat_natCast]
    · refine ⟨f, Ev.step (f := fun _ => some f) (fun k => ?_) (Ev.now _), hf⟩
      simp only [wringerlaw8_Freq.l0]
      rw [w64 (x := (i : Int) + 1) (by omega) (by omega), if_neg (by omega)]
theorem freq_is (ns : List Int) (hw : ∀ x ∈ ns, (Lit.int .u16 x).wf = true) (hl : ns.length < 1000000) : ∃ f, Ev (fun k => wringerlaw8_Freq.f k ns) f ∧ FreqOk f := by
  obtain ⟨g, hg, hgf⟩ := freq_l0 ns hw hl (ns.length + 1) 0 (List.replicate 65 0) (by omega) ⟨by simp, fun x hx => by rw [(List.mem_replicate.1 hx).2]; omega⟩
  refine ⟨g, ?_, hgf⟩
  unfold wringerlaw8_Freq.f
  exact Ev.ite_pos (by decide) hg

/-- One more of one class: then they may be asked. -/
theorem fr_more {f : List Int} (h : FreqOk f) (i : Nat) (hi : i < 65) : Fr (f.set i (f.getD i 0 + 1)) := by
  have hg := h.each _ (getD_mem (show i < f.length by rw [h.len]; exact hi))
  have hx : ∀ x ∈ f.set i (f.getD i 0 + 1), 0 ≤ x ∧ x ≤ 65536 := fun x hx => by
    rcases mem_set_or hx with hx | rfl
    · have := h.each x hx; omega
    · omega
  refine ⟨by rw [List.length_set]; exact h.len, fun x hm => (hx x hm).1, fun x hm => by have := (hx x hm).2; omega, ?_⟩
  have h1 := sum_bump f i 1 (by rw [h.len]; exact hi)
  unfold bump at h1
  rw [h1]
  have := sum_nonneg f fun x hx => (h.each x hx).1
  omega
end Go.Proofs.Ytkdmamffbhlbgaa.PA

-- ---- My
/- Several rows of one-cell elements that a call owns side by side: each in a block of its own. No program in sight. -/
namespace Go.Proofs.Ytkdmamffbhlbgaa.Own
set_option linter.unusedSimpArgs false
set_option linter.unusedVariables false
open Go Go.RowKit

/-- In no block both. -/
def Dj (u v : Value) : Prop := ∀ b, u.ownBlock = some b → v.ownBlock ≠ some b
theorem Dj.symm {u v : Value} (h : Dj u v) : Dj v u := fun b h1 h2 => h b h2 h1
/-- These rows, each alone in its block, all from block B on. -/
structure Many (B : Nat) (w : World) (e : TypeId) (R : List (Value × List Value)) : Prop where
  own : ∀ (i : Nat) v xs, R[i]? = some (v, xs) → Owns w e v xs
  new : ∀ (i : Nat) v xs, R[i]? = some (v, xs) → ∀ b, v.ownBlock = some b → B ≤ b
  sep : ∀ (i j : Nat) a xs b ys, i ≠ j → R[i]? = some (a, xs) → R[j]? = some (b, ys) → Dj a b

theorem Many.nil (B : Nat) (w : World) (e : TypeId) : Many B w e [] := ⟨fun i v xs h => by simp at h, fun i v xs h => by simp at h, fun i j a xs b ys _ h => by simp at h⟩
theorem Many.chg {B : Nat} {w w' : World} {S : Nat → Prop} {e : TypeId} {R : List (Value × List Value)} (h : Many B w e R) (hc : Chg S w w') (hn : ∀ (i : Nat) v xs, R[i]? = some (v, xs) → ∀ g, v.ownBlock = some g → ¬ S g) : Many B w' e R :=
  ⟨fun i v xs hi => (h.own i v xs hi).chg hc (hn i v xs hi), h.new, h.sep⟩
theorem Many.later {B : Nat} {w w' : World} {e : TypeId} {R : List (Value × List Value)} (h : Many B w e R) (hb : Below w.heap.size w w') : Many B w' e R :=
  ⟨fun i v xs hi => (h.own i v xs hi).keep fun g hg hl => hb.block g hl, h.new, h.sep⟩
/-- One row has turned. -/
theorem Many.set {B : Nat} {w w' : World} {e : TypeId} {R : List (Value × List Value)} (h : Many B w e R) (i : Nat) {v v' : Value} {xs xs' : List Value} (hi : R[i]? = some (v, xs)) (hc : Chg (fun k => some k = v.ownBlock) w w')
    (ho : Owns w' e v' xs') (hn : ∀ g, v'.ownBlock = some g → some g = v.ownBlock ∨ w.heap.size ≤ g) (hB : B ≤ w.heap.size) : Many B w' e (R.set i (v', xs')) := by
  have hil : i < R.length := (List.getElem?_eq_some_iff.1 hi).1
  refine ⟨fun j u ys hj => ?_, fun j u ys hj b hb => ?_, fun j k a ys b zs hjk hj hk => ?_⟩
  · by_cases e1 : j = i
    · subst e1
      rw [List.getElem?_set_self hil, Option.some.injEq, Prod.mk.injEq] at hj
      obtain ⟨rfl, rfl⟩ := hj; exact ho
    · rw [List.getElem?_set_ne (fun e => e1 e.symm)] at hj
      exact (h.own j u ys hj).chg hc fun g hg hs => h.sep j i u ys v xs e1 hj hi g hg hs.symm
  · by_cases e1 : j = i
    · subst e1
      rw [List.getElem?_set_self hil, Option.some.injEq, Prod.mk.injEq] at hj
      obtain ⟨rfl, rfl⟩ := hj
      rcases hn b hb with h1 | h1
      · exact h.new j v xs hi b h1.symm
      · omega
    · rw [List.getElem?_set_ne (fun e => e1 e.symm)] at hj; exact h.new j u ys hj b hb
  · have other : ∀ (m : Nat) (u : Value) (us : List Value), m ≠ i → R[m]? = some (u, us) → Dj u v' := fun m u us hm hmu g hg hv => by
      rcases hn g hv with h1 | h1
      · exact h.sep m i u us v xs hm hmu hi g hg h1.symm
      · have := (h.own m u us hmu).lt g hg; omega
    by_cases e1 : j = i
    · subst e1
      have e2 : k ≠ j := fun e => hjk e.symm
      rw [List.getElem?_set_self hil, Option.some.injEq, Prod.mk.injEq] at hj
      rw [List.getElem?_set_ne (fun e => e2 e.symm)] at hk
      obtain ⟨rfl, rfl⟩ := hj
      exact (other k b zs e2 hk).symm
    · rw [List.getElem?_set_ne (fun e => e1 e.symm)] at hj
      by_cases e2 : k = i
      · subst e2
        rw [List.getElem?_set_self hil, Option.some.injEq, Prod.mk.injEq] at hk
        obtain ⟨rfl, rfl⟩ := hk
        exact other j a ys e1 hj
      · rw [List.getElem?_set_ne (fun e => e2 e.symm)] at hk
        exact h.sep j k a ys b zs hjk hj hk
/-- A new row. -/
theorem Many.add {B : Nat} {w w' : World} {e : TypeId} {R : List (Value × List Value)} (h : Many B w e R) (hb : Below w.heap.size w w') {v : Value} {xs : List Value} (ho : Owns w' e v xs) (hn : ∀ g, v.ownBlock = some g → w.heap.size ≤ g) (hB : B ≤ w.heap.size) : Many B w' e (R ++ [(v, xs)]) := by
  have h' := h.later hb
  have last : ∀ (j : Nat) u ys, (R ++ [(v, xs)])[j]? = some (u, ys) → R[j]? = some (u, ys) ∨ (j = R.length ∧ u = v ∧ ys = xs) := fun j u ys hj => by
    rcases Nat.lt_trichotomy j R.length with h1 | h1 | h1
    · rw [List.getElem?_append_left h1] at hj; exact .inl hj
    · subst h1
      rw [List.getElem?_append_right (Nat.le_refl _)] at hj
      simp at hj; exact .inr ⟨rfl, hj.1.symm, hj.2.symm⟩
    · rw [List.getElem?_eq_none (by simp; omega)] at hj; cases hj
  have oth : ∀ (j : Nat) u ys, R[j]? = some (u, ys) → Dj u v := fun j u ys hj g hg hv => by
    have := (h.own j u ys hj).lt g hg; have := hn g hv; omega
  refine ⟨fun j u ys hj => ?_, fun j u ys hj b hb => ?_, fun j k a ys b zs hjk hj hk => ?_⟩
  · rcases last j u ys hj with h1 | ⟨_, rfl, rfl⟩
    · exact h'.own j u ys h1
    · exact ho
  · rcases last j u ys hj with h1 | ⟨_, rfl, rfl⟩
    · exact h'.new j u ys h1 b hb
    · have := hn b hb; omega
  · rcases last j a ys hj with h1 | ⟨rfl, rfl, rfl⟩
    · rcases last k b zs hk with h2 | ⟨rfl, rfl, rfl⟩
      · exact h'.sep j k a ys b zs hjk h1 h2
      · exact oth j a ys h1
    · rcases last k b zs hk with h2 | ⟨rfl, rfl, rfl⟩
      · exact (oth k b zs h2).symm
      · exact absurd rfl hjk
/-- A block of another type stays. -/
theorem Many.other {B : Nat} {w w' : World} {e t : TypeId} {R : List (Value × List Value)} (h : Many B w e R) (i : Nat) {v : Value} {xs : List Value} (hi : R[i]? = some (v, xs)) (hc : Chg (fun k => some k = v.ownBlock) w w') {p : Nat} {cs : Array Value} (hp : Blk w p cs t) (hne : e ≠ t) : Blk w' p cs t :=
  hc.keep hp fun hs => (h.own i v xs hi).ne hp hne hs.symm
/-- A block of another type is written. -/
theorem Many.setBlk {B : Nat} {w : World} {e t : TypeId} {R : List (Value × List Value)} (h : Many B w e R) {p : Nat} {cs : Array Value} (hp : Blk w p cs t) (hne : e ≠ t) (j : Nat) (u : Value) : Many B (w.setCell ⟨p, j, none⟩ u) e R :=
  h.chg (Chg.setCell w _ _) fun i v xs hi g hg hs => (h.own i v xs hi).ne hp hne (by rw [hg]; exact congrArg some hs)
theorem Many.below {B : Nat} {w w' : World} {e : TypeId} {R : List (Value × List Value)} (h : Many B w e R) (i : Nat) {v : Value} {xs : List Value} (hi : R[i]? = some (v, xs)) (hc : Chg (fun k => some k = v.ownBlock) w w') (hB : B ≤ w.heap.size) : Below B w w' :=
  hc.below hB fun k hk hs => by have := h.new i v xs hi k hs.symm; omega
/-- One cell of a row is written. -/
theorem Many.store {B : Nat} {w : World} {e : TypeId} {R : List (Value × List Value)} (h : Many B w e R) (i : Nat) {g n cap : Nat} {xs : List Value} (hi : R[i]? = some (.slice (some ⟨g, 0, none⟩) n cap, xs)) (j : Nat) (u : Value) (hB : B ≤ w.heap.size) :
    Many B (w.setCell ⟨g, j, none⟩ u) e (R.set i (.slice (some ⟨g, 0, none⟩) n cap, xs.set j u)) :=
  h.set i hi (by have := Chg.setCell w ⟨g, j, none⟩ u; exact this.mono fun k _ hk => by rw [hk]; rfl) ((h.own i _ _ hi).store j u) (fun b hb => .inl hb.symm) hB
end Go.Proofs.Ytkdmamffbhlbgaa.Own
namespace Go.Proofs.Ytkdmamffbhlbgaa
open Go.RowKit _root_.Go.Proofs.Ytkdmamffbhlbgaa.Own
theorem sliceI {w : World} {e : TypeId} {k : IntKind} {v : Value} {xs : List Int} (h : Owns w e v (ints k xs)) : ∃ a c, v = .slice a xs.length c := by
  obtain ⟨a, c, h, _⟩ := h.slice
  exact ⟨a, c, by rw [h, length_ints]⟩
theorem rowI {w : World} {e : TypeId} {k : IntKind} {v : Value} {xs : List Int} (h : Owns w e v (ints k xs)) (hx : xs ≠ []) : ∃ g c, v = .slice (some ⟨g, 0, none⟩) xs.length c ∧ xs.length ≤ c ∧ g < w.heap.size := by
  obtain ⟨g, c, h1, h2, h3⟩ := h.row (by intro e; exact hx (by have := congrArg List.length e; rw [length_ints] at this; exact List.length_eq_zero_iff.1 this))
  rw [length_ints] at h1 h2
  exact ⟨g, c, h1, h2, h3⟩
theorem ints_set (k : IntKind) (l : List Int) (i : Nat) (v : Int) : ints k (l.set i v) = (ints k l).set i (.int k v) := by simp [ints, List.map_set]
end Go.Proofs.Ytkdmamffbhlbgaa

-- ---- Rc
/- wringerref7's best.cost: the least cost of a state, with what is known already. Conditions: the memory that 'Tab' tells. -/
namespace Go.Proofs.Ytkdmamffbhlbgaa
set_option linter.unusedSimpArgs false
set_option linter.unusedVariables false
open Go.RowKit Mix _root_.Go.Proofs.Ytkdmamffbhlbgaa.Own

namespace Dp
/-- A cost as the document's function tells it. -/
def enc : Option Int → Int
  | none => -1
  | some x => x
def sums (g : List Int) : List Int := (List.range (g.length + 1)).map fun i => (g.drop i).sum
theorem length_sums (g : List Int) : (sums g).length = g.length + 1 := by simp [sums]
theorem sums_at (g : List Int) (i : Nat) (h : i ≤ g.length) : (sums g).getD i 0 = (g.drop i).sum := by
  unfold sums; simp [List.getD_eq_getElem?_getD, show i < g.length + 1 by omega]
/-- Frequencies in order, few and not great. -/
structure Gs (g : List Int) : Prop where
  len : g.length ≤ 65
  each : ∀ x ∈ g, 0 ≤ x ∧ x ≤ 16777216
theorem sum_le : ∀ (g : List Int), (∀ x ∈ g, 0 ≤ x ∧ x ≤ 16777216) → 0 ≤ g.sum ∧ g.sum ≤ 16777216 * (g.length : Int) := by
  intro g
  induction g with
  | nil => intro _; simp
  | cons a t ih =>
    intro h
    have h1 := h a (by simp)
    have h2 := ih fun x hx => h x (List.mem_cons_of_mem _ hx)
    rw [List.sum_cons, List.length_cons]
    omega
theorem Gs.sum {g : List Int} (h : Gs g) (i : Nat) : 0 ≤ (g.drop i).sum ∧ (g.drop i).sum ≤ 1090519040 := by
  have h1 := sum_le (g.drop i) fun x hx => h.each x (List.mem_of_mem_drop hx)
  have h2 := h.len
  rw [List.length_drop] at h1
  omega
theorem dp_le : ∀ (r : Nat) (g : List Int) (o : Nat) (x : Int), Gs g → dp r g o = some x → 0 ≤ x ∧ x ≤ 1090519040 * (r : Int) := by
  intro r
  induction r with
  | zero =>
    intro g o x hg h
    by_cases e : g = []
    · subst e; rw [dp_nil] at h; split at h <;> simp at h; omega
    · rw [dp_out e (by omega)] at h; cases h
  | succ r ih =>
    intro g o x hg h
    by_cases e : g = []
    · subst e; rw [dp_nil] at h; split at h <;> simp at h; omega
    · obtain ⟨_, _, y, hy, hx⟩ := dp_some h e
      have h1 := ih _ _ _ ⟨by have := hg.len; rw [List.length_drop]; omega, fun f hf => hg.each f (List.mem_of_mem_drop hf)⟩ hy
      have h2 := hg.sum (take r g o)
      omega
theorem Gs.drop {g : List Int} (h : Gs g) (j : Nat) : Gs (g.drop j) := ⟨by have := h.len; rw [List.length_drop]; omega, fun f hf => h.each f (List.mem_of_mem_drop hf)⟩

/-- The least of the candidates below n, from 0 on. -/
def minUp (c : Nat → Option Int) : Nat → Option Int
  | 0 => none
  | n + 1 => match c n with
    | none => minUp c n
    | some x => match minUp c n with
      | none => some x
      | some y => if x < y then some x else some y
theorem minUp_spec (c : Nat → Option Int) : ∀ n, match minUp c n with
    | none => ∀ j, j < n → c j = none
    | some x => (∃ k, k < n ∧ c k = some x) ∧ ∀ j y, j < n → c j = some y → x ≤ y := by
  intro n
  induction n with
  | zero => simp only [minUp]; intro j h; omega
  | succ n ih =>
    simp only [minUp]
    cases hc : c n with
    | none =>
      simp only
      cases hm : minUp c n with
      | none =>
        rw [hm] at ih; simp only at ih ⊢
        intro j hj
        by_cases e : j = n
        · rw [e]; exact hc
        · exact ih j (by omega)
      | some x =>
        rw [hm] at ih; simp only at ih ⊢
        obtain ⟨⟨k, hk, hck⟩, h2⟩ := ih
        refine ⟨⟨k, by omega, hck⟩, fun j y hj hjy => ?_⟩
        by_cases e : j = n
        · rw [e, hc] at hjy; cases hjy
        · exact h2 j y (by omega) hjy
    | some x =>
      simp only
      cases hm : minUp c n with
      | none =>
        rw [hm] at ih; simp only at ih ⊢
        refine ⟨⟨n, by omega, hc⟩, fun j y hj hjy => ?_⟩
        by_cases e : j = n
        · rw [e, hc] at hjy; cases hjy; omega
        · rw [ih j (by omega)] at hjy; cases hjy
      | some z =>
        rw [hm] at ih; simp only at ih ⊢
        obtain ⟨⟨k, hk, hck⟩, h2⟩ := ih
        by_cases hxz : x < z
        · rw [if_pos hxz]; simp only
          refine ⟨⟨n, by omega, hc⟩, fun j y hj hjy => ?_⟩
          by_cases e : j = n
          · rw [e, hc] at hjy; cases hjy; omega
          · have := h2 j y (by omega) hjy; omega
        · rw [if_neg hxz]; simp only
          refine ⟨⟨k, by omega, hck⟩, fun j y hj hjy => ?_⟩
          by_cases e : j = n
          · rw [e, hc] at hjy; cases hjy; omega
          · exact h2 j y (by omega) hjy
theorem minUp_best (c : Nat → Option Int) (o : Nat) : minUp c (o + 1) = (best c o).map Prod.fst := by
  have h1 := minUp_spec c (o + 1)
  have h2 := best_spec c o
  cases hb : best c o with
  | none =>
    rw [hb] at h2
    cases hm : minUp c (o + 1) with
    | none => rfl
    | some x => rw [hm] at h1; simp only at h1; obtain ⟨⟨k, hk, hck⟩, _⟩ := h1; rw [h2 k (by omega) (by omega)] at hck; cases hck
  | some p =>
    obtain ⟨y, m⟩ := p
    rw [hb] at h2
    obtain ⟨_, b2, b3, b4⟩ := h2
    cases hm : minUp c (o + 1) with
    | none => rw [hm] at h1; simp only at h1; rw [h1 m (by omega)] at b3; cases b3
    | some x =>
      rw [hm] at h1; simp only at h1
      obtain ⟨⟨k, hk, hck⟩, h3⟩ := h1
      have e1 := h3 m y (by omega) b3
      have e2 := (b4 k x (by omega) (by omega) hck).1
      simp; omega

/-- The table of what is known. -/
def key (d j o : Nat) : Nat := (d * 70 + j) * 140 + o
theorem key_inj {d j o d' j' o' : Nat} (h1 : j < 70) (h2 : o < 140) (h3 : j' < 70) (h4 : o' < 140) (h : key d j o = key d' j' o') : d = d' ∧ j = j' ∧ o = o' := by
  unfold key at h
  refine ⟨?_, ?_, ?_⟩ <;> omega
structure KGood (lim : Nat) (g K : List Int) : Prop where
  len : K.length = 166600
  at_ : ∀ d j o, 1 ≤ d → d ≤ lim → j < 70 → o < 140 → K.getD (key d j o) 0 = 0 ∨ K.getD (key d j o) 0 = enc (dp (lim + 1 - d) (g.drop j) o) + 2
theorem KGood.set {lim : Nat} {g K : List Int} (h : KGood lim g K) {d j o : Nat} (hd : 1 ≤ d) (hdl : d ≤ lim) (hj : j < 70) (ho : o < 140) (hl : lim ≤ 15) : KGood lim g (K.set (key d j o) (enc (dp (lim + 1 - d) (g.drop j) o) + 2)) := by
  refine ⟨by rw [List.length_set]; exact h.len, fun d' j' o' h1 h2 h3 h4 => ?_⟩
  have hk : key d j o < K.length := by rw [h.len]; unfold key; omega
  by_cases e : key d j o = key d' j' o'
  · obtain ⟨rfl, rfl, rfl⟩ := key_inj hj ho h3 h4 e
    right
    simp [List.getD_eq_getElem?_getD, List.getElem?_set_self hk]
  · have := h.at_ d' j' o' h1 h2 h3 h4
    simp only [List.getD_eq_getElem?_getD, List.getElem?_set_ne e] at this ⊢
    exact this
end Dp
open Dp

/-- A maker of the document's at block p. -/
structure Tab (w : World) (p : Nat) (vf vk vs : Value) (lim : Nat) (g K : List Int) : Prop where
  blk : Blk w p #[vf, .int .i64 (lim : Int), vk, vs] 58
  rf : Owns w 3 vf (ints .i64 g)
  rk : Owns w 3 vk (ints .i64 K)
  rs : Owns w 3 vs (ints .i64 (sums g))
  nf : ∀ b, vk.ownBlock = some b → vf.ownBlock ≠ some b
  ns : ∀ b, vk.ownBlock = some b → vs.ownBlock ≠ some b
  good : KGood lim g K

set_option maxHeartbeats 1000000 in
theorem key_calls (x : Option Addr) (d j o : Nat) (w : World) (hd : d ≤ 100) (hj : j ≤ 1000) (ho : o ≤ 1000) :
    Calls Try.prog 24 #[.pointer x, .int .i64 (d : Int), .int .i64 (j : Int), .int .i64 (o : Int)] w fun e w' => e = .returned (.int .i64 (key d j o : Int)) ∧ w = w' := by
  go_enter Try.func24, Try.ntmps24
  go_wp2_with fail
  go_ret
  exact ⟨by unfold key; rfl, rfl⟩

/-- The answer of cost, and what it leaves. -/
def CostE (g : List Int) (lim p : Nat) (vf vk vs : Value) (r j o : Nat) (w : World) (e : Ending) (w' : World) : Prop :=
  e = .returned (.int .i64 (enc (dp r (g.drop j) o))) ∧ ∃ K', Tab w' p vf vk vs lim g K' ∧ Chg (fun b => some b = vk.ownBlock) w w'

set_option maxHeartbeats 2000000 in
theorem cost_end (g : List Int) (lim p : Nat) (vf vk vs : Value) (K : List Int) (r d j o : Nat) (w : World) (hT : Tab w p vf vk vs lim g K) (hg : Gs g) (hj : j = g.length) (ho : o ≤ 1000) (hd : d ≤ 100) :
    Calls Try.prog 21 #[.pointer (some ⟨p, 0, none⟩), .int .i64 (d : Int), .int .i64 (j : Int), .int .i64 (o : Int)] w (CostE g lim p vf vk vs r j o w) := by
  obtain ⟨af, cf, rfl⟩ := sliceI hT.rf
  have c0 := hT.blk.cell (i := 0) rfl
  have e0 : (g.length : Int) - (j : Int) = 0 := by omega
  have HR := kept (show dp r (g.drop j) o = if o = 0 then some 0 else none by rw [List.drop_eq_nil_of_le (by omega), dp_nil])
  have HT := kept hT
  have HG := kept hg
  clear hT hg hj
  by_cases h0 : o = 0
  · subst h0
    go_enter Try.func21, Try.ntmps21
    go_wp2_with fail
    go_ret
    exact ⟨by rw [HR.out]; rfl, K, HT.out, Chg.refl _ _⟩
  · have t0 : ((o : Int) == 0) = false := by rw [beq_eq_false_iff_ne]; omega
    have H0 := kept h0
    clear h0
    go_enter Try.func21, Try.ntmps21
    go_wp2_with fail
    go_ret
    exact ⟨by rw [HR.out, if_neg H0.out]; rfl, K, HT.out, Chg.refl _ _⟩

set_option maxHeartbeats 2000000 in
theorem cost_out (g : List Int) (lim p : Nat) (vf vk vs : Value) (K : List Int) (r d j o : Nat) (w : World) (hT : Tab w p vf vk vs lim g K) (hg : Gs g) (hj : j < g.length) (ho : o ≤ 1000) (hd : d ≤ 100) (hr : d + r = lim + 1)
    (hout : o = 0 ∨ g.length < j + o ∨ r = 0) :
    Calls Try.prog 21 #[.pointer (some ⟨p, 0, none⟩), .int .i64 (d : Int), .int .i64 (j : Int), .int .i64 (o : Int)] w (CostE g lim p vf vk vs r j o w) := by
  obtain ⟨af, cf, rfl⟩ := sliceI hT.rf
  have c0 := hT.blk.cell (i := 0) rfl
  have c1 := hT.blk.cell (i := 1) rfl
  have hne : g.drop j ≠ [] := by intro e; have := congrArg List.length e; rw [List.length_drop] at this; simp at this; omega
  have HR := kept (show dp r (g.drop j) o = none from dp_out hne (by rw [List.length_drop]; omega))
  have e0 : (((g.length : Int) - (j : Int)) == 0) = false := by rw [beq_eq_false_iff_ne]; omega
  have HT := kept hT
  have hl := hg.len
  clear hT hg hne
  by_cases h0 : o = 0
  · subst h0
    clear hout
    go_enter Try.func21, Try.ntmps21
    go_wp2_with fail
    go_ret
    exact ⟨by rw [HR.out]; rfl, K, HT.out, Chg.refl _ _⟩
  · have t0 : ((o : Int) == 0) = false := by rw [beq_eq_false_iff_ne]; omega
    by_cases h1 : g.length < j + o
    · have t1 : decide (((g.length : Int) - (j : Int)) < (o : Int)) = true := by rw [decide_eq_true_eq]; omega
      clear hout h0
      go_enter Try.func21, Try.ntmps21
      go_wp2_with fail
      go_ret
      exact ⟨by rw [HR.out]; rfl, K, HT.out, Chg.refl _ _⟩
    · have t1 : decide (((g.length : Int) - (j : Int)) < (o : Int)) = false := by rw [decide_eq_false_iff_not]; omega
      have t2 : decide ((lim : Int) < (d : Int)) = true := by rw [decide_eq_true_eq]; omega
      have t3 : lim < d := by omega
      clear hout h0 h1
      go_enter Try.func21, Try.ntmps21
      go_wp2_with fail
      go_ret
      exact ⟨by rw [HR.out]; rfl, K, HT.out, Chg.refl _ _⟩

set_option maxHeartbeats 2000000 in
theorem cost_known (g : List Int) (lim p : Nat) (vf vk vs : Value) (K : List Int) (r d j o : Nat) (w : World) (hT : Tab w p vf vk vs lim g K) (hg : Gs g) (hj : j < g.length) (ho : j + o ≤ g.length) (ho1 : 1 ≤ o) (hd : 1 ≤ d) (hlim : lim ≤ 15) (hr : d + (r + 1) = lim + 1)
    (hk : K.getD (key d j o) 0 = enc (dp (r + 1) (g.drop j) o) + 2) :
    Calls Try.prog 21 #[.pointer (some ⟨p, 0, none⟩), .int .i64 (d : Int), .int .i64 (j : Int), .int .i64 (o : Int)] w (CostE g lim p vf vk vs (r + 1) j o w) := by
  obtain ⟨af, cf, rfl⟩ := sliceI hT.rf
  have hl := hg.len
  have hKl := hT.good.len
  obtain ⟨gk, ck, rfl, _, _⟩ := rowI hT.rk (by intro e; rw [e] at hKl; simp at hKl)
  have c0 := hT.blk.cell (i := 0) rfl
  have c1 := hT.blk.cell (i := 1) rfl
  have c2 := hT.blk.cell (i := 2) rfl
  rw [hKl] at c2
  obtain ⟨m, hm⟩ : ∃ m, m = key d j o := ⟨_, rfl⟩
  have hm2 : m < 166600 := by rw [hm]; unfold key; omega
  have ck2 := hT.rk.cell (j := m) (Own.ints_at .i64 K m (by rw [hKl]; exact hm2))
  obtain ⟨z, hz⟩ : ∃ z, z = enc (dp (r + 1) (g.drop j) o) := ⟨_, rfl⟩
  have hz1 : -1 ≤ z ∧ z ≤ 20000000000 := by
    rw [hz]
    cases e : dp (r + 1) (g.drop j) o with
    | none => simp [enc]
    | some x => have := dp_le _ _ _ _ (hg.drop j) e; simp only [enc]; omega
  rw [← hm] at hk
  rw [hk, ← hz] at ck2
  have e0 : (((g.length : Int) - (j : Int)) == 0) = false := by rw [beq_eq_false_iff_ne]; omega
  have t0 : ((o : Int) == 0) = false := by rw [beq_eq_false_iff_ne]; omega
  have t1 : decide (((g.length : Int) - (j : Int)) < (o : Int)) = false := by rw [decide_eq_false_iff_not]; omega
  have t2 : decide ((lim : Int) < (d : Int)) = false := by rw [decide_eq_false_iff_not]; omega
  have HK := kept (fun (x : Option Addr) => key_calls x d j o w (by omega) (by omega) (by omega))
  rw [← hm] at HK
  obtain ⟨hz1a, hz1b⟩ := hz1
  have hz3 : 0 < z + 2 := by omega
  have t3 : decide (0 < z + 2) = true := decide_eq_true hz3
  have HZ := kept hz
  have HT := kept hT
  clear hT hg hk hm hz
  go_enter Try.func21, Try.ntmps21
  go_wp2_with (first | (go_at_call 24; refine (HK.out _).mono ?_; rintro e w1 ⟨rfl, rfl⟩))
  go_ret
  exact ⟨by rw [← HZ.out]; rfl, K, HT.out, Chg.refl _ _⟩

end Go.Proofs.Ytkdmamffbhlbgaa

-- ---- Rd
/- wringerref7's best.cost, whole. Conditions: the memory that 'Tab' tells. -/
namespace Go.Proofs.Ytkdmamffbhlbgaa
set_option linter.unusedSimpArgs false
set_option linter.unusedVariables false
open Go.RowKit Mix _root_.Go.Proofs.Ytkdmamffbhlbgaa.Own Dp

theorem Tab.store {w : World} {p gk n ck : Nat} {vf vs : Value} {lim : Nat} {g K : List Int} (h : Tab w p vf (.slice (some ⟨gk, 0, none⟩) n ck) vs lim g K) (m : Nat) (v : Int) (hg : KGood lim g (K.set m v)) :
    Tab (w.setCell ⟨gk, m, none⟩ (.int .i64 v)) p vf (.slice (some ⟨gk, 0, none⟩) n ck) vs lim g (K.set m v) := by
  have hp : p ≠ gk := fun e => h.rk.ne h.blk (by decide) (by rw [e]; rfl)
  refine ⟨h.blk.setOther hp _, h.rf.setOther (fun e => h.nf gk rfl e) _, by rw [ints_set]; exact h.rk.store m _, h.rs.setOther (fun e => h.ns gk rfl e) _, h.nf, h.ns, hg⟩
theorem Tab.known {w : World} {p : Nat} {vf vk vs : Value} {lim : Nat} {g K : List Int} (h : Tab w p vf vk vs lim g K) : ∃ gk ck, vk = .slice (some ⟨gk, 0, none⟩) 166600 ck := by
  have hKl := h.good.len
  obtain ⟨gk, ck, e, _, _⟩ := rowI h.rk (by intro e; rw [e] at hKl; simp at hKl)
  rw [hKl] at e
  exact ⟨gk, ck, e⟩
theorem Tab.sum {w : World} {p : Nat} {vf vk vs : Value} {lim : Nat} {g K : List Int} (h : Tab w p vf vk vs lim g K) : ∃ gs cs, vs = .slice (some ⟨gs, 0, none⟩) (g.length + 1) cs ∧ ∀ i, i ≤ g.length → w.cell? ⟨gs, i, none⟩ = some (.int .i64 (g.drop i).sum) := by
  obtain ⟨gs, cs, e, _, _⟩ := rowI h.rs (by intro e; have := congrArg List.length e; rw [length_sums] at this; simp at this)
  subst e
  rw [length_sums]
  refine ⟨gs, cs, rfl, fun i hi => ?_⟩
  have := h.rs.cell (j := i) (Own.ints_at .i64 (sums g) i (by rw [length_sums]; omega))
  rw [sums_at g i hi] at this
  exact this

theorem minUp_ge {g : List Int} (hg : Gs g) (r j o t : Nat) (y : Int) (h : minUp (cand r (g.drop j) o) t = some y) : 0 ≤ y ∧ y ≤ 1090519040 * ((r : Int) + 1) := by
  have hs := minUp_spec (cand r (g.drop j) o) t
  rw [h] at hs
  obtain ⟨⟨k, _, hk⟩, _⟩ := hs
  unfold cand at hk
  cases hd : dp r ((g.drop j).drop k) (2 * (o - k)) with
  | none => rw [hd] at hk; cases hk
  | some z =>
    rw [hd] at hk
    simp only [Option.map_some, Option.some.injEq] at hk
    have h1 := dp_le _ _ _ _ ((hg.drop j).drop k) hd
    have h2 := (hg.drop j).sum k
    omega

set_option maxHeartbeats 800000 in
theorem cost_calls (g : List Int) (lim p : Nat) (vf vk vs : Value) (hg : Gs g) (hlim : lim ≤ 15) : ∀ (r d j o : Nat) (K : List Int) (w : World), Tab w p vf vk vs lim g K → j ≤ g.length → o ≤ 130 → 1 ≤ d → d + r = lim + 1 →
    Calls Try.prog 21 #[.pointer (some ⟨p, 0, none⟩), .int .i64 (d : Int), .int .i64 (j : Int), .int .i64 (o : Int)] w (CostE g lim p vf vk vs r j o w) := by
  intro r
  induction r with
  | zero =>
    intro d j o K w hT hj ho hd hr
    by_cases h : j = g.length
    · exact cost_end g lim p vf vk vs K 0 d j o w hT hg h (by omega) (by omega)
    · exact cost_out g lim p vf vk vs K 0 d j o w hT hg (by omega) (by omega) (by omega) hr (.inr (.inr rfl))
  | succ r ih =>
    intro d j o K w hT hj ho hd hr
    by_cases h : j = g.length
    · exact cost_end g lim p vf vk vs K (r + 1) d j o w hT hg h (by omega) (by omega)
    by_cases h2 : o = 0 ∨ g.length < j + o
    · exact cost_out g lim p vf vk vs K (r + 1) d j o w hT hg (by omega) (by omega) (by omega) hr (by omega)
    have hjl : j < g.length := by omega
    have ho1 : 1 ≤ o := by omega
    have hjo : j + o ≤ g.length := by omega
    clear h h2 ho hj
    have hl := hg.len
    have hd15 : d ≤ lim := by omega
    rcases hT.good.at_ d j o hd (by omega) (by omega) (by omega) with hk | hk
    · -- not known yet
      obtain ⟨af, cf, rfl⟩ := sliceI hT.rf
      obtain ⟨gk, ck, rfl⟩ := hT.known
      have hKl := hT.good.len
      obtain ⟨m, hm⟩ : ∃ m, m = key d j o := ⟨_, rfl⟩
      have hm2 : m < 166600 := by rw [hm]; unfold key; omega
      have c0 := hT.blk.cell (i := 0) rfl
      have c1 := hT.blk.cell (i := 1) rfl
      have c2 := hT.blk.cell (i := 2) rfl
      have ck2 := hT.rk.cell (j := m) (Own.ints_at .i64 K m (by rw [hKl]; exact hm2))
      rw [← hm] at hk
      rw [hk] at ck2
      have e0 : (((g.length : Int) - (j : Int)) == 0) = false := by rw [beq_eq_false_iff_ne]; omega
      have t0 : ((o : Int) == 0) = false := by rw [beq_eq_false_iff_ne]; omega
      have t1 : decide (((g.length : Int) - (j : Int)) < (o : Int)) = false := by rw [decide_eq_false_iff_not]; omega
      have t2 : decide ((lim : Int) < (d : Int)) = false := by rw [decide_eq_false_iff_not]; omega
      have HK := kept (fun (x : Option Addr) => key_calls x d j o w (by omega) (by omega) (by omega))
      rw [← hm] at HK
      obtain ⟨c, hc⟩ : ∃ c, c = cand r (g.drop j) o := ⟨_, rfl⟩
      have HC := kept hc
      have hne : g.drop j ≠ [] := by intro e; have := congrArg List.length e; rw [List.length_drop] at this; simp at this; omega
      have HD := kept (show dp (r + 1) (g.drop j) o = minUp c (o + 1) by rw [minUp_best, dp_in hne ho1 (by rw [List.length_drop]; omega), hc])
      have HM := kept hm
      have HT := kept hT
      have HG := kept hg
      have IH := kept ih
      clear hT hg hk hm hc hne ih
      go_enter Try.func21, Try.ntmps21
      go_wp2_with (first | (go_at_call 24; refine (HK.out _).mono ?_; rintro e w1 ⟨rfl, rfl⟩))
      go_loopw [11, 12] (fun s11 s12 wr => ∃ t : Nat, t ≤ o + 1 ∧ s12 = .int .i64 (t : Int) ∧ s11 = .int .i64 (enc (minUp c t)) ∧ ∃ K', Tab wr p (.slice af g.length cf) (.slice (some ⟨gk, 0, none⟩) 166600 ck) vs lim g K' ∧ Chg (fun b => some b = (Value.slice (some ⟨gk, 0, none⟩) 166600 ck).ownBlock) w wr)
        (fun _ s12 _ => o + 1 - (intOf s12).toNat)
      case atStart => exact ⟨0, Nat.zero_le _, rfl, rfl, K, HT.out, Chg.refl _ _⟩
      case round =>
        obtain ⟨t, ht, rfl, rfl, K1, hT1, hC1⟩ := hrel
        have hlt := HG.out.len
        by_cases hto : t ≤ o
        · obtain ⟨gs, cs, rfl, hsum⟩ := hT1.sum
          have d3 := hT1.blk.cell (i := 3) rfl
          have dsum := hsum (j + t) (by omega)
          obtain ⟨S, hS⟩ : ∃ S, S = (g.drop (j + t)).sum := ⟨_, rfl⟩
          have hS1 := HG.out.sum (j + t)
          rw [← hS] at dsum hS1
          have hcall := IH.out (d + 1) (j + t) (2 * (o - t)) K1 wr hT1 (by omega) (by omega) (by omega) (by omega)
          rw [show ((d + 1 : Nat) : Int) = (d : Int) + 1 by omega, show ((j + t : Nat) : Int) = (j : Int) + (t : Int) by omega, show ((2 * (o - t) : Nat) : Int) = 2 * ((o : Int) - (t : Int)) by omega] at hcall
          have hcand : c t = (dp r (g.drop (j + t)) (2 * (o - t))).map (· + S) := by rw [HC.out, hS]; unfold cand; rw [List.drop_drop]
          have HS := kept hS
          have HT1 := kept hT1
          have HC1 := kept hC1
          have HSum := kept hsum
          clear hT1 hC1 hS hsum d3 dsum
          cases hdp : dp r (g.drop (j + t)) (2 * (o - t)) with
          | none =>
            have hu : minUp c (t + 1) = minUp c t := by rw [hdp] at hcand; simp only [minUp, hcand, Option.map_none]
            unfold CostE at hcall
            rw [hdp] at hcall
            simp only [enc] at hcall
            have HU := kept hu
            have HCall := kept hcall
            clear hcall hu hcand hdp
            go_wp2_with (first | (go_at_call 21; refine HCall.out.mono ?_; rintro e w2 ⟨rfl, K2, hT2, hC2⟩; have HT2 := kept hT2; have HC2 := kept (HC1.out.trans hC2 (fun _ _ h => h)); clear hT2 hC2))
            go_roundw
            case rel => exact ⟨t + 1, by omega, by go_num, by rw [HU.out], K2, HT2.out, HC2.out⟩
            case measure => simp [intOf]; omega
          | some x =>
            have hx := dp_le _ _ _ _ (HG.out.drop (j + t)) hdp
            have hu : minUp c (t + 1) = match minUp c t with | none => some (x + S) | some y => if x + S < y then some (x + S) else some y := by rw [hdp] at hcand; simp only [minUp, hcand, Option.map_some]; try rfl
            unfold CostE at hcall
            rw [hdp] at hcall
            simp only [enc] at hcall
            obtain ⟨hx1, hx2⟩ := hx
            obtain ⟨hS1a, hS1b⟩ := hS1
            have hx3 : x ≤ 20000000000 := by omega
            have hxn : decide (x < 0) = false := by rw [decide_eq_false_iff_not]; omega
            have HCall := kept hcall
            clear hcall hcand hdp hx2
            cases hmn : minUp c t with
            | none =>
              rw [hmn] at hu
              have HU := kept hu
              clear hu hmn
              simp only [enc]
              go_wp2_with (first | (go_at_call 21; refine HCall.out.mono ?_; rintro e w2 ⟨rfl, K2, hT2, hC2⟩; have d3 := hT2.blk.cell (i := 3) rfl; have dsum := (by have := (hT2.rs.cell (j := j + t) (Own.ints_at .i64 (sums g) (j + t) (by rw [length_sums]; omega))); rw [sums_at g (j + t) (by omega), ← HS.out] at this; exact this : w2.cell? ⟨gs, j + t, none⟩ = some (.int .i64 S)); have HT2 := kept hT2; have HC2 := kept (HC1.out.trans hC2 (fun _ _ h => h)); clear hT2 hC2))
              go_roundw
              case rel => exact ⟨t + 1, by omega, by go_num, by rw [HU.out], K2, HT2.out, HC2.out⟩
              case measure => simp [intOf]; omega
            | some y =>
              rw [hmn] at hu
              simp only at hu
              have hy := minUp_ge HG.out r j o t y (by rw [← HC.out]; exact hmn)
              obtain ⟨hy1, hy2⟩ := hy
              have hyn : decide (y < 0) = false := by rw [decide_eq_false_iff_not]; omega
              clear hmn hy2
              simp only [enc]
              by_cases hlt2 : x + S < y
              · rw [if_pos hlt2] at hu
                have HU := kept hu
                have hyd : decide (x + S < y) = true := decide_eq_true hlt2
                clear hu
                go_wp2_with (first | (go_at_call 21; refine HCall.out.mono ?_; rintro e w2 ⟨rfl, K2, hT2, hC2⟩; have d3 := hT2.blk.cell (i := 3) rfl; have dsum := (by have := (hT2.rs.cell (j := j + t) (Own.ints_at .i64 (sums g) (j + t) (by rw [length_sums]; omega))); rw [sums_at g (j + t) (by omega), ← HS.out] at this; exact this : w2.cell? ⟨gs, j + t, none⟩ = some (.int .i64 S)); have HT2 := kept hT2; have HC2 := kept (HC1.out.trans hC2 (fun _ _ h => h)); clear hT2 hC2))
                go_roundw
                case rel => exact ⟨t + 1, by omega, by go_num, by rw [HU.out], K2, HT2.out, HC2.out⟩
                case measure => simp [intOf]; omega
              · rw [if_neg hlt2] at hu
                have HU := kept hu
                have hyd : decide (x + S < y) = false := decide_eq_false hlt2
                clear hu
                go_wp2_with (first | (go_at_call 21; refine HCall.out.mono ?_; rintro e w2 ⟨rfl, K2, hT2, hC2⟩; have d3 := hT2.blk.cell (i := 3) rfl; have dsum := (by have := (hT2.rs.cell (j := j + t) (Own.ints_at .i64 (sums g) (j + t) (by rw [length_sums]; omega))); rw [sums_at g (j + t) (by omega), ← HS.out] at this; exact this : w2.cell? ⟨gs, j + t, none⟩ = some (.int .i64 S)); have HT2 := kept hT2; have HC2 := kept (HC1.out.trans hC2 (fun _ _ h => h)); clear hT2 hC2))
                go_roundw
                case rel => exact ⟨t + 1, by omega, by go_num, by rw [HU.out], K2, HT2.out, HC2.out⟩
                case measure => simp [intOf]; omega
        · have hto1 : t = o + 1 := by omega
          subst hto1
          have d2 := hT1.blk.cell (i := 2) rfl
          have hKl1 := hT1.good.len
          have df := hT1.rk.free m
          have dk := hT1.rk.cell (j := m) (Own.ints_at .i64 K1 m (by rw [hKl1]; exact hm2))
          rw [← HD.out]
          obtain ⟨z, hz⟩ : ∃ z, z = enc (dp (r + 1) (g.drop j) o) := ⟨_, rfl⟩
          have hz1 : -1 ≤ z ∧ z ≤ 20000000000 := by
            rw [hz]
            cases e : dp (r + 1) (g.drop j) o with
            | none => simp [enc]
            | some x => have := dp_le _ _ _ _ (HG.out.drop j) e; simp only [enc]; omega
          obtain ⟨hz1a, hz1b⟩ := hz1
          have hst := hT1.store m (z + 2) (by
            have := hT1.good.set (d := d) (j := j) (o := o) hd hd15 (by omega) (by omega) hlim
            rw [← HM.out, show lim + 1 - d = r + 1 by omega, ← hz] at this; exact this)
          rw [← hz]
          have HZ := kept hz
          have HS := kept hst
          have HC1 := kept hC1
          clear hT1 hC1 hst hz c0 c1 c2 ck2
          go_wp2_with fail
          go_ret
          exact ⟨by rw [← HZ.out]; rfl, _, HS.out, HC1.out.trans (Chg.setCell _ _ _) (fun b _ e => by rw [e]; rfl)⟩
    · obtain ⟨r', rfl⟩ : ∃ r', r' = r := ⟨r, rfl⟩
      exact cost_known g lim p vf vk vs K r' d j o w hT hg hjl hjo ho1 hd hlim hr (by rw [show lim + 1 - d = r' + 1 by omega] at hk; exact hk)
end Go.Proofs.Ytkdmamffbhlbgaa

-- ---- Af
/- 'append' onto a slice that is full (its length is its capacity): the result lies in a block of its own. No program in sight. -/
namespace Go.Proofs.Ytkdmamffbhlbgaa.Own
set_option linter.unusedSimpArgs false
set_option linter.unusedVariables false
open Go Go.RowKit

theorem zeroCells_size (z : Array Value) (n : Nat) (h : z.size = 1) : (Builtin.zeroCells z n).size = n := by
  have := Go.size_zeroCells z n
  rw [h] at this
  simpa using this

section
variable {P : Program} {w : World}
theorem run_append_full (t ty e : TypeId) (i : TypeInfo) (z : Value) (bytes : Nat) (ht : P.underlying t = some (.slice e)) (hi : P.info? e = some i) (hz : i.zero = some z)
    (hsize : i.size = 1) (hby : i.bytes = bytes) (hzs : z.cells.size = 1)
    (A : Option Addr) (k : Nat) (xs : List Value) (hx : Rd w (.slice A k k) xs) (A2 : Option Addr) (m c : Nat) (ys : List Value) (hy : Rd w (.slice A2 m c) ys) (hm : 0 < m)
    (h63 : k + m ≤ maxLen) (hbytes : ((k + m) + (k + m) / 4 + 192) * bytes ≤ 281474976710656) :
    ∃ v' w', (Builtin.append_ #[t, t] ty #[.slice A k k, .slice A2 m c]).run P w = .ok v' w' ∧ Owns w' e v' (xs ++ ys) ∧ Below w.heap.size w w' ∧ ∀ g, v'.ownBlock = some g → w.heap.size ≤ g := by
  have hk := hx.length
  have hml := hy.length
  subst hk
  subst hml
  obtain ⟨y0, hy0⟩ : ∃ y0, ys[0]? = some y0 := ⟨ys[0], List.getElem?_eq_getElem hm⟩
  obtain ⟨a2, rfl, _⟩ := hy.at hy0
  have hnews : ∀ j u, ys[j]? = some u → w.cell? (a2.add j) = some u := fun j u hu => by
    obtain ⟨x, hxx, hc⟩ := hy.at hu
    cases hxx
    exact hc
  have hge := grownCap_ge w (xs.length + ys.length) xs.length e
  have hle := grownCap_le_maxLen w (xs.length + ys.length) xs.length e h63
  have fin : ∀ C cap, C.size = cap → cap = grownCap w (xs.length + ys.length) xs.length e → C.toList.take (xs.length + ys.length) = xs ++ ys →
      Owns (w.drew.alloc (.cells C e)) e (.slice (some ⟨w.heap.size, 0, none⟩) (xs.length + ys.length) cap) (xs ++ ys) ∧ Below w.heap.size w (w.drew.alloc (.cells C e)) ∧ ∀ g, (Value.slice (some ⟨w.heap.size, 0, none⟩) (xs.length + ys.length) cap).ownBlock = some g → w.heap.size ≤ g := by
    intro C cap h1 h2 h3
    have hb : Blk (w.drew.alloc (.cells C e)) w.heap.size C e := Blk.fresh w.drew C e
    refine ⟨?_, ((Below.refl w.heap.size w).drew).alloc (Nat.le_refl _) _, fun g hg => ?_⟩
    · have := Owns.mk (xs := xs ++ ys) hb (by rw [List.length_append]; omega) (by omega) h1 (by rw [List.length_append]; exact h3)
      rwa [List.length_append] at this
    · simp [Value.ownBlock] at hg; omega
  cases A with
  | none =>
    have h0 : xs = [] := by
      cases xs with
      | nil => rfl
      | cons u t => obtain ⟨x, hx2, _⟩ := hx.at (i := 0) (u := u) rfl; cases hx2
    subst h0
    have hr := run_append_nil (P := P) (w := w) t ty e i z ht hi hz a2 ys.length c ys (by rw [hsize, Nat.mul_one]) hnews hm (by simp only [maxLen] at h63; simp at h63; omega) (by rw [hby]; simp at hbytes; exact Nat.le_trans (Nat.mul_le_mul_right _ (by omega)) hbytes)
    simp only [List.length_nil, Nat.zero_add, List.nil_append] at fin hge ⊢
    refine ⟨_, _, hr, fin _ _ ?_ rfl ?_⟩
    · simp [zeroCells_size _ _ hzs]; omega
    · simp
  | some b =>
    have holds : ∀ j v, xs[j]? = some v → w.cell? (b.add j) = some v := fun j u hu => by
      obtain ⟨x, hxx, hc⟩ := hx.at hu
      cases hxx
      exact hc
    have hr := run_append_grow (P := P) (w := w) t ty e i z ht hi hz b xs.length xs.length xs (by rw [hsize, Nat.mul_one]) holds a2 ys.length c ys (by rw [hsize, Nat.mul_one]) hnews (by omega) (by simp only [maxLen] at h63; omega) (by rw [hby]; exact growslice_fits_wide (by omega) hbytes)
    refine ⟨_, _, hr, fin _ _ ?_ rfl ?_⟩
    · simp [zeroCells_size _ _ hzs]; omega
    · simp only [Array.toList_append, List.toList_toArray]
      exact List.take_left' (by simp)

/-- The law at the operation. -/
theorem wpList_appFull {ops : Array Oper} {rest : List Oper} {o : Oper} {a : Act} {Q : Exit → Act → World → Prop} (hgd : o.guard = none) (s x : Operand) (t : TypeId)
    (ho : o.op = .call { callee := .builtin .append, args := #[s, x], argTypes := #[t, t] })
    (e : TypeId) (i : TypeInfo) (z : Value) (bytes : Nat) (ht : P.underlying t = some (.slice e)) (hi : P.info? e = some i) (hz : i.zero = some z)
    (hsize : i.size = 1) (hby : i.bytes = bytes) (hzs : z.cells.size = 1)
    (A : Option Addr) (k : Nat) (xs : List Value) (hs : a.eval s = .slice A k k) (hR : Rd w (.slice A k k) xs) (A2 : Option Addr) (m c : Nat) (ys : List Value) (hx : a.eval x = .slice A2 m c) (hy : Rd w (.slice A2 m c) ys) (hm : 0 < m)
    (h63 : k + m ≤ maxLen) (hbytes : ((k + m) + (k + m) / 4 + 192) * bytes ≤ 281474976710656)
    (h : ∀ v' w', Owns w' e v' (xs ++ ys) → Below w.heap.size w w' → (∀ g, v'.ownBlock = some g → w.heap.size ≤ g) → wpList P ops Q rest (a.put o.dst v') w') : wpList P ops Q (o :: rest) a w :=
  wpList_plain hgd fun K hK => by
    obtain ⟨v', w', hr, h2, h3, h4⟩ := run_append_full (P := P) t o.type e i z bytes ht hi hz hsize hby hzs A k xs hR A2 m c ys hy hm h63 hbytes
    unfold Oper.wp execOp
    simp only [ho, resolve, invoke, builtin, Sem.run_bind, Sem.run_pure, Result.andThen_ok, List.map_toArray, List.map_cons, List.map_nil, hs, hx, hr]
    exact hK _ _ (h v' w' h2 h3 h4)

/-- 'append' of what can be read, nil or not, onto a row of one's own. -/
theorem wpList_appRd {ops : Array Oper} {rest : List Oper} {o : Oper} {a : Act} {Q : Exit → Act → World → Prop} (hgd : o.guard = none) (s x : Operand) (t : TypeId)
    (ho : o.op = .call { callee := .builtin .append, args := #[s, x], argTypes := #[t, t] })
    (e : TypeId) (i : TypeInfo) (z : Value) (bytes : Nat) (ht : P.underlying t = some (.slice e)) (hi : P.info? e = some i) (hz : i.zero = some z)
    (hsize : i.size = 1) (hby : i.bytes = bytes) (hzs : z.cells.size = 1)
    (v : Value) (xs : List Value) (hs : a.eval s = v) (hown : Owns w e v xs)
    (A2 : Option Addr) (m c : Nat) (ys : List Value) (hx : a.eval x = .slice A2 m c) (hy : Rd w (.slice A2 m c) ys) (hnil : A2 = none → c = 0) (h1 : ∀ u ∈ ys, u.oneCell' = true)
    (h63 : xs.length + m ≤ maxLen) (hbytes : (xs.length + m) * bytes ≤ 140737488355328)
    (h : ∀ v' w', Owns w' e v' (xs ++ ys) → Chg (fun k => some k = v.ownBlock) w w' → (∀ g, v'.ownBlock = some g → some g = v.ownBlock ∨ w.heap.size ≤ g) → wpList P ops Q rest (a.put o.dst v') w') : wpList P ops Q (o :: rest) a w := by
  have hml := hy.length
  cases A2 with
  | some ad =>
    refine wpList_app hgd s x t ho e i z bytes ht hi hz hsize hby hzs v xs hs hown ad m c ys hx hml.symm (fun j u hu => ?_) h1 h63 hbytes h
    obtain ⟨x', hxx, hc⟩ := hy.at hu
    cases hxx
    exact hc
  | none =>
    have h0 : ys = [] := by
      cases ys with
      | nil => rfl
      | cons u t => obtain ⟨x, hx2, _⟩ := hy.at (i := 0) (u := u) rfl; cases hx2
    subst h0
    have hm0 : m = 0 := hml
    subst hm0
    have hc0 := hnil rfl
    subst hc0
    refine wpList_plain hgd fun K hK => ?_
    have hr := run_append_owned_none (P := P) (w := w) 0 t o.type e i 1 ht hi v xs.length xs hown
    unfold Oper.wp execOp
    simp only [ho, resolve, invoke, builtin, Sem.run_bind, Sem.run_pure, Result.andThen_ok, List.map_toArray, List.map_cons, List.map_nil, hs, hx, hr]
    exact hK _ _ (h v w (by simpa using hown) (Chg.refl _ _) fun g hg => .inl hg.symm)
end
end Go.Proofs.Ytkdmamffbhlbgaa.Own
