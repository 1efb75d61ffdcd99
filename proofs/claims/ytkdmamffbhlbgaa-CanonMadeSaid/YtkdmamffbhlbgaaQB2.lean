/- Part B2 of what the layer's laws stand on: Ce, PAx1, PAx8, PAx9, PAx10, PAx12, PAx13, PAx22, Uk. Written by a program (merge.py) out of this session's own texts and of what the kit's print wrote over stand-ins (sp.py). Conditions: those that each theorem names. -/
import Derived.Test.YtkdmamffbhlbgaaQB1
import Derived.OwnWalk
-- ---- Ce
/- canon.Codes: what the call answers. Conditions: the list reads as the argument does. -/
namespace Go.Proofs.Ytkdmamffbhlbgaa.CanonH
open Go.RowKit Go.Proofs.YtkdmamffbhlbgaaW.PrintWords Go.Proofs.YtkdmamffbhlbgaaW.PrintLast Go.Proofs.YtkdmamffbhlbgaaW.PrintMore
open Mix Own Ol Hp Cd Dp
set_option linter.unusedVariables false
set_option linter.unusedSimpArgs false
attribute [local go_sem] Own.max_int Own.min_int

theorem infoC : (Try.prog.info? 40).map (fun i => (i.zero, i.size, i.bytes)) = some (some (.agg #[.int .i64 0, .int .i64 0]), 2, 16) := by kernel_rfl
theorem made65 : (madeCells #[Value.int .i64 0, .int .i64 0] 130).toList = fl (List.replicate 65 (0, 0)) := by kernel_rfl

/-- The heap's own memory lies behind B. -/
structure HpC (B : Nat) (wr : World) (p : Nat) (v : Value) (lh : List (Int × Int)) : Prop where
  hp : IsHp wr p v lh
  heap : Heap ltL lh lh.length
  newp : B ≤ p
  new : ∀ g, v.ownBlock = some g → B ≤ g
/-- What is told so far: the codes at g, the last one at q. -/
structure OutC (B : Nat) (wr : World) (g q : Nat) (out : List (Int × Int)) (lb ll : Int) : Prop where
  out : OwnK wr 40 2 (.slice (some ⟨g, 0, none⟩) 65 65) 65 (fl out)
  last : Blk wr q #[.int .i64 lb, .int .i64 ll] 40
  gB : B ≤ g
  qB : B ≤ q
  ne : g ≠ q
theorem putC {B : Nat} {w wd : World} {g q p : Nat} {v : Value} {l2 ou : List (Int × Int)} {lb ll : Int} (h : OutC B wd g q ou lb ll) (hs : HpC B wd p v l2) (hb : Below B w wd) (hz : B ≤ wd.heap.size) (k : Nat) (x y : Int) (hk : k < 65) (hl : ou.length = 65) :
    OutC B ((((wd.setCell ⟨q, 0, none⟩ (.int .i64 x)).setCell ⟨q, 1, none⟩ (.int .i64 y)).setCell ⟨g, k * 2, none⟩ (.int .i64 x)).setCell ⟨g, k * 2 + 1, none⟩ (.int .i64 y)) g q (ou.set k (x, y)) x y ∧
    HpC B ((((wd.setCell ⟨q, 0, none⟩ (.int .i64 x)).setCell ⟨q, 1, none⟩ (.int .i64 y)).setCell ⟨g, k * 2, none⟩ (.int .i64 x)).setCell ⟨g, k * 2 + 1, none⟩ (.int .i64 y)) p v l2 ∧
    Below B w ((((wd.setCell ⟨q, 0, none⟩ (.int .i64 x)).setCell ⟨q, 1, none⟩ (.int .i64 y)).setCell ⟨g, k * 2, none⟩ (.int .i64 x)).setCell ⟨g, k * 2 + 1, none⟩ (.int .i64 y)) ∧
    B ≤ ((((wd.setCell ⟨q, 0, none⟩ (.int .i64 x)).setCell ⟨q, 1, none⟩ (.int .i64 y)).setCell ⟨g, k * 2, none⟩ (.int .i64 x)).setCell ⟨g, k * 2 + 1, none⟩ (.int .i64 y)).heap.size := by
  have hc : Chg (fun b => b = q ∨ b = g) wd ((((wd.setCell ⟨q, 0, none⟩ (.int .i64 x)).setCell ⟨q, 1, none⟩ (.int .i64 y)).setCell ⟨g, k * 2, none⟩ (.int .i64 x)).setCell ⟨g, k * 2 + 1, none⟩ (.int .i64 y)) :=
    ((((Chg.setCell wd ⟨q, 0, none⟩ (.int .i64 x)).mono (fun b _ h => .inl h)).trans (Chg.setCell _ ⟨q, 1, none⟩ (.int .i64 y)) (fun b _ h => .inl h)).trans (Chg.setCell _ ⟨g, k * 2, none⟩ (.int .i64 x)) (fun b _ h => .inr h)).trans (Chg.setCell _ ⟨g, k * 2 + 1, none⟩ (.int .i64 y)) (fun b _ h => .inr h)
  have hgq : (Value.slice (some ⟨g, 0, none⟩) 65 65).ownBlock ≠ some q := by simp [Value.ownBlock]; exact h.ne
  have hbb := hc.below hz (fun b hb e => by have h1 := h.qB; have h2 := h.gB; rcases e with e | e <;> omega)
  refine ⟨⟨?_, ?_, h.gB, h.qB, h.ne⟩, ⟨hs.hp.keep hc (fun e => ?_) (fun b hb e => ?_), hs.heap, hs.newp, hs.new⟩, hb.trans hbb, Nat.le_trans hz hbb.size⟩
  · rw [fl_set ou k (x, y) (by rw [hl]; exact hk)]
    exact (((h.out.setOther (a := ⟨q, 0, none⟩) hgq _).setOther (a := ⟨q, 1, none⟩) hgq _).store _ _).store _ _
  · have h1 := ((h.last.set 0 (.int .i64 x)).set 1 (.int .i64 y))
    exact (h1.setOther (a := ⟨g, k * 2, none⟩) (fun e => h.ne e.symm) _).setOther (a := ⟨g, k * 2 + 1, none⟩) (fun e => h.ne e.symm) _
  · rcases e with e | e
    · exact h.last.ne hs.hp.blk (by decide) e.symm
    · exact h.out.ne hs.hp.blk (by decide) (by rw [e]; rfl)
  · obtain ⟨cur, hgb⟩ := hs.hp.row.blk b hb
    rcases e with e | e
    · exact h.last.ne hgb (by decide) e.symm
    · exact h.out.ne hgb (by decide) (by rw [e]; rfl)

theorem setLast {B : Nat} {w wd : World} {g q p cc : Nat} {v : Value} {l2 ou : List (Int × Int)} {lb ll : Int} {cs : Array Value} (h : OutC B wd g q ou lb ll) (hs : HpC B wd p v l2) (hb : Below B w wd) (hz : B ≤ wd.heap.size) (y : Int) (hcl : Blk wd cc cs 51) :
    OutC B (wd.setCell ⟨q, 1, none⟩ (.int .i64 y)) g q ou lb y ∧ HpC B (wd.setCell ⟨q, 1, none⟩ (.int .i64 y)) p v l2 ∧ Below B w (wd.setCell ⟨q, 1, none⟩ (.int .i64 y)) ∧ B ≤ (wd.setCell ⟨q, 1, none⟩ (.int .i64 y)).heap.size ∧ Blk (wd.setCell ⟨q, 1, none⟩ (.int .i64 y)) cc cs 51 := by
  have hc := Chg.setCell wd ⟨q, 1, none⟩ (.int .i64 y)
  have hgq : (Value.slice (some ⟨g, 0, none⟩) 65 65).ownBlock ≠ some q := by simp [Value.ownBlock]; exact h.ne
  have hbb := hc.below hz (fun b hb e => by have h1 := h.qB; have h2 : b = q := e; omega)
  refine ⟨⟨h.out.setOther (a := ⟨q, 1, none⟩) hgq _, h.last.set 1 _, h.gB, h.qB, h.ne⟩, ⟨hs.hp.keep hc (fun e => ?_) (fun b hb e => ?_), hs.heap, hs.newp, hs.new⟩, hb.trans hbb, Nat.le_trans hz hbb.size, hc.keep hcl (fun e => hcl.ne h.last (by decide) e)⟩
  · exact h.last.ne hs.hp.blk (by decide) (Eq.symm e)
  · obtain ⟨cur, hgb⟩ := hs.hp.row.blk b hb
    exact h.last.ne hgb (by decide) (Eq.symm e)

def lenOf : Value → Nat
  | .slice _ n _ => n
  | _ => 0

set_option maxHeartbeats 4000000 in
theorem codes_bad (A0 : Option Addr) (c0 : Nat) (l : List Int) (w : World) (hr0 : Kd.C (Kd.int .i64) w A0 l.length l) (hc0 : l.length ≤ c0) (hm : mayL l = false) :
    Calls Try.prog 9 #[.slice A0 l.length c0] w fun e w' => e = .returned (.tuple #[.slice none 0 0, .int .i64 3]) ∧ Below w.heap.size w w' := by
  obtain ⟨k, hk⟩ := (PA.may_is l).rounds
  have hcm := PA.canon_May.calls k A0 c0 l _ w hr0 hc0 hk
  rw [hm] at hcm
  obtain ⟨n0, hn0⟩ : ∃ n0, n0 = l.length := ⟨_, rfl⟩
  rw [← hn0] at hcm ⊢
  have HM := kept hcm
  clear hr0 hc0 hk hcm hm hn0
  go_enter Try.func9, Try.ntmps9
  go_wp2_with (first | (go_at_call 11; refine HM.out.mono ?_; rintro e w1 ⟨rfl, ⟨⟨nd, rfl⟩⟩⟩))
  go_ret2
  exact ⟨rfl, pw_below_drewN (Below.refl _ _) _⟩

set_option maxHeartbeats 4000000 in
theorem codes_ok (A0 : Option Addr) (c0 : Nat) (l : List Int) (w : World) (hr0 : Kd.C (Kd.int .i64) w A0 l.length l) (hc0 : l.length ≤ c0) (hm : mayL l = true) :
    Calls Try.prog 9 #[.slice A0 l.length c0] w fun e w' => ∃ v, e = .returned (.tuple #[v, .int .i64 0]) ∧ OwnK w' 40 2 v 65 (fl (codeL l)) ∧ (∀ g, v.ownBlock = some g → w.heap.size ≤ g) ∧ Below w.heap.size w w' := by
  obtain ⟨i0, hi, hz0, hz1, hz2⟩ := info_partsE infoC
  obtain ⟨k, hk⟩ := (PA.may_is l).rounds
  have hcm := PA.canon_May.calls k A0 c0 l _ w hr0 hc0 hk
  have hks := ks_le hm
  rw [hm] at hcm
  have hm2 := hm
  unfold mayL at hm2
  rw [decide_eq_true_eq] at hm2
  obtain ⟨h65, hrg, _⟩ := hm2
  have hR := Own.rd_of_C hr0
  have hta := assertE
  obtain ⟨B, hB⟩ : ∃ B, B = w.heap.size := ⟨_, rfl⟩
  rw [h65] at hcm hR ⊢
  rw [← hB]
  have HB := kept hB
  have HM := kept hcm
  have HR := kept hR
  have HL := kept h65
  have HRg := kept hrg
  have HKs := kept hks
  clear hB hcm hR h65 hrg hks hm hk hr0 hc0
  go_enter Try.func9, Try.ntmps9
  go_wp2_with (first | (go_at_call 11; refine HM.out.mono ?_; rintro e w1 ⟨rfl, ⟨⟨nd, rfl⟩⟩⟩))
  generalize hwx : w.drewN nd = wx
  have hBx : Below w.heap.size w wx := by rw [← hwx]; exact pw_below_drewN (Below.refl _ _) _
  have hsx : wx.heap.size = w.heap.size := by rw [← hwx]; simp
  clear hwx
  obtain ⟨p, hp⟩ : ∃ p, p = w.heap.size + 1 := ⟨_, rfl⟩
  rw [← hp]
  obtain ⟨g0, hg0⟩ : ∃ g0, g0 = w.heap.size := ⟨_, rfl⟩
  rw [← hg0]
  generalize hw0 : World.alloc (World.alloc wx _) _ = w0
  have e1 : (wx.alloc (.cells #[] 51)).heap.size = p := by rw [hp, ← hsx]; simp
  have hb0 : Below B w w0 := by
    rw [← hw0, HB.out]
    exact (hBx.alloc (by rw [hsx]; exact Nat.le_refl _) _).alloc (by rw [e1, hp]; omega) _
  have hS0 : HpC B w0 p (.slice (some ⟨g0, 0, none⟩) 0 0) [] := by
    refine ⟨⟨by rw [← hw0]; exact Blk.fresh_at _ p e1.symm _ _, rfl, .inr ⟨g0, 0, #[], rfl, Nat.zero_le _, ?_, Nat.le_refl _, by simp [maxLen], rfl, rfl⟩⟩, fun i _ h => absurd h (by simp), by rw [HB.out, hp]; omega, fun g hg => ?_⟩
    · rw [← hw0, hg0, ← hsx]; exact (Blk.fresh wx _ _).alloc _
    · simp [Value.ownBlock] at hg; rw [HB.out, ← hg, hg0]; exact Nat.le_refl _
  have HS0 := kept hS0
  have HB0 := kept hb0
  have HP := kept hp
  clear hS0 hp hw0 e1 hg0 hBx hsx hb0
  have hrange : ∀ i, i < 65 → 0 ≤ l.getD i 0 ∧ l.getD i 0 ≤ 15 := fun i hi => by
    have h2 : i < l.length := by rw [HL.out]; exact hi
    exact HRg.out _ (by simp [List.getD_eq_getElem?_getD, h2])
  have HRn := kept hrange
  clear hrange
  go_loopw [18] (fun s18 wr => ∃ (i : Nat) (v : Value) (lh : List (Int × Int)), i ≤ 65 ∧ s18 = .int .i64 (i : Int) ∧ HpC B wr p v lh ∧ Below B w wr ∧ B ≤ wr.heap.size ∧ lh.Perm ((posL l i).map (pr l))) (fun s18 _ => 65 - (intOf s18).toNat)
  case atStart => exact ⟨0, _, [], Nat.zero_le _, rfl, HS0.out, HB0.out, by have := HB0.out.size; rw [HB.out]; exact this, List.Perm.refl _⟩
  case round =>
    obtain ⟨i, v, lh, hi2, rfl, hs, hlow, hsz, hpm⟩ := hrel
    obtain ⟨wo, rfl⟩ : ∃ wo, wo = wr := ⟨wr, rfl⟩
    have hRd := HR.out.below hlow (by rw [HB.out]; exact HR.out.lt)
    by_cases hlt : i < 65
    · have hil : i < l.length := by rw [HL.out]; exact hlt
      obtain ⟨x, rfl, hc⟩ := hRd.at (Own.ints_at .i64 l i hil)
      have hy15 := HRn.out i hlt
      obtain ⟨y, hy⟩ : ∃ y, y = l.getD i 0 := ⟨_, rfl⟩
      rw [← hy] at hc hy15
      obtain ⟨hy0, hy1⟩ := hy15
      have hlen : lh.length ≤ i := by have := hpm.length_eq; rw [List.length_map] at this; have := length_posL l i; omega
      have HS := kept hs
      have HLow := kept hlow
      have HSz := kept hsz
      have HPm := kept hpm
      have HY := kept hy
      clear hRd hs hpm hy hlow hsz
      by_cases hpos : 0 < y
      · have p0 : ¬ y ≤ 0 := by omega
        have HPush := kept (hpush_calls p v lh (i : Int) y wo HS.out.hp (by omega) HS.out.heap)
        go_wp2_with fail
        refine HPush.out.mono ?_
        rintro e w1 ⟨rfl, v1, l1, h1, hh1, hp1, hc1, hf1⟩
        have hb1 : Below B wo w1 := hc1.below HSz.out (fun k hk h => by
          rcases h with h | h
          · have := HS.out.newp; omega
          · have := HS.out.new k h.symm; omega)
        have HS1 : Kept (HpC B w1 p v1 l1 ∧ Below B w w1 ∧ B ≤ w1.heap.size) := kept ⟨⟨h1, hh1, HS.out.newp, fun g hg => (hf1 g hg).elim (fun h => HS.out.new g h.symm) (fun h => Nat.le_trans HSz.out h)⟩, HLow.out.trans hb1, Nat.le_trans HSz.out hb1.size⟩
        have HPm1 : Kept (l1.Perm ((posL l (i + 1)).map (pr l))) := kept (by
          rw [posL_succ, if_pos (by rw [← HY.out]; exact hpos), List.map_append]
          refine hp1.trans (HPm.out.append ?_)
          simp only [List.map_cons, List.map_nil, pr]; rw [← HY.out])
        clear h1 hh1 hp1 hc1 hf1 hb1
        go_wp2_with fail
        go_roundw
        case rel => exact ⟨i + 1, v1, l1, by omega, by go_num, HS1.out.1, HS1.out.2.1, HS1.out.2.2, HPm1.out⟩
        case measure => simp [intOf]; omega
      · have p0 : y ≤ 0 := by omega
        have HPm1 : Kept (lh.Perm ((posL l (i + 1)).map (pr l))) := kept (by
          rw [posL_succ, if_neg (by rw [← HY.out]; exact hpos), List.append_nil]; exact HPm.out)
        go_wp2_with fail
        go_roundw
        case rel => exact ⟨i + 1, v, lh, by omega, by go_num, HS.out, HLow.out, HSz.out, HPm1.out⟩
        case measure => simp [intOf]; omega
    · have hin : i = 65 := by omega
      subst hin
      have hx15 : ∀ x ∈ l, x ≤ 15 := fun x hx => (HRg.out x hx).2
      have HS := kept hs
      have HLow := kept hlow
      have HSz := kept hsz
      have HX := kept hx15
      have HPm : Kept (lh.Perm ((ordS l).map (pr l))) := kept (hpm.trans (by rw [← HL.out]; exact ((perm_ordS l hx15).map _).symm))
      clear hs hpm hRd hlow hsz hx15 hlt
      go_wp2_with (first | (refine wpList_make_full _ rfl _ _ 24 rfl 0 40 i0 (.agg #[.int .i64 0, .int .i64 0]) 2 Try.underlying24 hi hz0 hz1 .i64 .i64 _ _ 65 rfl rfl rfl rfl (by rw [hz2]; decide) (by decide) (Nat.zero_le _) ?_))
      intro w2 hown hgr
      rw [made65] at hown
      obtain ⟨g, hg⟩ : ∃ g, g = wo.heap.size := ⟨_, rfl⟩
      rw [← hg] at hown ⊢
      have hb2 : Below wo.heap.size wo w2 := ⟨hgr.os, hgr.tape, hgr.output, hgr.size, fun k hk => hgr.block k hk (by simp)⟩
      have hgl : g < w2.heap.size := OwnK.lt hown g rfl
      have hout : OwnK w2 40 2 (.slice (some ⟨g, 0, none⟩) 65 65) 65 (fl (List.replicate 65 (0, 0))) := hown
      have HS2 : Kept (HpC B w2 p v lh ∧ Below B w w2 ∧ B ≤ w2.heap.size) := kept ⟨⟨HS.out.hp.later hb2, HS.out.heap, HS.out.newp, HS.out.new⟩, HLow.out.trans (hb2.mono HSz.out), Nat.le_trans HSz.out hb2.size⟩
      have hgB : B ≤ g := by rw [hg]; exact HSz.out
      have HO2 := kept hout
      have HGl := kept hgl
      have HGB := kept hgB
      clear hown hgr hb2 hg hout hgl hgB HS HLow HSz HS0 HB0
      obtain ⟨q, hq⟩ : ∃ q, q = w2.heap.size := ⟨_, rfl⟩
      obtain ⟨w3, hw3⟩ : ∃ w3, w3 = w2.alloc (.cells #[.int .i64 (-1), .int .i64 0] 40) := ⟨_, rfl⟩
      have hb3 : Below w2.heap.size w2 w3 := by rw [hw3]; exact (Below.refl _ _).alloc (Nat.le_refl _) _
      have HS3 : Kept (HpC B w3 p v lh ∧ Below B w w3 ∧ B ≤ w3.heap.size) := kept ⟨⟨HS2.out.1.hp.later hb3, HS2.out.1.heap, HS2.out.1.newp, HS2.out.1.new⟩, HS2.out.2.1.trans (hb3.mono HS2.out.2.2), Nat.le_trans HS2.out.2.2 hb3.size⟩
      have HO3 : Kept (OutC B w3 g q (List.replicate 65 (0, 0)) (-1) 0) := kept ⟨HO2.out.later hb3, by rw [hw3, hq]; exact Blk.fresh _ _ _, HGB.out, by rw [hq]; exact HS2.out.2.2, by have := HGl.out; omega⟩
      clear hb3 HS2 HO2
      go_wp2_with fail
      rw [← hq, ← hw3]
      clear hw3 hq
      go_loopw [10] (fun s10 wq => ∃ (done rest : List Nat) (v1 : Value) (l1 : List (Int × Int)) (lb : Int), ordS l = done ++ rest ∧ HpC B wq p v1 l1 ∧ Below B w wq ∧ B ≤ wq.heap.size ∧ (rest.map (pr l)).Perm l1 ∧ OutC B wq g q (cst l done).1 lb ((cst l done).2.2 : Int) ∧ ((cst l done).2.2 = 0 ∧ lb = -1 ∨ 1 ≤ (cst l done).2.2 ∧ lb = ((cst l done).2.1 : Int)) ∧ l1.length = rest.length)
        (fun s10 wq => match wq.cell? ⟨p, 0, none⟩ with | some v => lenOf v | none => 0)
      case atStart => exact ⟨[], ordS l, v, lh, -1, rfl, HS3.out.1, HS3.out.2.1, HS3.out.2.2, HPm.out.symm, HO3.out, .inl ⟨rfl, rfl⟩, by have := HPm.out.length_eq; rwa [List.length_map] at this⟩
      case round =>
        obtain ⟨done, rest, v1, l1, lb, ho, hs, hlow, hsz, hpm, hout, hlb, hlen⟩ := hrel
        obtain ⟨wq, rfl⟩ : ∃ wq, wq = wr := ⟨wr, rfl⟩
        have hlen2 : done.length + rest.length ≤ 65 := by
          have := length_ordS l HX.out
          rw [ho, List.length_append, HL.out] at this; exact this
        cases rest with
        | nil =>
          have hnil : l1 = [] := List.length_eq_zero_iff.1 (by simpa using hlen)
          subst hnil
          obtain ⟨av, cv, rfl, _⟩ := hs.hp.row.slice
          simp only [List.length_nil] at hs ⊢
          have c0 : wq.cell? ⟨p, 0, none⟩ = some (.slice av 0 cv) := hs.hp.blk.cell rfl
          have hfin : (cst l done).1 = codeL l := by unfold codeL; rw [ho, List.append_nil]
          rw [hfin] at hout
          have HF := kept hout
          have HLow := kept hlow
          have HSz := kept hsz
          clear hs hpm ho hlen hlen2 hout hlb hfin hlow hsz HS3 HO3
          go_wp2_with (first | (go_at_call 18; refine (hlen_calls _ _ _ _).mono ?_; rintro e w1 ⟨rfl, hbl⟩; have HF1 := kept (HF.out.out.later hbl); have HL1 := kept (HLow.out.trans (hbl.mono HSz.out)); clear hbl))
          go_ret2
          exact ⟨_, rfl, HF1.out, fun b hb => by simp [Value.ownBlock] at hb; rw [← hb]; exact HF.out.gB, HL1.out⟩
        | cons k rest =>
          simp only [List.length_cons] at hlen hlen2
          obtain ⟨gh, cap, rfl, hnc, hcm, hgp, hgl⟩ := hs.hp.row0 (by omega)
          simp only [hlen] at hs hnc ⊢
          have c0 : wq.cell? ⟨p, 0, none⟩ = some (.slice (some ⟨gh, 0, none⟩) (rest.length + 1) cap) := hs.hp.blk.cell rfl
          have HC0 := kept c0
          have hx : ∃ rest' : List (Int × Int), ((k :: rest).map (pr l)) = at_ l1 0 :: rest' ∧ ∀ l', l1.Perm (at_ l1 0 :: l') → (∀ y ∈ l', ltL y (at_ l1 0) = false) → rest'.Perm l' := by
            have hs1 : ((k :: rest).map (pr l)).Pairwise fun a b => ltL b a = false := by
              have := pairs_ordS l
              rw [ho, List.map_append] at this
              exact (List.pairwise_append.1 this).2.1
            have hat : ∀ y ∈ l1, ltL y (at_ l1 0) = false := by
              intro y hy
              obtain ⟨j, hj, rfl⟩ := List.mem_iff_getElem.1 hy
              rw [← at_lt l1 j hj]
              exact heap_min oL hs.heap j hj
            have hmem : at_ l1 0 ∈ l1 := by rw [at_lt l1 0 (by omega)]; exact List.getElem_mem _
            obtain ⟨l1', hl1'⟩ : ∃ l', l1.Perm (at_ l1 0 :: l') := ⟨l1.erase (at_ l1 0), List.perm_cons_erase hmem⟩
            obtain ⟨r', hr1, hr2⟩ := pop_head oL hs1 (hpm.trans hl1') (fun y hy => hat y (hl1'.mem_iff.2 (List.mem_cons_of_mem _ hy)))
            exact ⟨r', hr1, fun l' hp _ => hr2.trans ((List.perm_cons _).1 (hl1'.symm.trans hp))⟩
          obtain ⟨rest', hx1, hx2⟩ := hx
          simp only [List.map_cons, List.cons.injEq] at hx1
          obtain ⟨hk, rfl⟩ := hx1
          have hpos : (0 : Int) < ((rest.length + 1 : Nat) : Int) := by omega
          have HPop := kept (fun (w1 : World) (hb : Below wq.heap.size wq w1) => hpop_calls p gh rest.length cap l1 w1 (hs.hp.later hb) hlen (by omega) (by rw [← hlen]; exact hs.heap))
          -- the code that comes
          have hkm : k ∈ ordS l := by rw [ho]; simp
          obtain ⟨hkl, hk1, hk15⟩ := mem_ordS.1 hkm
          obtain ⟨n, hn⟩ : ∃ n : Nat, l.getD k 0 = (n : Int) := ⟨(l.getD k 0).toNat, by omega⟩
          have hso := sorted_ordS l
          rw [ho] at hso
          have hso2 := List.pairwise_append.1 hso
          have hdn : ∀ a ∈ done, l.getD a 0 ≤ (n : Int) := fun a ha => by have := hso2.2.2 a ha k (by simp); omega
          have hdm : ∀ a ∈ done, 1 ≤ l.getD a 0 ∧ l.getD a 0 ≤ 15 := fun a ha => (mem_ordS.1 (by rw [ho]; exact List.mem_append_left _ ha)).2
          have hinv := cst_inv l done (hso2.1.imp fun {a b} h => by omega) hdm
          have hle := hinv.2 (n : Int) hdn
          have hinv2 := inv_nx (n := n) hinv.1 (by omega) (by omega) (by omega)
          have hkd : kd l done + 2 ^ (15 - n) ≤ 32768 := by
            have h := kd_all l HX.out
            have h2 := HKs.out
            rw [← h, ho, kd_append] at h2
            have h3 : kd l (k :: rest) = 2 ^ (15 - n) + kd l rest := by unfold kd; rw [List.map_cons, List.sum_cons, hn, Int.toNat_natCast]
            omega
          have hnx : cst l (done ++ [k]) = ((cst l done).1.set k (((nx (cst l done).2 n).1 : Int), ((nx (cst l done).2 n).2 : Int)), nx (cst l done).2 n) := by
            rw [cst_snoc]; unfold cstep; rw [hn, Int.toNat_natCast]
          obtain ⟨st, hst⟩ : ∃ st, st = (cst l done).2 := ⟨_, rfl⟩
          obtain ⟨ou, hou⟩ : ∃ ou, ou = (cst l done).1 := ⟨_, rfl⟩
          have houl : ou.length = 65 := by rw [hou]; exact length_cst l done
          rw [← hst, ← hou] at hout hnx
          rw [← hst] at hlb hle hinv2
          have hn2 : (nx st n).2 = n := by unfold nx; split <;> rfl
          have hb15 : (nx st n).1 + 1 ≤ 32768 := by
            rcases hinv2 with ⟨h0, _⟩ | ⟨_, _, h2⟩
            · omega
            · have h3 : 1 ≤ 2 ^ (15 - (nx st n).2) := Nat.pow_pos (by decide)
              have h4 : ((nx st n).1 + 1) * 1 ≤ ((nx st n).1 + 1) * 2 ^ (15 - (nx st n).2) := Nat.mul_le_mul_left _ h3
              omega
          have hk65 : k < 65 := by rw [← HL.out]; exact hkl
          have HX2 := kept hx2
          have HS := kept hs
          have HOut := kept hout
          have HO := kept ho
          have HK := kept hk
          have HLow := kept hlow
          have HSz := kept hsz
          have HNx := kept hnx
          have HN2 := kept hn2
          have HOl := kept houl
          have hax : ∃ ax ay, at_ l1 0 = (ax, ay) ∧ ax = (k : Int) ∧ ay = (n : Int) := ⟨(k : Int), l.getD k 0, HK.out.symm, rfl, hn⟩
          obtain ⟨ax, ay, hax, haxk, hayn⟩ := hax
          rw [hax] at HPop HX2
          simp only at HPop
          subst haxk hayn
          have hn1 : 1 ≤ n := by omega
          have hn15 : n ≤ 15 := by omega
          have hlen3 := hlen
          clear hs hpm hout ho hlen hx2 hk HPm hlow hsz hkm hkl hk1 hk15 hso hso2 hdn hdm hinv hinv2 hkd hnx hst hou houl hn2 hax hn HS3 HO3 hlen3
          go_wp2_with fail
          refine (hlen_calls _ _ _ _).mono ?_; rintro e w1 ⟨rfl, hbl⟩
          have HPop1 := kept (HPop.out w1 hbl)
          have HO1 : Kept (OutC B w1 g q ou lb (st.2 : Int)) := kept ⟨HOut.out.out.later hbl, (hbl.block q HOut.out.last.lt).trans HOut.out.last, HOut.out.gB, HOut.out.qB, HOut.out.ne⟩
          have HB1 := kept (HLow.out.trans (hbl.mono HSz.out))
          have HZ1 := kept (Nat.le_trans HSz.out hbl.size)
          clear hbl
          go_wp2_with fail
          refine HPop1.out.mono ?_
          rintro e w2 ⟨rfl, l2, h2, hl2, hh2, hp2, hm2, hc2⟩
          obtain ⟨curh, hgb⟩ := HS.out.hp.row.blk gh rfl
          have hgp1 : g ≠ p := fun e => HOut.out.out.ne HS.out.hp.blk (by decide) (by rw [← e]; rfl)
          have hgg1 : g ≠ gh := fun e => HOut.out.out.ne hgb (by decide) (by rw [← e]; rfl)
          have hqp1 : q ≠ p := HOut.out.last.ne HS.out.hp.blk (by decide)
          have hqg1 : q ≠ gh := HOut.out.last.ne hgb (by decide)
          have hb2 : Below B w1 w2 := hc2.below HZ1.out (fun b hb h => by
            rcases h with rfl | rfl
            · have := HS.out.newp; omega
            · have := HS.out.new b rfl; omega)
          have HO2 : Kept (OutC B w2 g q ou lb (st.2 : Int)) := kept ⟨HO1.out.out.chg hc2 (fun b hb h => by
              simp [Value.ownBlock] at hb; subst hb
              rcases h with h | h
              · exact hgp1 h
              · exact hgg1 h), hc2.keep HO1.out.last (fun h => by
              rcases h with h | h
              · exact hqp1 h
              · exact hqg1 h), HOut.out.gB, HOut.out.qB, HOut.out.ne⟩
          have HS2 : Kept (HpC B w2 p (.slice (some ⟨gh, 0, none⟩) rest.length cap) l2 ∧ Below B w w2 ∧ B ≤ w2.heap.size) := kept ⟨⟨h2, by rw [hl2]; exact hh2, HS.out.newp, fun b hb => HS.out.new b hb⟩, HB1.out.trans hb2, Nat.le_trans HZ1.out hb2.size⟩
          have HPm2 := kept (HX2.out l2 hp2 hm2)
          have HL2 := kept hl2
          clear h2 hl2 hh2 hp2 hm2 hc2 hb2 hgb hgp1 hgg1 hqp1 hqg1
          obtain ⟨cc, hcc⟩ : ∃ cc, cc = w2.heap.size := ⟨_, rfl⟩
          obtain ⟨w3, hw3⟩ : ∃ w3, w3 = w2.alloc (.cells #[.int .i64 (k : Int), .int .i64 (n : Int)] 51) := ⟨_, rfl⟩
          have hb3 : Below w2.heap.size w2 w3 := by rw [hw3]; exact (Below.refl _ _).alloc (Nat.le_refl _) _
          have HS3 : Kept (HpC B w3 p (.slice (some ⟨gh, 0, none⟩) rest.length cap) l2 ∧ Below B w w3 ∧ B ≤ w3.heap.size) := kept ⟨⟨HS2.out.1.hp.later hb3, HS2.out.1.heap, HS2.out.1.newp, HS2.out.1.new⟩, HS2.out.2.1.trans (hb3.mono HS2.out.2.2), Nat.le_trans HS2.out.2.2 hb3.size⟩
          have HO3 : Kept (OutC B w3 g q ou lb (st.2 : Int)) := kept ⟨HO2.out.out.later hb3, (hb3.block q HO2.out.last.lt).trans HO2.out.last, HOut.out.gB, HOut.out.qB, HOut.out.ne⟩
          have hcl : Blk w3 cc #[.int .i64 (k : Int), .int .i64 (n : Int)] 51 := by rw [hw3, hcc]; exact Blk.fresh _ _ _
          have hccq : cc ≠ q := fun e => (hcl.ne HO3.out.last (by decide)) e
          have k0 := hcl.cell (i := 0) rfl
          have k1 := hcl.cell (i := 1) rfl
          have q0 := HO3.out.last.cell (i := 0) rfl
          have q1 := HO3.out.last.cell (i := 1) rfl
          have fq0 := HO3.out.last.free 0
          have fq1 := HO3.out.last.free 1
          have HCl := kept hcl
          clear hb3 hcl HO1 HO2 HS2 HPop HPop1 HOut HS c0
          go_upto_if 48 with fail
          rw [← hcc, ← hw3]
          clear hw3 hcc hta
          rcases hlb with ⟨hst0, rfl⟩ | ⟨hst1, rfl⟩
          · have HX3 : Kept ((nx st n).1 = 0) := kept (by unfold nx; rw [if_pos hst0])
            rw [hst0] at q1 HO3
            rw [show (((0 : Nat)) : Int) = 0 from rfl] at q1 HO3
            obtain ⟨w4, hw4⟩ : ∃ w4, w4 = w3.setCell ⟨q, 1, none⟩ (.int .i64 (n : Int)) := ⟨_, rfl⟩
            have h4 := setLast HO3.out HS3.out.1 HS3.out.2.1 HS3.out.2.2 (n : Int) HCl.out
            rw [← hw4] at h4
            have HS4 : Kept (HpC B w4 p (.slice (some ⟨gh, 0, none⟩) rest.length cap) l2 ∧ Below B w w4 ∧ B ≤ w4.heap.size) := kept ⟨h4.2.1, h4.2.2.1, h4.2.2.2.1⟩
            have HO4 : Kept (OutC B w4 g q ou (-1) (n : Int)) := kept h4.1
            have HCl4 : Kept (Blk w4 cc #[.int .i64 (k : Int), .int .i64 (n : Int)] 51) := kept h4.2.2.2.2
            go_upto_region 17 with fail
            rw [← hw4]
            clear h4 hw4 hb15 HS3 HO3 HCl k0 k1 q0 q1 fq0 fq1
            have k0 := HCl4.out.cell (i := 0) rfl
            have k1 := HCl4.out.cell (i := 1) rfl
            have q0 := HO4.out.last.cell (i := 0) rfl
            have q1 := HO4.out.last.cell (i := 1) rfl
            have fq0 := HO4.out.last.free 0
            have fq1 := HO4.out.last.free 1
            have m0 := lat_cell k0
            have m1 := lat_cell k1
            have m2 := lat_cell q0
            have m3 := lat_cell q1
            refine wp_region_mixL [] [0,1,2,3,4,5,6,7,8,9,10] [11,12] (by kernel_rfl) (by kernel_rfl) ?_
            intro K hK
            simp only [pick, List.filterMap_cons, List.filterMap_nil, List.getElem?_cons_zero, List.getElem?_cons_succ]
            refine wpQuiet_nil ?_
            repeat (show wpQuiet _ _ _ _ (_ :: _) _; go_big_quiet_step (fail))
            refine wpQuiet_nil ?_
            show wpList _ _ _ [_, _] _ _
            generalize hwd : World.drew w4 = wd
            have hlat : Below w4.heap.size w4 wd := by rw [← hwd]; exact (Below.refl _ _).drew
            have HSd : Kept (HpC B wd p (.slice (some ⟨gh, 0, none⟩) rest.length cap) l2 ∧ Below B w wd ∧ B ≤ wd.heap.size) := kept ⟨⟨HS4.out.1.hp.later hlat, HS4.out.1.heap, HS4.out.1.newp, HS4.out.1.new⟩, HS4.out.2.1.trans (hlat.mono HS4.out.2.2), Nat.le_trans HS4.out.2.2 hlat.size⟩
            have HOd : Kept (OutC B wd g q ou (-1) (n : Int)) := kept ⟨HO4.out.out.later hlat, (hlat.block q HO4.out.last.lt).trans HO4.out.last, HO4.out.gB, HO4.out.qB, HO4.out.ne⟩
            have HCd : Kept (Blk wd cc #[.int .i64 (k : Int), .int .i64 (n : Int)] 51) := kept ((hlat.block cc HCl4.out.lt).trans HCl4.out)
            clear hwd hlat m0 m1 m2 m3 k0 k1 q0 q1 fq0 fq1 HS4 HO4 HCl4
            have q0 := HOd.out.last.cell (i := 0) rfl
            have q1 := HOd.out.last.cell (i := 1) rfl
            have fq0 := HOd.out.last.free 0
            have fq1 := HOd.out.last.free 1
            have k0 := HCd.out.cell (i := 0) rfl
            have k1 := HCd.out.cell (i := 1) rfl
            have co0 := HOd.out.out.cell (fl_at ou k (by rw [HOl.out]; exact hk65)).1
            have co1 := HOd.out.out.cell (fl_at ou k (by rw [HOl.out]; exact hk65)).2
            have fo0 := HOd.out.out.free (k * 2)
            have fo1 := HOd.out.out.free (k * 2 + 1)
            obtain ⟨oa, hoa⟩ : ∃ oa, oa = at_ ou k := ⟨_, rfl⟩
            rw [← hoa] at co0 co1
            have HFin := kept (putC HOd.out HSd.out.1 HSd.out.2.1 HSd.out.2.2 k 0 (n : Int) hk65 HOl.out)
            have hgq := HOd.out.ne
            have hqg : q ≠ g := fun e => hgq e.symm
            clear hoa
            go_wp2_with fail
            refine hK _ _ ?_
            go_wp2_with fail
            go_roundw
            case rel =>
              refine ⟨done ++ [k], rest, _, l2, 0, by rw [HO.out]; simp, HFin.out.2.1, HFin.out.2.2.1, HFin.out.2.2.2, HPm2.out, ?_, ?_, HL2.out⟩
              · rw [HNx.out]
                show OutC B _ g q (ou.set k (((nx st n).1 : Int), ((nx st n).2 : Int))) _ ((nx st n).2 : Int)
                rw [HN2.out, HX3.out]
                exact HFin.out.1
              · right
                rw [HNx.out]
                show 1 ≤ (nx st n).2 ∧ (0 : Int) = ((nx st n).1 : Int)
                rw [HN2.out, HX3.out]
                exact ⟨hn1, rfl⟩
            case measure =>
              have d0 := HFin.out.2.1.hp.blk.cell (i := 0) rfl
              rw [d0, HC0.out]
              simp [lenOf]
          · have ts : ((st.2 : Int) == 0) = false := by rw [beq_eq_false_iff_ne]; omega
            obtain ⟨d, hd⟩ : ∃ d : Nat, (n : Int) - (st.2 : Int) = (d : Int) := ⟨n - st.2, by omega⟩
            have hd2 : d = n - st.2 := by omega
            have hval : (nx st n).1 = (st.1 + 1) * 2 ^ d := by unfold nx; rw [if_neg (by omega), hd2]
            obtain ⟨X, hX⟩ : ∃ X, X = (nx st n).1 := ⟨_, rfl⟩
            have hXb : X + 1 ≤ 32768 := by rw [hX]; exact hb15
            have hv : ((st.1 : Int) + 1) * 2 ^ d = (X : Int) := by rw [hX, hval]; simp
            have hsb : st.1 + 1 ≤ 32768 := by
              have h1 : 1 ≤ 2 ^ d := Nat.pow_pos (by decide)
              have h2 : (st.1 + 1) * 1 ≤ (st.1 + 1) * 2 ^ d := Nat.mul_le_mul_left _ h1
              omega
            have HX3 := kept hX
            have m0 := lat_cell k0
            have m1 := lat_cell k1
            have m2 := lat_cell q0
            have m3 := lat_cell q1
            clear hval hd2 hX hb15
            go_wp2_with fail
            refine wp_region_mixL [] [0,1,2,3,4,5,6,7,8,9,10] [11,12] (by kernel_rfl) (by kernel_rfl) ?_
            intro K hK
            simp only [pick, List.filterMap_cons, List.filterMap_nil, List.getElem?_cons_zero, List.getElem?_cons_succ]
            refine wpQuiet_nil ?_
            repeat (show wpQuiet _ _ _ _ (_ :: _) _; go_big_quiet_step (fail))
            refine wpQuiet_nil ?_
            show wpList _ _ _ [_, _] _ _
            generalize hwd : World.drew w3 = wd
            have hlat : Below w3.heap.size w3 wd := by rw [← hwd]; exact (Below.refl _ _).drew
            have HSd : Kept (HpC B wd p (.slice (some ⟨gh, 0, none⟩) rest.length cap) l2 ∧ Below B w wd ∧ B ≤ wd.heap.size) := kept ⟨⟨HS3.out.1.hp.later hlat, HS3.out.1.heap, HS3.out.1.newp, HS3.out.1.new⟩, HS3.out.2.1.trans (hlat.mono HS3.out.2.2), Nat.le_trans HS3.out.2.2 hlat.size⟩
            have HOd : Kept (OutC B wd g q ou (st.1 : Int) (st.2 : Int)) := kept ⟨HO3.out.out.later hlat, (hlat.block q HO3.out.last.lt).trans HO3.out.last, HO3.out.gB, HO3.out.qB, HO3.out.ne⟩
            have HCd : Kept (Blk wd cc #[.int .i64 (k : Int), .int .i64 (n : Int)] 51) := kept ((hlat.block cc HCl.out.lt).trans HCl.out)
            clear hwd hlat m0 m1 m2 m3 k0 k1 q0 q1 fq0 fq1 HS3 HO3 HCl
            have q0 := HOd.out.last.cell (i := 0) rfl
            have q1 := HOd.out.last.cell (i := 1) rfl
            have fq0 := HOd.out.last.free 0
            have fq1 := HOd.out.last.free 1
            have k0 := HCd.out.cell (i := 0) rfl
            have k1 := HCd.out.cell (i := 1) rfl
            have co0 := HOd.out.out.cell (fl_at ou k (by rw [HOl.out]; exact hk65)).1
            have co1 := HOd.out.out.cell (fl_at ou k (by rw [HOl.out]; exact hk65)).2
            have fo0 := HOd.out.out.free (k * 2)
            have fo1 := HOd.out.out.free (k * 2 + 1)
            obtain ⟨oa, hoa⟩ : ∃ oa, oa = at_ ou k := ⟨_, rfl⟩
            rw [← hoa] at co0 co1
            have HFin := kept (putC HOd.out HSd.out.1 HSd.out.2.1 HSd.out.2.2 k (X : Int) (n : Int) hk65 HOl.out)
            have hgq := HOd.out.ne
            have hqg : q ≠ g := fun e => hgq e.symm
            clear hoa
            go_wp2_with fail
            refine hK _ _ ?_
            go_wp2_with fail
            go_roundw
            case rel =>
              refine ⟨done ++ [k], rest, _, l2, (X : Int), by rw [HO.out]; simp, HFin.out.2.1, HFin.out.2.2.1, HFin.out.2.2.2, HPm2.out, ?_, ?_, HL2.out⟩
              · rw [HNx.out]
                show OutC B _ g q (ou.set k (((nx st n).1 : Int), ((nx st n).2 : Int))) _ ((nx st n).2 : Int)
                rw [HN2.out, ← HX3.out]
                exact HFin.out.1
              · right
                rw [HNx.out]
                show 1 ≤ (nx st n).2 ∧ (X : Int) = ((nx st n).1 : Int)
                rw [HN2.out, ← HX3.out]
                exact ⟨hn1, rfl⟩
            case measure =>
              have d0 := HFin.out.2.1.hp.blk.cell (i := 0) rfl
              rw [d0, HC0.out]
              simp [lenOf]
end Go.Proofs.Ytkdmamffbhlbgaa.CanonH

-- ---- PAx1

namespace Go.Proofs.Ytkdmamffbhlbgaa.PA
open Go.RowKit Go.Proofs.YtkdmamffbhlbgaaW.PrintWords Go.Proofs.YtkdmamffbhlbgaaW.PrintLast Go.Proofs.YtkdmamffbhlbgaaW.PrintMore
attribute [local go_sem] max2_int min2_int max_two min_two max_three min_three max_four min_four   -- for this text's walks alone
set_option linter.unusedVariables false
set_option linter.unusedSimpArgs false

theorem eqA40 (d : Nat) (w : World) (x0 y0 : Int) (x1 y1 : Int) :
    (Op.equalIn (d + 2) 40 (.agg #[.int .i64 x0, .int .i64 x1]) (.agg #[.int .i64 y0, .int .i64 y1])).run Try.prog w = .ok (x0 == y0 && (x1 == y1)) w := by
  refine eqA_of Try.underlying40 (by kernel_rfl) ?_
  refine eqf_cons (by rfl) (by go_simp; rfl) (by go_simp; rfl) (by go_simp) ?_
  exact eqf_last (by rfl) (by go_simp; rfl) (by go_simp; rfl) (by go_simp)
end Go.Proofs.Ytkdmamffbhlbgaa.PA

-- ---- PAx8
/- canon.Codes: what the call answers, for every list. Conditions: none but a slice's. -/
namespace Go.Proofs.Ytkdmamffbhlbgaa.PA
open Go.RowKit Go.Proofs.YtkdmamffbhlbgaaW.PrintWords Go.Proofs.YtkdmamffbhlbgaaW.PrintLast Go.Proofs.YtkdmamffbhlbgaaW.PrintMore
set_option linter.unusedVariables false
set_option linter.unusedSimpArgs false

def codeS (c : Int × Int) : S40 := ⟨c.1, c.2⟩
/-- The answer of both. -/
def codesE (l : List Int) : List (S40) × Int := if Dp.mayL l = true then ((Cd.codeL l).map codeS, 0) else ([], 3)
def canon_Codes.f (l0 : List Int) : Option ((List (S40)) × Int) := some (codesE l0)
theorem canon_Codes.calls (A0 : Option Addr) (c0 : Nat) (l0 : List Int) (r1 : List (S40)) (r2 : Int) (w : World) (hr0 : Kd.C (Kd.int .i64) w A0 l0.length l0) (hc0 : l0.length ≤ c0) (h : canon_Codes.f l0 = some (r1, r2)) :
    Calls Try.prog 9 #[.slice A0 l0.length c0] w fun e w' => ∃ v0_ : Value, e = .returned (.tuple #[v0_, .int .i64 r2]) ∧ Kd.R k40 40 w' w.heap.size (fun _ => True) v0_ r1 ∧ Below w.heap.size w w' := by
  have h := Option.some.inj h
  unfold codesE at h
  split at h
  · rename_i hg
    obtain ⟨rfl, rfl⟩ := Prod.mk.inj h
    refine (CanonH.codes_ok A0 c0 l0 w hr0 hc0 hg).mono ?_
    rintro e w' ⟨v, rfl, ho, hnew, hb⟩
    refine ⟨v, rfl, ?_, hb⟩
    refine Own.R_of_flat k40 (fun x => [.int .i64 x.f0, .int .i64 x.f1]) (fun ok x => k40_mkM w' w.heap.size ok x) (fun _ => rfl) ?_ hnew
    have hl : (Cd.codeL l0).length = 65 := Cd.length_cst l0 _
    rw [List.length_map, hl]
    have e : ((Cd.codeL l0).map codeS).flatMap (fun x => [Value.int .i64 x.f0, .int .i64 x.f1]) = CanonH.fl (Cd.codeL l0) := by
      generalize Cd.codeL l0 = cs
      unfold CanonH.fl
      induction cs with
      | nil => rfl
      | cons a t ih => simp only [List.map_cons, List.flatMap_cons, ih]; rfl
    rw [e]; exact ho
  · rename_i hg
    obtain ⟨rfl, rfl⟩ := Prod.mk.inj h
    refine (CanonH.codes_bad A0 c0 l0 w hr0 hc0 (by simpa using hg)).mono ?_
    rintro e w' ⟨rfl, hb⟩
    exact ⟨_, rfl, Kd.R_nil _ _ _ _ _, hb⟩
end Go.Proofs.Ytkdmamffbhlbgaa.PA

-- ---- PAx9

namespace Go.Proofs.Ytkdmamffbhlbgaa.PA
open Go.RowKit Go.Proofs.YtkdmamffbhlbgaaW.PrintWords Go.Proofs.YtkdmamffbhlbgaaW.PrintLast Go.Proofs.YtkdmamffbhlbgaaW.PrintMore
attribute [local go_sem] max2_int min2_int max_two min_two max_three min_three max_four min_four   -- for this text's walks alone
set_option linter.unusedVariables false
set_option linter.unusedSimpArgs false

/-! ### wringerlaw1_Err: function 14 -/
def wringerlaw1_Err.f (a0 : Int) : Option (Int) := some a0
set_option maxHeartbeats 8000000 in
set_option maxRecDepth 100000 in
theorem wringerlaw1_Err.calls (a0 : Int) (r : Int) (w : World) (h : wringerlaw1_Err.f a0 = some r) :
    Calls Try.prog 14 #[.int .i64 a0] w fun e w' => e = .returned (.int .i64 r) ∧ Drawn0 w w' := by
  have H : (some a0) = some r := h
  clear h
  obtain rfl := Option.some.inj H
  go_enter Try.func14, Try.ntmps14
  go_wp2
  go_ret
  exact ⟨by first | rfl | (simp; done) | (simp [*]; done), by repeat (first | exact Drawn0.refl _ | apply Drawn0.step)⟩

end Go.Proofs.Ytkdmamffbhlbgaa.PA

-- ---- PAx10

namespace Go.Proofs.Ytkdmamffbhlbgaa.PA
open Go.RowKit Go.Proofs.YtkdmamffbhlbgaaW.PrintWords Go.Proofs.YtkdmamffbhlbgaaW.PrintLast Go.Proofs.YtkdmamffbhlbgaaW.PrintMore
attribute [local go_sem] max2_int min2_int max_two min_two max_three min_three max_four min_four   -- for this text's walks alone
set_option linter.unusedVariables false
set_option linter.unusedSimpArgs false

attribute [local go_sem high] eqA40
/-! ### wringerlaw9_awake: function 8 -/
def wringerlaw9_awake.f (k : Nat)  : Option (Bool) := if 65 ≤ 35184372088832 then ((some (List.replicate 65 0 : List Int)).bind fun y108 => (if 3 < (y108.length : Int) then (if 5 < (y108.length : Int) then (if 64 < (y108.length : Int) then ((some (((y108.set (3 : Int).toNat 1).set (5 : Int).toNat 2).set (64 : Int).toNat 2 : List Int)).bind fun y113 => ((canon_Codes.f y113).bind fun bt114 => ((canon_May.f k y113).bind fun t118 => (if t118 = true then ((wringerlaw1_Err.f bt114.2).bind fun t119 => (if t119 = 0 then (if (bt114.1.length : Int) = 65 then (if 3 < (bt114.1.length : Int) then (if (((rd_T40 bt114.1 3).f0) == 0 && (((rd_T40 bt114.1 3).f1) == 1)) = true then (if 5 < (bt114.1.length : Int) then (if (((rd_T40 bt114.1 5).f0) == 2 && (((rd_T40 bt114.1 5).f1) == 2)) = true then (if 64 < (bt114.1.length : Int) then (some (((rd_T40 bt114.1 64).f0) == 3 && (((rd_T40 bt114.1 64).f1) == 2))) else (none)) else (some false)) else (none)) else (some false)) else (none)) else (some false)) else (some false))) else (some false))))) else (none)) else (none)) else (none))) else (none)
theorem wringerlaw9_awake.mono : ∀ k, LeO (wringerlaw9_awake.f k ) (wringerlaw9_awake.f (k + 1) ) := by
  intro  k
  unfold wringerlaw9_awake.f
  repeat' first
      | (with_reducible exact canon_May.mono _ _)
      | (with_reducible exact LeO.refl _)
      | (with_reducible exact LeO.none _)
      | (with_reducible refine LeO.ite ?_ ?_)
      | (with_reducible refine LeO.bind ?_ (fun _ => ?_))
      | exact canon_May.mono _ _
      | exact LeO.none _
      | refine LeO.ite ?_ ?_
      | refine LeO.bind ?_ (fun _ => ?_)
set_option maxHeartbeats 8000000 in
set_option maxRecDepth 100000 in
theorem wringerlaw9_awake.calls (k : Nat)  (r : Bool) (w : World) (h : wringerlaw9_awake.f k  = some r) :
    Calls Try.prog 8 #[] w fun e w' => e = .returned (.bool r) ∧ Below w.heap.size w w' := by
  have hu40 := Try.underlying40
  have HB := Aside0.mk (Below.refl w.heap.size w)
  have H : (if 65 ≤ 35184372088832 then ((some (List.replicate 65 0 : List Int)).bind fun y108 => (if 3 < (y108.length : Int) then (if 5 < (y108.length : Int) then (if 64 < (y108.length : Int) then ((some (((y108.set (3 : Int).toNat 1).set (5 : Int).toNat 2).set (64 : Int).toNat 2 : List Int)).bind fun y113 => ((canon_Codes.f y113).bind fun bt114 => ((canon_May.f k y113).bind fun t118 => (if t118 = true then ((wringerlaw1_Err.f bt114.2).bind fun t119 => (if t119 = 0 then (if (bt114.1.length : Int) = 65 then (if 3 < (bt114.1.length : Int) then (if (((rd_T40 bt114.1 3).f0) == 0 && (((rd_T40 bt114.1 3).f1) == 1)) = true then (if 5 < (bt114.1.length : Int) then (if (((rd_T40 bt114.1 5).f0) == 2 && (((rd_T40 bt114.1 5).f1) == 2)) = true then (if 64 < (bt114.1.length : Int) then (some (((rd_T40 bt114.1 64).f0) == 3 && (((rd_T40 bt114.1 64).f1) == 2))) else (none)) else (some false)) else (none)) else (some false)) else (none)) else (some false)) else (some false))) else (some false))))) else (none)) else (none)) else (none))) else (none)) = some r := h
  clear h
  by_cases c1 : 65 ≤ 35184372088832
  · rw [if_pos c1] at H
    have c1b0 := eq_true c1
    have c1b1 : decide (65 ≤ 35184372088832) = true := decide_eq_true c1
    clear c1
    obtain ⟨y108, hy108⟩ : ∃ y_ : List Int, y_ = (List.replicate 65 0) := ⟨_, rfl⟩
    replace H : (if 3 < (y108.length : Int) then (if 5 < (y108.length : Int) then (if 64 < (y108.length : Int) then ((some (((y108.set (3 : Int).toNat 1).set (5 : Int).toNat 2).set (64 : Int).toNat 2 : List Int)).bind fun y113 => ((canon_Codes.f y113).bind fun bt114 => ((canon_May.f k y113).bind fun t118 => (if t118 = true then ((wringerlaw1_Err.f bt114.2).bind fun t119 => (if t119 = 0 then (if (bt114.1.length : Int) = 65 then (if 3 < (bt114.1.length : Int) then (if (((rd_T40 bt114.1 3).f0) == 0 && (((rd_T40 bt114.1 3).f1) == 1)) = true then (if 5 < (bt114.1.length : Int) then (if (((rd_T40 bt114.1 5).f0) == 2 && (((rd_T40 bt114.1 5).f1) == 2)) = true then (if 64 < (bt114.1.length : Int) then (some (((rd_T40 bt114.1 64).f0) == 3 && (((rd_T40 bt114.1 64).f1) == 2))) else (none)) else (some false)) else (none)) else (some false)) else (none)) else (some false)) else (some false))) else (some false))))) else (none)) else (none)) else (none)) = some r := by first | (rw [hy108]; with_reducible exact H) | (have H2_ := (Option.bind_some _ _).symm.trans H; rw [hy108]; with_reducible exact H2_) | (have H2_ := (Option.bind_some _ _).symm.trans H; with_reducible exact H2_) | with_reducible exact H | (rw [hy108]; exact H) | exact H
    have Ny108 := Aside0.mk hy108
    clear hy108
    by_cases c2 : 3 < (y108.length : Int)
    · rw [if_pos c2] at H
      have c2b0 : decide (3 < (y108.length : Int)) = true := decide_eq_true c2
      have c2b1 : decide (3 < y108.length) = true := decide_eq_true (by omega)
      clear c2
      obtain ⟨y111, hy111⟩ : ∃ y_ : List Int, y_ = (y108.set (3 : Int).toNat 1) := ⟨_, rfl⟩
      replace H : (if 5 < (y108.length : Int) then (if 64 < (y108.length : Int) then ((some ((y111.set (5 : Int).toNat 2).set (64 : Int).toNat 2 : List Int)).bind fun y113 => ((canon_Codes.f y113).bind fun bt114 => ((canon_May.f k y113).bind fun t118 => (if t118 = true then ((wringerlaw1_Err.f bt114.2).bind fun t119 => (if t119 = 0 then (if (bt114.1.length : Int) = 65 then (if 3 < (bt114.1.length : Int) then (if (((rd_T40 bt114.1 3).f0) == 0 && (((rd_T40 bt114.1 3).f1) == 1)) = true then (if 5 < (bt114.1.length : Int) then (if (((rd_T40 bt114.1 5).f0) == 2 && (((rd_T40 bt114.1 5).f1) == 2)) = true then (if 64 < (bt114.1.length : Int) then (some (((rd_T40 bt114.1 64).f0) == 3 && (((rd_T40 bt114.1 64).f1) == 2))) else (none)) else (some false)) else (none)) else (some false)) else (none)) else (some false)) else (some false))) else (some false))))) else (none)) else (none)) = some r := by first | (rw [hy111]; with_reducible exact H) | (have H2_ := (Option.bind_some _ _).symm.trans H; rw [hy111]; with_reducible exact H2_) | (have H2_ := (Option.bind_some _ _).symm.trans H; with_reducible exact H2_) | with_reducible exact H | (rw [hy111]; exact H) | exact H
      have Ny111 := Aside0.mk hy111
      clear hy111
      by_cases c4 : 5 < (y108.length : Int)
      · rw [if_pos c4] at H
        have c4b0 : decide (5 < (y108.length : Int)) = true := decide_eq_true c4
        have c4b1 : decide (5 < y108.length) = true := decide_eq_true (by omega)
        clear c4
        obtain ⟨y112, hy112⟩ : ∃ y_ : List Int, y_ = (y111.set (5 : Int).toNat 2) := ⟨_, rfl⟩
        replace H : (if 64 < (y108.length : Int) then ((some (y112.set (64 : Int).toNat 2 : List Int)).bind fun y113 => ((canon_Codes.f y113).bind fun bt114 => ((canon_May.f k y113).bind fun t118 => (if t118 = true then ((wringerlaw1_Err.f bt114.2).bind fun t119 => (if t119 = 0 then (if (bt114.1.length : Int) = 65 then (if 3 < (bt114.1.length : Int) then (if (((rd_T40 bt114.1 3).f0) == 0 && (((rd_T40 bt114.1 3).f1) == 1)) = true then (if 5 < (bt114.1.length : Int) then (if (((rd_T40 bt114.1 5).f0) == 2 && (((rd_T40 bt114.1 5).f1) == 2)) = true then (if 64 < (bt114.1.length : Int) then (some (((rd_T40 bt114.1 64).f0) == 3 && (((rd_T40 bt114.1 64).f1) == 2))) else (none)) else (some false)) else (none)) else (some false)) else (none)) else (some false)) else (some false))) else (some false))))) else (none)) = some r := by first | (rw [hy112]; with_reducible exact H) | (have H2_ := (Option.bind_some _ _).symm.trans H; rw [hy112]; with_reducible exact H2_) | (have H2_ := (Option.bind_some _ _).symm.trans H; with_reducible exact H2_) | with_reducible exact H | (rw [hy112]; exact H) | exact H
        have Ny112 := Aside0.mk hy112
        clear hy112
        by_cases c6 : 64 < (y108.length : Int)
        · rw [if_pos c6] at H
          have c6b0 : decide (64 < (y108.length : Int)) = true := decide_eq_true c6
          have c6b1 : decide (64 < y108.length) = true := decide_eq_true (by omega)
          clear c6
          obtain ⟨y113, hy113⟩ : ∃ y_ : List Int, y_ = (y112.set (64 : Int).toNat 2) := ⟨_, rfl⟩
          replace H : ((canon_Codes.f y113).bind fun bt114 => ((canon_May.f k y113).bind fun t118 => (if t118 = true then ((wringerlaw1_Err.f bt114.2).bind fun t119 => (if t119 = 0 then (if (bt114.1.length : Int) = 65 then (if 3 < (bt114.1.length : Int) then (if (((rd_T40 bt114.1 3).f0) == 0 && (((rd_T40 bt114.1 3).f1) == 1)) = true then (if 5 < (bt114.1.length : Int) then (if (((rd_T40 bt114.1 5).f0) == 2 && (((rd_T40 bt114.1 5).f1) == 2)) = true then (if 64 < (bt114.1.length : Int) then (some (((rd_T40 bt114.1 64).f0) == 3 && (((rd_T40 bt114.1 64).f1) == 2))) else (none)) else (some false)) else (none)) else (some false)) else (none)) else (some false)) else (some false))) else (some false)))) = some r := by first | (rw [hy113]; with_reducible exact H) | (have H2_ := (Option.bind_some _ _).symm.trans H; rw [hy113]; with_reducible exact H2_) | (have H2_ := (Option.bind_some _ _).symm.trans H; with_reducible exact H2_) | with_reducible exact H | (rw [hy113]; exact H) | exact H
          have Ny113 := Aside0.mk hy113
          clear hy113
          replace H := Option.bind_eq_some_iff.mp H
          obtain ⟨⟨t114, t115⟩, A80, H⟩ := H
          replace H : ((canon_May.f k y113).bind fun t118 => (if t118 = true then ((wringerlaw1_Err.f t115).bind fun t119 => (if t119 = 0 then (if (t114.length : Int) = 65 then (if 3 < (t114.length : Int) then (if (((rd_T40 t114 3).f0) == 0 && (((rd_T40 t114 3).f1) == 1)) = true then (if 5 < (t114.length : Int) then (if (((rd_T40 t114 5).f0) == 2 && (((rd_T40 t114 5).f1) == 2)) = true then (if 64 < (t114.length : Int) then (some (((rd_T40 t114 64).f0) == 3 && (((rd_T40 t114 64).f1) == 2))) else (none)) else (some false)) else (none)) else (some false)) else (none)) else (some false)) else (some false))) else (some false))) = some r := H
          have A8 := Aside0.mk A80
          clear A80
          replace H := Option.bind_eq_some_iff.mp H
          obtain ⟨t118, A90, H⟩ := H
          replace H : (if t118 = true then ((wringerlaw1_Err.f t115).bind fun t119 => (if t119 = 0 then (if (t114.length : Int) = 65 then (if 3 < (t114.length : Int) then (if (((rd_T40 t114 3).f0) == 0 && (((rd_T40 t114 3).f1) == 1)) = true then (if 5 < (t114.length : Int) then (if (((rd_T40 t114 5).f0) == 2 && (((rd_T40 t114 5).f1) == 2)) = true then (if 64 < (t114.length : Int) then (some (((rd_T40 t114 64).f0) == 3 && (((rd_T40 t114 64).f1) == 2))) else (none)) else (some false)) else (none)) else (some false)) else (none)) else (some false)) else (some false))) else (some false)) = some r := H
          have A9 := Aside0.mk A90
          clear A90
          by_cases c10 : t118 = true
          · subst c10
            have H1 : ((wringerlaw1_Err.f t115).bind fun t119 => (if t119 = 0 then (if (t114.length : Int) = 65 then (if 3 < (t114.length : Int) then (if (((rd_T40 t114 3).f0) == 0 && (((rd_T40 t114 3).f1) == 1)) = true then (if 5 < (t114.length : Int) then (if (((rd_T40 t114 5).f0) == 2 && (((rd_T40 t114 5).f1) == 2)) = true then (if 64 < (t114.length : Int) then (some (((rd_T40 t114 64).f0) == 3 && (((rd_T40 t114 64).f1) == 2))) else (none)) else (some false)) else (none)) else (some false)) else (none)) else (some false)) else (some false))) = some r := by rw [if_pos rfl] at H; exact H
            clear H
            have H := H1
            clear H1
            replace H := Option.bind_eq_some_iff.mp H
            obtain ⟨t119, A110, H⟩ := H
            replace H : (if t119 = 0 then (if (t114.length : Int) = 65 then (if 3 < (t114.length : Int) then (if (((rd_T40 t114 3).f0) == 0 && (((rd_T40 t114 3).f1) == 1)) = true then (if 5 < (t114.length : Int) then (if (((rd_T40 t114 5).f0) == 2 && (((rd_T40 t114 5).f1) == 2)) = true then (if 64 < (t114.length : Int) then (some (((rd_T40 t114 64).f0) == 3 && (((rd_T40 t114 64).f1) == 2))) else (none)) else (some false)) else (none)) else (some false)) else (none)) else (some false)) else (some false)) = some r := H
            have A11 := Aside0.mk A110
            clear A110
            by_cases c12 : t119 = 0
            · rw [if_pos c12] at H
              have c12b0 : (t119 == 0) = true := beq_iff_eq.mpr c12
              have c12b1 : (t119 != 0) = false := bne_eq_false_iff_eq.mpr c12
              clear c12
              by_cases c13 : (t114.length : Int) = 65
              · rw [if_pos c13] at H
                have c13b0 : ((t114.length : Int) == 65) = true := beq_iff_eq.mpr c13
                have c13b1 : ((t114.length : Int) != 65) = false := bne_eq_false_iff_eq.mpr c13
                clear c13
                by_cases c14 : 3 < (t114.length : Int)
                · rw [if_pos c14] at H
                  have c14b0 : decide (3 < (t114.length : Int)) = true := decide_eq_true c14
                  have c14b1 : decide (3 < t114.length) = true := decide_eq_true (by omega)
                  clear c14
                  by_cases c15 : (((rd_T40 t114 3).f0) == 0 && (((rd_T40 t114 3).f1) == 1)) = true
                  · rw [if_pos c15] at H
                    have c15b0 : (((rd_T40 t114 3).f0) == 0 && (((rd_T40 t114 3).f1) == 1)) = true := c15
                    (try (have c15b1 : decide (((rd_T40 t114 3).f0) = 0 && (((rd_T40 t114 3).f1) == 1)) = true := by simpa using c15))
                    (try (have c15b2 : (((rd_T40 t114 3).f0) == 0 && (((rd_T40 t114 3).f1) == 1)) = true := by simpa using c15))
                    clear c15
                    by_cases c16 : 5 < (t114.length : Int)
                    · rw [if_pos c16] at H
                      have c16b0 : decide (5 < (t114.length : Int)) = true := decide_eq_true c16
                      have c16b1 : decide (5 < t114.length) = true := decide_eq_true (by omega)
                      clear c16
                      by_cases c17 : (((rd_T40 t114 5).f0) == 2 && (((rd_T40 t114 5).f1) == 2)) = true
                      · rw [if_pos c17] at H
                        have c17b0 : (((rd_T40 t114 5).f0) == 2 && (((rd_T40 t114 5).f1) == 2)) = true := c17
                        (try (have c17b1 : decide (((rd_T40 t114 5).f0) = 2 && (((rd_T40 t114 5).f1) == 2)) = true := by simpa using c17))
                        (try (have c17b2 : (((rd_T40 t114 5).f0) == 2 && (((rd_T40 t114 5).f1) == 2)) = true := by simpa using c17))
                        clear c17
                        by_cases c18 : 64 < (t114.length : Int)
                        · rw [if_pos c18] at H
                          have c18b0 : decide (64 < (t114.length : Int)) = true := decide_eq_true c18
                          have c18b1 : decide (64 < t114.length) = true := decide_eq_true (by omega)
                          clear c18
                          obtain rfl := Option.some.inj H
                          go_enter Try.func8, Try.ntmps8
                          go_wp2_with (first | ((with_reducible refine gate_dst (N := 4) rfl ?_); (try (refine gate_guard (by rfl) ?_; dsimp only)); refine Kd.R_make (Kd.int .i64) _ 3 rfl (N := 4) rfl 22 _ _ rfl 65 rfl rfl Try.underlying22 (.int .i64 0) 8 info3 rfl (by decide) (by omega) 0 (ok := fun _ => True) (okp := fun _ => True) rfl (fun _ hk => hk) trivial (by omega) (by omega) (Below.refl _ _) (Nat.le_refl _) ?_; intro v109 w19 ho20 hb hg_ hnew_; clear hg_ hnew_; (first | rw [← Ny108.out] at ho20 | (simp only [Int.reduceToNat] at ho20; rw [← Ny108.out] at ho20)); have n0_ := Aside0.mk (Kd.R_lower ho20 (below_size (by repeat (first | (with_reducible first | exact HB.out | apply below_alloc | apply pw_below_drewN | apply below_drew1) | exact HB.out)))); have n1_ := Aside0.mk (below_step (by repeat (first | (with_reducible first | exact HB.out | apply below_alloc | apply pw_below_drewN | apply below_drew1) | exact HB.out)) hb); clear HB; have HO110 := n0_; have HB := n1_; clear n0_ n1_; clear hb ho20; have p3 : 0 ≤ (3 : Int) := (by omega); have q3 : (3 : Int) < ((y108.length : Int) : Int) := of_decide_eq_true (by first | (with_reducible assumption) | assumption); have qi3 : (3 < y108.length) = True := eq_true (by omega); obtain ⟨go3, co3, eo3, gb3, gl3, cl3, HG3⟩ := Kd.R_form HO110.out (by omega); (first | cases eo3 | (injection eo3 with ea_ en_ ec_; (first | subst ea_ | (injection ea_ with ea_; subst ea_)); subst ec_; clear en_)); have GB3 := Aside0.mk gb3; have GG3 := Aside0.mk HG3; clear gb3 gl3 HG3; obtain ⟨hx3_0, hf3_0⟩ := Kd.R_celln 0 HO110.out (3 : Int) p3 q3; (try rw [show ((3 : Int)).toNat = 3 from rfl] at hx3_0); (try simp only [Nat.reduceMul, Nat.zero_mul, Nat.zero_add, Nat.reduceAdd] at hx3_0); (try rw [show ((3 : Int)).toNat = 3 from rfl] at hf3_0); (try simp only [Nat.reduceMul, Nat.zero_mul, Nat.zero_add, Nat.reduceAdd] at hf3_0); replace p3 := eq_true p3; replace q3 := eq_true q3; obtain ⟨hy21_, hz21_⟩ := Kd.R_celln 0 HO110.out (3 : Int) (by omega) (of_decide_eq_true (by first | (with_reducible assumption) | assumption)); (try simp only [Int.reduceToNat, Int.toNat_zero, Int.toNat_ofNat, Nat.reduceMul, Nat.zero_mul, Nat.zero_add] at hy21_ hz21_); (try rw [show ((3 : Int)).toNat = 3 from rfl] at hy21_); (try rw [show ((3 : Int)).toNat = 3 from rfl] at hz21_); have HP21 := Kd.R_putg HO110.out (3 : Int) 1) | ((with_reducible refine gate_store (t := 3) (p := 6) rfl ?_); refine store_event (t := 3) (p := 6) (v := ?vo_w22) (w1 := (w19.setCell ⟨go3, (3 : Int).toNat, none⟩ (.int .i64 1))) ?hg ?ho ?hn ?hr ?_; (case ho => rfl); (case hg => rfl); (case hn => rfl); (case hr => first | (go_simp; done) | (go_simp; rfl)); intro w22 hw; have hg : w19.grownBy w22 (some go3) := (by rw [hw]; exact HP21.2); have hp_ : Kd.R (Kd.int .i64) 3 w22 w.heap.size (fun _ => True) (.slice (some ⟨go3, 0, none⟩) y108.length co3) y111 := (by rw [hw, Ny111.out]; exact HP21.1); clear HP21; have n0_ := Aside0.mk (hp_); have n1_ := Aside0.mk ((by rw [hw]; exact below_set (HB.out) GB3.out : Below w.heap.size w w22)); clear HO110; clear HB; have HO110 := n0_; have HB := n1_; clear n0_ n1_; clear hg hw hp_; have p5 : 0 ≤ (5 : Int) := (by omega); have q5 : (5 : Int) < ((y108.length : Int) : Int) := of_decide_eq_true (by first | (with_reducible assumption) | assumption); have qi5 : (5 < y108.length) = True := eq_true (by omega); obtain ⟨hx5_0, hf5_0⟩ := Kd.R_celln 0 HO110.out (5 : Int) p5 q5; (try rw [show ((5 : Int)).toNat = 5 from rfl] at hx5_0); (try simp only [Nat.reduceMul, Nat.zero_mul, Nat.zero_add, Nat.reduceAdd] at hx5_0); (try rw [show ((5 : Int)).toNat = 5 from rfl] at hf5_0); (try simp only [Nat.reduceMul, Nat.zero_mul, Nat.zero_add, Nat.reduceAdd] at hf5_0); replace p5 := eq_true p5; replace q5 := eq_true q5; obtain ⟨hy23_, hz23_⟩ := Kd.R_celln 0 HO110.out (5 : Int) (by omega) (of_decide_eq_true (by first | (with_reducible assumption) | assumption)); (try simp only [Int.reduceToNat, Int.toNat_zero, Int.toNat_ofNat, Nat.reduceMul, Nat.zero_mul, Nat.zero_add] at hy23_ hz23_); (try rw [show ((5 : Int)).toNat = 5 from rfl] at hy23_); (try rw [show ((5 : Int)).toNat = 5 from rfl] at hz23_); have HP23 := Kd.R_putg HO110.out (5 : Int) 2) | ((with_reducible refine gate_store (t := 3) (p := 8) rfl ?_); refine store_event (t := 3) (p := 8) (v := ?vo_w24) (w1 := (w22.setCell ⟨go3, (5 : Int).toNat, none⟩ (.int .i64 2))) ?hg ?ho ?hn ?hr ?_; (case ho => rfl); (case hg => rfl); (case hn => rfl); (case hr => first | (go_simp; done) | (go_simp; rfl)); intro w24 hw; have hg : w22.grownBy w24 (some go3) := (by rw [hw]; exact HP23.2); have hp_ : Kd.R (Kd.int .i64) 3 w24 w.heap.size (fun _ => True) (.slice (some ⟨go3, 0, none⟩) y108.length co3) y112 := (by rw [hw, Ny112.out]; exact HP23.1); clear HP23; have n0_ := Aside0.mk (hp_); have n1_ := Aside0.mk ((by rw [hw]; exact below_set (HB.out) GB3.out : Below w.heap.size w w24)); clear HO110; clear HB; have HO110 := n0_; have HB := n1_; clear n0_ n1_; clear hg hw hp_; have p7 : 0 ≤ (64 : Int) := (by omega); have q7 : (64 : Int) < ((y108.length : Int) : Int) := of_decide_eq_true (by first | (with_reducible assumption) | assumption); have qi7 : (64 < y108.length) = True := eq_true (by omega); obtain ⟨hx7_0, hf7_0⟩ := Kd.R_celln 0 HO110.out (64 : Int) p7 q7; (try rw [show ((64 : Int)).toNat = 64 from rfl] at hx7_0); (try simp only [Nat.reduceMul, Nat.zero_mul, Nat.zero_add, Nat.reduceAdd] at hx7_0); (try rw [show ((64 : Int)).toNat = 64 from rfl] at hf7_0); (try simp only [Nat.reduceMul, Nat.zero_mul, Nat.zero_add, Nat.reduceAdd] at hf7_0); replace p7 := eq_true p7; replace q7 := eq_true q7; obtain ⟨hy25_, hz25_⟩ := Kd.R_celln 0 HO110.out (64 : Int) (by omega) (of_decide_eq_true (by first | (with_reducible assumption) | assumption)); (try simp only [Int.reduceToNat, Int.toNat_zero, Int.toNat_ofNat, Nat.reduceMul, Nat.zero_mul, Nat.zero_add] at hy25_ hz25_); (try rw [show ((64 : Int)).toNat = 64 from rfl] at hy25_); (try rw [show ((64 : Int)).toNat = 64 from rfl] at hz25_); have HP25 := Kd.R_putg HO110.out (64 : Int) 2) | ((with_reducible refine gate_store (t := 3) (p := 10) rfl ?_); refine store_event (t := 3) (p := 10) (v := ?vo_w26) (w1 := (w24.setCell ⟨go3, (64 : Int).toNat, none⟩ (.int .i64 2))) ?hg ?ho ?hn ?hr ?_; (case ho => rfl); (case hg => rfl); (case hn => rfl); (case hr => first | (go_simp; done) | (go_simp; rfl)); intro w26 hw; have hg : w24.grownBy w26 (some go3) := (by rw [hw]; exact HP25.2); have hp_ : Kd.R (Kd.int .i64) 3 w26 w.heap.size (fun _ => True) (.slice (some ⟨go3, 0, none⟩) y108.length co3) y113 := (by rw [hw, Ny113.out]; exact HP25.1); clear HP25; have n0_ := Aside0.mk (hp_); have n1_ := Aside0.mk ((by rw [hw]; exact below_set (HB.out) GB3.out : Below w.heap.size w w26)); clear HO110; clear HB; have HO110 := n0_; have HB := n1_; clear n0_ n1_; clear hg hw hp_) | ((with_reducible refine gate_callee (f := 9) rfl ?_); refine goesL_ (some 13) rfl rfl Try.func9 (by kernel_rfl) rfl #[.slice (some ⟨go3, 0, none⟩) y113.length co3] rfl (by (try simp only [List.map_toArray, List.map_cons, List.map_nil]); first | done | (rw [show y113.length = y108.length from (Kd.R_reads' HO110.out).1.symm] <;> rfl) | rfl | (simp only [List.length_drop, List.length_take]; rfl)) ?_; (with_reducible refine (canon_Codes.calls _ _ y113 t114 t115 _ ?side1 ?side2 A8.out).mono ?_); (case side1 => repeat (first | exact (Kd.R_reads' HO110.out).2.2 | (with_reducible refine Kd.C_alloc ?_ _) | (with_reducible refine Kd.C_drewN ?_ _) | (with_reducible refine Kd.C_drew ?_))); (case side2 => rw [show y113.length = y108.length from (Kd.R_reads' HO110.out).1.symm]; exact (Kd.R_reads' HO110.out).2.1); rintro e w27 ⟨v116, rfl, ho0, hb⟩; refine ⟨_, rfl, ?_⟩; have n0_ := Aside0.mk (Kd.R_below (by (with_reducible repeat (first | apply Kd.R_alloc | apply Kd.R_drewN | apply Kd.R_drew)); exact HO110.out) hb); have n1_ := Aside0.mk (Kd.R_lower ho0 (below_size (by repeat (first | (with_reducible first | exact HB.out | apply below_alloc | apply pw_below_drewN | apply below_drew1) | exact HB.out)))); have n2_ := Aside0.mk (below_step (by repeat (first | (with_reducible first | exact HB.out | apply below_alloc | apply pw_below_drewN | apply below_drew1) | exact HB.out)) hb); clear HO110; clear HB; have HO110 := n0_; have HO117 := n1_; have HB := n2_; clear n0_ n1_ n2_; (try clear hb); (try clear hb2); (try clear hk); (try clear hi); (try clear ho0)) | ((with_reducible refine gate_callee (f := 11) rfl ?_); refine goesL_ (some 17) rfl rfl Try.func11 (by kernel_rfl) rfl #[.slice (some ⟨go3, 0, none⟩) y113.length co3] rfl (by (try simp only [List.map_toArray, List.map_cons, List.map_nil]); first | done | (rw [show y113.length = y108.length from (Kd.R_reads' HO110.out).1.symm] <;> rfl) | rfl | (simp only [List.length_drop, List.length_take]; rfl)) ?_; (with_reducible refine (canon_May.calls k _ _ y113 true _ ?side1 ?side2 A9.out).mono ?_); (case side1 => repeat (first | exact (Kd.R_reads' HO110.out).2.2 | (with_reducible refine Kd.C_alloc ?_ _) | (with_reducible refine Kd.C_drewN ?_ _) | (with_reducible refine Kd.C_drew ?_))); (case side2 => rw [show y113.length = y108.length from (Kd.R_reads' HO110.out).1.symm]; exact (Kd.R_reads' HO110.out).2.1); rintro e w' ⟨rfl, ⟨nd, rfl⟩⟩; refine ⟨_, rfl, ?_⟩) | (go_at_call 14; (with_reducible refine (wringerlaw1_Err.calls t115 t119 _ A11.out).mono ?_); rintro e w' ⟨rfl, ⟨nd, rfl⟩⟩; obtain ⟨Ao28, co28, eo28⟩ := Kd.R_slice HO117.out; subst eo28; have p120 : 0 ≤ (3 : Int) := (by omega); have q120 : 3 < (t114.length : Int) := of_decide_eq_true (by first | (with_reducible assumption) | assumption); obtain ⟨ad120, e120, hx120_0, hx120_1⟩ := at_T40 (Kd.R_reads' HO117.out).2.2 3 p120 q120; cases e120; (try simp only [show (3 : Int).toNat = 3 from rfl, Nat.reduceMul, Nat.reduceEqDiff, Go.Addr.add, ↓reduceIte] at hx120_0); (try simp only [show (3 : Int).toNat = 3 from rfl, Nat.reduceMul, Nat.reduceEqDiff, Go.Addr.add, ↓reduceIte] at hx120_1); have qi120 : (3 < t114.length) = True := eq_true (by omega); (try rw [show ((3 : Int)).toNat = 3 from rfl] at hx120_0); (try rw [show 3 * 2 = 6 from rfl] at hx120_0); (try rw [show ((3 : Int)).toNat = 3 from rfl] at hx120_1); (try rw [show 3 * 2 = 6 from rfl] at hx120_1); replace p120 := eq_true p120; replace q120 := eq_true q120; have p121 : 0 ≤ (5 : Int) := (by omega); have q121 : 5 < (t114.length : Int) := of_decide_eq_true (by first | (with_reducible assumption) | assumption); obtain ⟨ad121, e121, hx121_0, hx121_1⟩ := at_T40 (Kd.R_reads' HO117.out).2.2 5 p121 q121; obtain rfl : ad120 = ad121 := (by injection e121); (try simp only [show (5 : Int).toNat = 5 from rfl, Nat.reduceMul, Nat.reduceEqDiff, Go.Addr.add, ↓reduceIte] at hx121_0); (try simp only [show (5 : Int).toNat = 5 from rfl, Nat.reduceMul, Nat.reduceEqDiff, Go.Addr.add, ↓reduceIte] at hx121_1); have qi121 : (5 < t114.length) = True := eq_true (by omega); (try rw [show ((5 : Int)).toNat = 5 from rfl] at hx121_0); (try rw [show 5 * 2 = 10 from rfl] at hx121_0); (try rw [show ((5 : Int)).toNat = 5 from rfl] at hx121_1); (try rw [show 5 * 2 = 10 from rfl] at hx121_1); replace p121 := eq_true p121; replace q121 := eq_true q121; have p122 : 0 ≤ (64 : Int) := (by omega); have q122 : 64 < (t114.length : Int) := of_decide_eq_true (by first | (with_reducible assumption) | assumption); obtain ⟨ad122, e122, hx122_0, hx122_1⟩ := at_T40 (Kd.R_reads' HO117.out).2.2 64 p122 q122; obtain rfl : ad120 = ad122 := (by injection e122); (try simp only [show (64 : Int).toNat = 64 from rfl, Nat.reduceMul, Nat.reduceEqDiff, Go.Addr.add, ↓reduceIte] at hx122_0); (try simp only [show (64 : Int).toNat = 64 from rfl, Nat.reduceMul, Nat.reduceEqDiff, Go.Addr.add, ↓reduceIte] at hx122_1); have qi122 : (64 < t114.length) = True := eq_true (by omega); (try rw [show ((64 : Int)).toNat = 64 from rfl] at hx122_0); (try rw [show 64 * 2 = 128 from rfl] at hx122_0); (try rw [show ((64 : Int)).toNat = 64 from rfl] at hx122_1); (try rw [show 64 * 2 = 128 from rfl] at hx122_1); replace p122 := eq_true p122; replace q122 := eq_true q122))
                          go_ret
                          exact ⟨by first | rfl | (simp [errW_none, errW_some] <;> rfl) | (simp [*, errW_none, errW_some] <;> rfl), by repeat (first | (with_reducible first | exact HB.out | apply below_alloc | apply pw_below_drewN | apply below_drew1) | exact HB.out)⟩
                        · rw [if_neg c18] at H
                          exact absurd H (by simp)
                      · rw [if_neg c17] at H
                        have c17b0 : (((rd_T40 t114 5).f0) == 2 && (((rd_T40 t114 5).f1) == 2)) = false := by simpa using c17
                        (try (have c17b1 : decide (((rd_T40 t114 5).f0) = 2 && (((rd_T40 t114 5).f1) == 2)) = false := by simpa using c17))
                        (try (have c17b2 : (((rd_T40 t114 5).f0) == 2 && (((rd_T40 t114 5).f1) == 2)) = false := by simpa using c17))
                        (try (have c17b3 : ¬ (((rd_T40 t114 5).f0) = 2 && (((rd_T40 t114 5).f1) == 2)) := by simpa using c17))
                        clear c17
                        obtain rfl := Option.some.inj H
                        go_enter Try.func8, Try.ntmps8
                        go_wp2_with (first | ((with_reducible refine gate_dst (N := 4) rfl ?_); (try (refine gate_guard (by rfl) ?_; dsimp only)); refine Kd.R_make (Kd.int .i64) _ 3 rfl (N := 4) rfl 22 _ _ rfl 65 rfl rfl Try.underlying22 (.int .i64 0) 8 info3 rfl (by decide) (by omega) 0 (ok := fun _ => True) (okp := fun _ => True) rfl (fun _ hk => hk) trivial (by omega) (by omega) (Below.refl _ _) (Nat.le_refl _) ?_; intro v109 w29 ho30 hb hg_ hnew_; clear hg_ hnew_; (first | rw [← Ny108.out] at ho30 | (simp only [Int.reduceToNat] at ho30; rw [← Ny108.out] at ho30)); have n0_ := Aside0.mk (Kd.R_lower ho30 (below_size (by repeat (first | (with_reducible first | exact HB.out | apply below_alloc | apply pw_below_drewN | apply below_drew1) | exact HB.out)))); have n1_ := Aside0.mk (below_step (by repeat (first | (with_reducible first | exact HB.out | apply below_alloc | apply pw_below_drewN | apply below_drew1) | exact HB.out)) hb); clear HB; have HO110 := n0_; have HB := n1_; clear n0_ n1_; clear hb ho30; have p3 : 0 ≤ (3 : Int) := (by omega); have q3 : (3 : Int) < ((y108.length : Int) : Int) := of_decide_eq_true (by first | (with_reducible assumption) | assumption); have qi3 : (3 < y108.length) = True := eq_true (by omega); obtain ⟨go3, co3, eo3, gb3, gl3, cl3, HG3⟩ := Kd.R_form HO110.out (by omega); (first | cases eo3 | (injection eo3 with ea_ en_ ec_; (first | subst ea_ | (injection ea_ with ea_; subst ea_)); subst ec_; clear en_)); have GB3 := Aside0.mk gb3; have GG3 := Aside0.mk HG3; clear gb3 gl3 HG3; obtain ⟨hx3_0, hf3_0⟩ := Kd.R_celln 0 HO110.out (3 : Int) p3 q3; (try rw [show ((3 : Int)).toNat = 3 from rfl] at hx3_0); (try simp only [Nat.reduceMul, Nat.zero_mul, Nat.zero_add, Nat.reduceAdd] at hx3_0); (try rw [show ((3 : Int)).toNat = 3 from rfl] at hf3_0); (try simp only [Nat.reduceMul, Nat.zero_mul, Nat.zero_add, Nat.reduceAdd] at hf3_0); replace p3 := eq_true p3; replace q3 := eq_true q3; obtain ⟨hy31_, hz31_⟩ := Kd.R_celln 0 HO110.out (3 : Int) (by omega) (of_decide_eq_true (by first | (with_reducible assumption) | assumption)); (try simp only [Int.reduceToNat, Int.toNat_zero, Int.toNat_ofNat, Nat.reduceMul, Nat.zero_mul, Nat.zero_add] at hy31_ hz31_); (try rw [show ((3 : Int)).toNat = 3 from rfl] at hy31_); (try rw [show ((3 : Int)).toNat = 3 from rfl] at hz31_); have HP31 := Kd.R_putg HO110.out (3 : Int) 1) | ((with_reducible refine gate_store (t := 3) (p := 6) rfl ?_); refine store_event (t := 3) (p := 6) (v := ?vo_w32) (w1 := (w29.setCell ⟨go3, (3 : Int).toNat, none⟩ (.int .i64 1))) ?hg ?ho ?hn ?hr ?_; (case ho => rfl); (case hg => rfl); (case hn => rfl); (case hr => first | (go_simp; done) | (go_simp; rfl)); intro w32 hw; have hg : w29.grownBy w32 (some go3) := (by rw [hw]; exact HP31.2); have hp_ : Kd.R (Kd.int .i64) 3 w32 w.heap.size (fun _ => True) (.slice (some ⟨go3, 0, none⟩) y108.length co3) y111 := (by rw [hw, Ny111.out]; exact HP31.1); clear HP31; have n0_ := Aside0.mk (hp_); have n1_ := Aside0.mk ((by rw [hw]; exact below_set (HB.out) GB3.out : Below w.heap.size w w32)); clear HO110; clear HB; have HO110 := n0_; have HB := n1_; clear n0_ n1_; clear hg hw hp_; have p5 : 0 ≤ (5 : Int) := (by omega); have q5 : (5 : Int) < ((y108.length : Int) : Int) := of_decide_eq_true (by first | (with_reducible assumption) | assumption); have qi5 : (5 < y108.length) = True := eq_true (by omega); obtain ⟨hx5_0, hf5_0⟩ := Kd.R_celln 0 HO110.out (5 : Int) p5 q5; (try rw [show ((5 : Int)).toNat = 5 from rfl] at hx5_0); (try simp only [Nat.reduceMul, Nat.zero_mul, Nat.zero_add, Nat.reduceAdd] at hx5_0); (try rw [show ((5 : Int)).toNat = 5 from rfl] at hf5_0); (try simp only [Nat.reduceMul, Nat.zero_mul, Nat.zero_add, Nat.reduceAdd] at hf5_0); replace p5 := eq_true p5; replace q5 := eq_true q5; obtain ⟨hy33_, hz33_⟩ := Kd.R_celln 0 HO110.out (5 : Int) (by omega) (of_decide_eq_true (by first | (with_reducible assumption) | assumption)); (try simp only [Int.reduceToNat, Int.toNat_zero, Int.toNat_ofNat, Nat.reduceMul, Nat.zero_mul, Nat.zero_add] at hy33_ hz33_); (try rw [show ((5 : Int)).toNat = 5 from rfl] at hy33_); (try rw [show ((5 : Int)).toNat = 5 from rfl] at hz33_); have HP33 := Kd.R_putg HO110.out (5 : Int) 2) | ((with_reducible refine gate_store (t := 3) (p := 8) rfl ?_); refine store_event (t := 3) (p := 8) (v := ?vo_w34) (w1 := (w32.setCell ⟨go3, (5 : Int).toNat, none⟩ (.int .i64 2))) ?hg ?ho ?hn ?hr ?_; (case ho => rfl); (case hg => rfl); (case hn => rfl); (case hr => first | (go_simp; done) | (go_simp; rfl)); intro w34 hw; have hg : w32.grownBy w34 (some go3) := (by rw [hw]; exact HP33.2); have hp_ : Kd.R (Kd.int .i64) 3 w34 w.heap.size (fun _ => True) (.slice (some ⟨go3, 0, none⟩) y108.length co3) y112 := (by rw [hw, Ny112.out]; exact HP33.1); clear HP33; have n0_ := Aside0.mk (hp_); have n1_ := Aside0.mk ((by rw [hw]; exact below_set (HB.out) GB3.out : Below w.heap.size w w34)); clear HO110; clear HB; have HO110 := n0_; have HB := n1_; clear n0_ n1_; clear hg hw hp_; have p7 : 0 ≤ (64 : Int) := (by omega); have q7 : (64 : Int) < ((y108.length : Int) : Int) := of_decide_eq_true (by first | (with_reducible assumption) | assumption); have qi7 : (64 < y108.length) = True := eq_true (by omega); obtain ⟨hx7_0, hf7_0⟩ := Kd.R_celln 0 HO110.out (64 : Int) p7 q7; (try rw [show ((64 : Int)).toNat = 64 from rfl] at hx7_0); (try simp only [Nat.reduceMul, Nat.zero_mul, Nat.zero_add, Nat.reduceAdd] at hx7_0); (try rw [show ((64 : Int)).toNat = 64 from rfl] at hf7_0); (try simp only [Nat.reduceMul, Nat.zero_mul, Nat.zero_add, Nat.reduceAdd] at hf7_0); replace p7 := eq_true p7; replace q7 := eq_true q7; obtain ⟨hy35_, hz35_⟩ := Kd.R_celln 0 HO110.out (64 : Int) (by omega) (of_decide_eq_true (by first | (with_reducible assumption) | assumption)); (try simp only [Int.reduceToNat, Int.toNat_zero, Int.toNat_ofNat, Nat.reduceMul, Nat.zero_mul, Nat.zero_add] at hy35_ hz35_); (try rw [show ((64 : Int)).toNat = 64 from rfl] at hy35_); (try rw [show ((64 : Int)).toNat = 64 from rfl] at hz35_); have HP35 := Kd.R_putg HO110.out (64 : Int) 2) | ((with_reducible refine gate_store (t := 3) (p := 10) rfl ?_); refine store_event (t := 3) (p := 10) (v := ?vo_w36) (w1 := (w34.setCell ⟨go3, (64 : Int).toNat, none⟩ (.int .i64 2))) ?hg ?ho ?hn ?hr ?_; (case ho => rfl); (case hg => rfl); (case hn => rfl); (case hr => first | (go_simp; done) | (go_simp; rfl)); intro w36 hw; have hg : w34.grownBy w36 (some go3) := (by rw [hw]; exact HP35.2); have hp_ : Kd.R (Kd.int .i64) 3 w36 w.heap.size (fun _ => True) (.slice (some ⟨go3, 0, none⟩) y108.length co3) y113 := (by rw [hw, Ny113.out]; exact HP35.1); clear HP35; have n0_ := Aside0.mk (hp_); have n1_ := Aside0.mk ((by rw [hw]; exact below_set (HB.out) GB3.out : Below w.heap.size w w36)); clear HO110; clear HB; have HO110 := n0_; have HB := n1_; clear n0_ n1_; clear hg hw hp_) | ((with_reducible refine gate_callee (f := 9) rfl ?_); refine goesL_ (some 13) rfl rfl Try.func9 (by kernel_rfl) rfl #[.slice (some ⟨go3, 0, none⟩) y113.length co3] rfl (by (try simp only [List.map_toArray, List.map_cons, List.map_nil]); first | done | (rw [show y113.length = y108.length from (Kd.R_reads' HO110.out).1.symm] <;> rfl) | rfl | (simp only [List.length_drop, List.length_take]; rfl)) ?_; (with_reducible refine (canon_Codes.calls _ _ y113 t114 t115 _ ?side1 ?side2 A8.out).mono ?_); (case side1 => repeat (first | exact (Kd.R_reads' HO110.out).2.2 | (with_reducible refine Kd.C_alloc ?_ _) | (with_reducible refine Kd.C_drewN ?_ _) | (with_reducible refine Kd.C_drew ?_))); (case side2 => rw [show y113.length = y108.length from (Kd.R_reads' HO110.out).1.symm]; exact (Kd.R_reads' HO110.out).2.1); rintro e w37 ⟨v116, rfl, ho0, hb⟩; refine ⟨_, rfl, ?_⟩; have n0_ := Aside0.mk (Kd.R_below (by (with_reducible repeat (first | apply Kd.R_alloc | apply Kd.R_drewN | apply Kd.R_drew)); exact HO110.out) hb); have n1_ := Aside0.mk (Kd.R_lower ho0 (below_size (by repeat (first | (with_reducible first | exact HB.out | apply below_alloc | apply pw_below_drewN | apply below_drew1) | exact HB.out)))); have n2_ := Aside0.mk (below_step (by repeat (first | (with_reducible first | exact HB.out | apply below_alloc | apply pw_below_drewN | apply below_drew1) | exact HB.out)) hb); clear HO110; clear HB; have HO110 := n0_; have HO117 := n1_; have HB := n2_; clear n0_ n1_ n2_; (try clear hb); (try clear hb2); (try clear hk); (try clear hi); (try clear ho0)) | ((with_reducible refine gate_callee (f := 11) rfl ?_); refine goesL_ (some 17) rfl rfl Try.func11 (by kernel_rfl) rfl #[.slice (some ⟨go3, 0, none⟩) y113.length co3] rfl (by (try simp only [List.map_toArray, List.map_cons, List.map_nil]); first | done | (rw [show y113.length = y108.length from (Kd.R_reads' HO110.out).1.symm] <;> rfl) | rfl | (simp only [List.length_drop, List.length_take]; rfl)) ?_; (with_reducible refine (canon_May.calls k _ _ y113 true _ ?side1 ?side2 A9.out).mono ?_); (case side1 => repeat (first | exact (Kd.R_reads' HO110.out).2.2 | (with_reducible refine Kd.C_alloc ?_ _) | (with_reducible refine Kd.C_drewN ?_ _) | (with_reducible refine Kd.C_drew ?_))); (case side2 => rw [show y113.length = y108.length from (Kd.R_reads' HO110.out).1.symm]; exact (Kd.R_reads' HO110.out).2.1); rintro e w' ⟨rfl, ⟨nd, rfl⟩⟩; refine ⟨_, rfl, ?_⟩) | (go_at_call 14; (with_reducible refine (wringerlaw1_Err.calls t115 t119 _ A11.out).mono ?_); rintro e w' ⟨rfl, ⟨nd, rfl⟩⟩; obtain ⟨Ao38, co38, eo38⟩ := Kd.R_slice HO117.out; subst eo38; have p120 : 0 ≤ (3 : Int) := (by omega); have q120 : 3 < (t114.length : Int) := of_decide_eq_true (by first | (with_reducible assumption) | assumption); obtain ⟨ad120, e120, hx120_0, hx120_1⟩ := at_T40 (Kd.R_reads' HO117.out).2.2 3 p120 q120; cases e120; (try simp only [show (3 : Int).toNat = 3 from rfl, Nat.reduceMul, Nat.reduceEqDiff, Go.Addr.add, ↓reduceIte] at hx120_0); (try simp only [show (3 : Int).toNat = 3 from rfl, Nat.reduceMul, Nat.reduceEqDiff, Go.Addr.add, ↓reduceIte] at hx120_1); have qi120 : (3 < t114.length) = True := eq_true (by omega); (try rw [show ((3 : Int)).toNat = 3 from rfl] at hx120_0); (try rw [show 3 * 2 = 6 from rfl] at hx120_0); (try rw [show ((3 : Int)).toNat = 3 from rfl] at hx120_1); (try rw [show 3 * 2 = 6 from rfl] at hx120_1); replace p120 := eq_true p120; replace q120 := eq_true q120; have p121 : 0 ≤ (5 : Int) := (by omega); have q121 : 5 < (t114.length : Int) := of_decide_eq_true (by first | (with_reducible assumption) | assumption); obtain ⟨ad121, e121, hx121_0, hx121_1⟩ := at_T40 (Kd.R_reads' HO117.out).2.2 5 p121 q121; obtain rfl : ad120 = ad121 := (by injection e121); (try simp only [show (5 : Int).toNat = 5 from rfl, Nat.reduceMul, Nat.reduceEqDiff, Go.Addr.add, ↓reduceIte] at hx121_0); (try simp only [show (5 : Int).toNat = 5 from rfl, Nat.reduceMul, Nat.reduceEqDiff, Go.Addr.add, ↓reduceIte] at hx121_1); have qi121 : (5 < t114.length) = True := eq_true (by omega); (try rw [show ((5 : Int)).toNat = 5 from rfl] at hx121_0); (try rw [show 5 * 2 = 10 from rfl] at hx121_0); (try rw [show ((5 : Int)).toNat = 5 from rfl] at hx121_1); (try rw [show 5 * 2 = 10 from rfl] at hx121_1); replace p121 := eq_true p121; replace q121 := eq_true q121))
                        go_ret
                        exact ⟨by first | rfl | (simp [errW_none, errW_some] <;> rfl) | (simp [*, errW_none, errW_some] <;> rfl), by repeat (first | (with_reducible first | exact HB.out | apply below_alloc | apply pw_below_drewN | apply below_drew1) | exact HB.out)⟩
                    · rw [if_neg c16] at H
                      exact absurd H (by simp)
                  · rw [if_neg c15] at H
                    have c15b0 : (((rd_T40 t114 3).f0) == 0 && (((rd_T40 t114 3).f1) == 1)) = false := by simpa using c15
                    (try (have c15b1 : decide (((rd_T40 t114 3).f0) = 0 && (((rd_T40 t114 3).f1) == 1)) = false := by simpa using c15))
                    (try (have c15b2 : (((rd_T40 t114 3).f0) == 0 && (((rd_T40 t114 3).f1) == 1)) = false := by simpa using c15))
                    (try (have c15b3 : ¬ (((rd_T40 t114 3).f0) = 0 && (((rd_T40 t114 3).f1) == 1)) := by simpa using c15))
                    clear c15
                    obtain rfl := Option.some.inj H
                    go_enter Try.func8, Try.ntmps8
                    go_wp2_with (first | ((with_reducible refine gate_dst (N := 4) rfl ?_); (try (refine gate_guard (by rfl) ?_; dsimp only)); refine Kd.R_make (Kd.int .i64) _ 3 rfl (N := 4) rfl 22 _ _ rfl 65 rfl rfl Try.underlying22 (.int .i64 0) 8 info3 rfl (by decide) (by omega) 0 (ok := fun _ => True) (okp := fun _ => True) rfl (fun _ hk => hk) trivial (by omega) (by omega) (Below.refl _ _) (Nat.le_refl _) ?_; intro v109 w39 ho40 hb hg_ hnew_; clear hg_ hnew_; (first | rw [← Ny108.out] at ho40 | (simp only [Int.reduceToNat] at ho40; rw [← Ny108.out] at ho40)); have n0_ := Aside0.mk (Kd.R_lower ho40 (below_size (by repeat (first | (with_reducible first | exact HB.out | apply below_alloc | apply pw_below_drewN | apply below_drew1) | exact HB.out)))); have n1_ := Aside0.mk (below_step (by repeat (first | (with_reducible first | exact HB.out | apply below_alloc | apply pw_below_drewN | apply below_drew1) | exact HB.out)) hb); clear HB; have HO110 := n0_; have HB := n1_; clear n0_ n1_; clear hb ho40; have p3 : 0 ≤ (3 : Int) := (by omega); have q3 : (3 : Int) < ((y108.length : Int) : Int) := of_decide_eq_true (by first | (with_reducible assumption) | assumption); have qi3 : (3 < y108.length) = True := eq_true (by omega); obtain ⟨go3, co3, eo3, gb3, gl3, cl3, HG3⟩ := Kd.R_form HO110.out (by omega); (first | cases eo3 | (injection eo3 with ea_ en_ ec_; (first | subst ea_ | (injection ea_ with ea_; subst ea_)); subst ec_; clear en_)); have GB3 := Aside0.mk gb3; have GG3 := Aside0.mk HG3; clear gb3 gl3 HG3; obtain ⟨hx3_0, hf3_0⟩ := Kd.R_celln 0 HO110.out (3 : Int) p3 q3; (try rw [show ((3 : Int)).toNat = 3 from rfl] at hx3_0); (try simp only [Nat.reduceMul, Nat.zero_mul, Nat.zero_add, Nat.reduceAdd] at hx3_0); (try rw [show ((3 : Int)).toNat = 3 from rfl] at hf3_0); (try simp only [Nat.reduceMul, Nat.zero_mul, Nat.zero_add, Nat.reduceAdd] at hf3_0); replace p3 := eq_true p3; replace q3 := eq_true q3; obtain ⟨hy41_, hz41_⟩ := Kd.R_celln 0 HO110.out (3 : Int) (by omega) (of_decide_eq_true (by first | (with_reducible assumption) | assumption)); (try simp only [Int.reduceToNat, Int.toNat_zero, Int.toNat_ofNat, Nat.reduceMul, Nat.zero_mul, Nat.zero_add] at hy41_ hz41_); (try rw [show ((3 : Int)).toNat = 3 from rfl] at hy41_); (try rw [show ((3 : Int)).toNat = 3 from rfl] at hz41_); have HP41 := Kd.R_putg HO110.out (3 : Int) 1) | ((with_reducible refine gate_store (t := 3) (p := 6) rfl ?_); refine store_event (t := 3) (p := 6) (v := ?vo_w42) (w1 := (w39.setCell ⟨go3, (3 : Int).toNat, none⟩ (.int .i64 1))) ?hg ?ho ?hn ?hr ?_; (case ho => rfl); (case hg => rfl); (case hn => rfl); (case hr => first | (go_simp; done) | (go_simp; rfl)); intro w42 hw; have hg : w39.grownBy w42 (some go3) := (by rw [hw]; exact HP41.2); have hp_ : Kd.R (Kd.int .i64) 3 w42 w.heap.size (fun _ => True) (.slice (some ⟨go3, 0, none⟩) y108.length co3) y111 := (by rw [hw, Ny111.out]; exact HP41.1); clear HP41; have n0_ := Aside0.mk (hp_); have n1_ := Aside0.mk ((by rw [hw]; exact below_set (HB.out) GB3.out : Below w.heap.size w w42)); clear HO110; clear HB; have HO110 := n0_; have HB := n1_; clear n0_ n1_; clear hg hw hp_; have p5 : 0 ≤ (5 : Int) := (by omega); have q5 : (5 : Int) < ((y108.length : Int) : Int) := of_decide_eq_true (by first | (with_reducible assumption) | assumption); have qi5 : (5 < y108.length) = True := eq_true (by omega); obtain ⟨hx5_0, hf5_0⟩ := Kd.R_celln 0 HO110.out (5 : Int) p5 q5; (try rw [show ((5 : Int)).toNat = 5 from rfl] at hx5_0); (try simp only [Nat.reduceMul, Nat.zero_mul, Nat.zero_add, Nat.reduceAdd] at hx5_0); (try rw [show ((5 : Int)).toNat = 5 from rfl] at hf5_0); (try simp only [Nat.reduceMul, Nat.zero_mul, Nat.zero_add, Nat.reduceAdd] at hf5_0); replace p5 := eq_true p5; replace q5 := eq_true q5; obtain ⟨hy43_, hz43_⟩ := Kd.R_celln 0 HO110.out (5 : Int) (by omega) (of_decide_eq_true (by first | (with_reducible assumption) | assumption)); (try simp only [Int.reduceToNat, Int.toNat_zero, Int.toNat_ofNat, Nat.reduceMul, Nat.zero_mul, Nat.zero_add] at hy43_ hz43_); (try rw [show ((5 : Int)).toNat = 5 from rfl] at hy43_); (try rw [show ((5 : Int)).toNat = 5 from rfl] at hz43_); have HP43 := Kd.R_putg HO110.out (5 : Int) 2) | ((with_reducible refine gate_store (t := 3) (p := 8) rfl ?_); refine store_event (t := 3) (p := 8) (v := ?vo_w44) (w1 := (w42.setCell ⟨go3, (5 : Int).toNat, none⟩ (.int .i64 2))) ?hg ?ho ?hn ?hr ?_; (case ho => rfl); (case hg => rfl); (case hn => rfl); (case hr => first | (go_simp; done) | (go_simp; rfl)); intro w44 hw; have hg : w42.grownBy w44 (some go3) := (by rw [hw]; exact HP43.2); have hp_ : Kd.R (Kd.int .i64) 3 w44 w.heap.size (fun _ => True) (.slice (some ⟨go3, 0, none⟩) y108.length co3) y112 := (by rw [hw, Ny112.out]; exact HP43.1); clear HP43; have n0_ := Aside0.mk (hp_); have n1_ := Aside0.mk ((by rw [hw]; exact below_set (HB.out) GB3.out : Below w.heap.size w w44)); clear HO110; clear HB; have HO110 := n0_; have HB := n1_; clear n0_ n1_; clear hg hw hp_; have p7 : 0 ≤ (64 : Int) := (by omega); have q7 : (64 : Int) < ((y108.length : Int) : Int) := of_decide_eq_true (by first | (with_reducible assumption) | assumption); have qi7 : (64 < y108.length) = True := eq_true (by omega); obtain ⟨hx7_0, hf7_0⟩ := Kd.R_celln 0 HO110.out (64 : Int) p7 q7; (try rw [show ((64 : Int)).toNat = 64 from rfl] at hx7_0); (try simp only [Nat.reduceMul, Nat.zero_mul, Nat.zero_add, Nat.reduceAdd] at hx7_0); (try rw [show ((64 : Int)).toNat = 64 from rfl] at hf7_0); (try simp only [Nat.reduceMul, Nat.zero_mul, Nat.zero_add, Nat.reduceAdd] at hf7_0); replace p7 := eq_true p7; replace q7 := eq_true q7; obtain ⟨hy45_, hz45_⟩ := Kd.R_celln 0 HO110.out (64 : Int) (by omega) (of_decide_eq_true (by first | (with_reducible assumption) | assumption)); (try simp only [Int.reduceToNat, Int.toNat_zero, Int.toNat_ofNat, Nat.reduceMul, Nat.zero_mul, Nat.zero_add] at hy45_ hz45_); (try rw [show ((64 : Int)).toNat = 64 from rfl] at hy45_); (try rw [show ((64 : Int)).toNat = 64 from rfl] at hz45_); have HP45 := Kd.R_putg HO110.out (64 : Int) 2) | ((with_reducible refine gate_store (t := 3) (p := 10) rfl ?_); refine store_event (t := 3) (p := 10) (v := ?vo_w46) (w1 := (w44.setCell ⟨go3, (64 : Int).toNat, none⟩ (.int .i64 2))) ?hg ?ho ?hn ?hr ?_; (case ho => rfl); (case hg => rfl); (case hn => rfl); (case hr => first | (go_simp; done) | (go_simp; rfl)); intro w46 hw; have hg : w44.grownBy w46 (some go3) := (by rw [hw]; exact HP45.2); have hp_ : Kd.R (Kd.int .i64) 3 w46 w.heap.size (fun _ => True) (.slice (some ⟨go3, 0, none⟩) y108.length co3) y113 := (by rw [hw, Ny113.out]; exact HP45.1); clear HP45; have n0_ := Aside0.mk (hp_); have n1_ := Aside0.mk ((by rw [hw]; exact below_set (HB.out) GB3.out : Below w.heap.size w w46)); clear HO110; clear HB; have HO110 := n0_; have HB := n1_; clear n0_ n1_; clear hg hw hp_) | ((with_reducible refine gate_callee (f := 9) rfl ?_); refine goesL_ (some 13) rfl rfl Try.func9 (by kernel_rfl) rfl #[.slice (some ⟨go3, 0, none⟩) y113.length co3] rfl (by (try simp only [List.map_toArray, List.map_cons, List.map_nil]); first | done | (rw [show y113.length = y108.length from (Kd.R_reads' HO110.out).1.symm] <;> rfl) | rfl | (simp only [List.length_drop, List.length_take]; rfl)) ?_; (with_reducible refine (canon_Codes.calls _ _ y113 t114 t115 _ ?side1 ?side2 A8.out).mono ?_); (case side1 => repeat (first | exact (Kd.R_reads' HO110.out).2.2 | (with_reducible refine Kd.C_alloc ?_ _) | (with_reducible refine Kd.C_drewN ?_ _) | (with_reducible refine Kd.C_drew ?_))); (case side2 => rw [show y113.length = y108.length from (Kd.R_reads' HO110.out).1.symm]; exact (Kd.R_reads' HO110.out).2.1); rintro e w47 ⟨v116, rfl, ho0, hb⟩; refine ⟨_, rfl, ?_⟩; have n0_ := Aside0.mk (Kd.R_below (by (with_reducible repeat (first | apply Kd.R_alloc | apply Kd.R_drewN | apply Kd.R_drew)); exact HO110.out) hb); have n1_ := Aside0.mk (Kd.R_lower ho0 (below_size (by repeat (first | (with_reducible first | exact HB.out | apply below_alloc | apply pw_below_drewN | apply below_drew1) | exact HB.out)))); have n2_ := Aside0.mk (below_step (by repeat (first | (with_reducible first | exact HB.out | apply below_alloc | apply pw_below_drewN | apply below_drew1) | exact HB.out)) hb); clear HO110; clear HB; have HO110 := n0_; have HO117 := n1_; have HB := n2_; clear n0_ n1_ n2_; (try clear hb); (try clear hb2); (try clear hk); (try clear hi); (try clear ho0)) | ((with_reducible refine gate_callee (f := 11) rfl ?_); refine goesL_ (some 17) rfl rfl Try.func11 (by kernel_rfl) rfl #[.slice (some ⟨go3, 0, none⟩) y113.length co3] rfl (by (try simp only [List.map_toArray, List.map_cons, List.map_nil]); first | done | (rw [show y113.length = y108.length from (Kd.R_reads' HO110.out).1.symm] <;> rfl) | rfl | (simp only [List.length_drop, List.length_take]; rfl)) ?_; (with_reducible refine (canon_May.calls k _ _ y113 true _ ?side1 ?side2 A9.out).mono ?_); (case side1 => repeat (first | exact (Kd.R_reads' HO110.out).2.2 | (with_reducible refine Kd.C_alloc ?_ _) | (with_reducible refine Kd.C_drewN ?_ _) | (with_reducible refine Kd.C_drew ?_))); (case side2 => rw [show y113.length = y108.length from (Kd.R_reads' HO110.out).1.symm]; exact (Kd.R_reads' HO110.out).2.1); rintro e w' ⟨rfl, ⟨nd, rfl⟩⟩; refine ⟨_, rfl, ?_⟩) | (go_at_call 14; (with_reducible refine (wringerlaw1_Err.calls t115 t119 _ A11.out).mono ?_); rintro e w' ⟨rfl, ⟨nd, rfl⟩⟩; obtain ⟨Ao48, co48, eo48⟩ := Kd.R_slice HO117.out; subst eo48; have p120 : 0 ≤ (3 : Int) := (by omega); have q120 : 3 < (t114.length : Int) := of_decide_eq_true (by first | (with_reducible assumption) | assumption); obtain ⟨ad120, e120, hx120_0, hx120_1⟩ := at_T40 (Kd.R_reads' HO117.out).2.2 3 p120 q120; cases e120; (try simp only [show (3 : Int).toNat = 3 from rfl, Nat.reduceMul, Nat.reduceEqDiff, Go.Addr.add, ↓reduceIte] at hx120_0); (try simp only [show (3 : Int).toNat = 3 from rfl, Nat.reduceMul, Nat.reduceEqDiff, Go.Addr.add, ↓reduceIte] at hx120_1); have qi120 : (3 < t114.length) = True := eq_true (by omega); (try rw [show ((3 : Int)).toNat = 3 from rfl] at hx120_0); (try rw [show 3 * 2 = 6 from rfl] at hx120_0); (try rw [show ((3 : Int)).toNat = 3 from rfl] at hx120_1); (try rw [show 3 * 2 = 6 from rfl] at hx120_1); replace p120 := eq_true p120; replace q120 := eq_true q120))
                    go_ret
                    exact ⟨by first | rfl | (simp [errW_none, errW_some] <;> rfl) | (simp [*, errW_none, errW_some] <;> rfl), by repeat (first | (with_reducible first | exact HB.out | apply below_alloc | apply pw_below_drewN | apply below_drew1) | exact HB.out)⟩
                · rw [if_neg c14] at H
                  exact absurd H (by simp)
              · rw [if_neg c13] at H
                have c13b0 : ((t114.length : Int) == 65) = false := beq_eq_false_iff_ne.mpr c13
                have c13b1 : ((t114.length : Int) != 65) = true := bne_iff_ne.mpr c13
                obtain rfl := Option.some.inj H
                go_enter Try.func8, Try.ntmps8
                go_wp2_with (first | ((with_reducible refine gate_dst (N := 4) rfl ?_); (try (refine gate_guard (by rfl) ?_; dsimp only)); refine Kd.R_make (Kd.int .i64) _ 3 rfl (N := 4) rfl 22 _ _ rfl 65 rfl rfl Try.underlying22 (.int .i64 0) 8 info3 rfl (by decide) (by omega) 0 (ok := fun _ => True) (okp := fun _ => True) rfl (fun _ hk => hk) trivial (by omega) (by omega) (Below.refl _ _) (Nat.le_refl _) ?_; intro v109 w49 ho50 hb hg_ hnew_; clear hg_ hnew_; (first | rw [← Ny108.out] at ho50 | (simp only [Int.reduceToNat] at ho50; rw [← Ny108.out] at ho50)); have n0_ := Aside0.mk (Kd.R_lower ho50 (below_size (by repeat (first | (with_reducible first | exact HB.out | apply below_alloc | apply pw_below_drewN | apply below_drew1) | exact HB.out)))); have n1_ := Aside0.mk (below_step (by repeat (first | (with_reducible first | exact HB.out | apply below_alloc | apply pw_below_drewN | apply below_drew1) | exact HB.out)) hb); clear HB; have HO110 := n0_; have HB := n1_; clear n0_ n1_; clear hb ho50; have p3 : 0 ≤ (3 : Int) := (by omega); have q3 : (3 : Int) < ((y108.length : Int) : Int) := of_decide_eq_true (by first | (with_reducible assumption) | assumption); have qi3 : (3 < y108.length) = True := eq_true (by omega); obtain ⟨go3, co3, eo3, gb3, gl3, cl3, HG3⟩ := Kd.R_form HO110.out (by omega); (first | cases eo3 | (injection eo3 with ea_ en_ ec_; (first | subst ea_ | (injection ea_ with ea_; subst ea_)); subst ec_; clear en_)); have GB3 := Aside0.mk gb3; have GG3 := Aside0.mk HG3; clear gb3 gl3 HG3; obtain ⟨hx3_0, hf3_0⟩ := Kd.R_celln 0 HO110.out (3 : Int) p3 q3; (try rw [show ((3 : Int)).toNat = 3 from rfl] at hx3_0); (try simp only [Nat.reduceMul, Nat.zero_mul, Nat.zero_add, Nat.reduceAdd] at hx3_0); (try rw [show ((3 : Int)).toNat = 3 from rfl] at hf3_0); (try simp only [Nat.reduceMul, Nat.zero_mul, Nat.zero_add, Nat.reduceAdd] at hf3_0); replace p3 := eq_true p3; replace q3 := eq_true q3; obtain ⟨hy51_, hz51_⟩ := Kd.R_celln 0 HO110.out (3 : Int) (by omega) (of_decide_eq_true (by first | (with_reducible assumption) | assumption)); (try simp only [Int.reduceToNat, Int.toNat_zero, Int.toNat_ofNat, Nat.reduceMul, Nat.zero_mul, Nat.zero_add] at hy51_ hz51_); (try rw [show ((3 : Int)).toNat = 3 from rfl] at hy51_); (try rw [show ((3 : Int)).toNat = 3 from rfl] at hz51_); have HP51 := Kd.R_putg HO110.out (3 : Int) 1) | ((with_reducible refine gate_store (t := 3) (p := 6) rfl ?_); refine store_event (t := 3) (p := 6) (v := ?vo_w52) (w1 := (w49.setCell ⟨go3, (3 : Int).toNat, none⟩ (.int .i64 1))) ?hg ?ho ?hn ?hr ?_; (case ho => rfl); (case hg => rfl); (case hn => rfl); (case hr => first | (go_simp; done) | (go_simp; rfl)); intro w52 hw; have hg : w49.grownBy w52 (some go3) := (by rw [hw]; exact HP51.2); have hp_ : Kd.R (Kd.int .i64) 3 w52 w.heap.size (fun _ => True) (.slice (some ⟨go3, 0, none⟩) y108.length co3) y111 := (by rw [hw, Ny111.out]; exact HP51.1); clear HP51; have n0_ := Aside0.mk (hp_); have n1_ := Aside0.mk ((by rw [hw]; exact below_set (HB.out) GB3.out : Below w.heap.size w w52)); clear HO110; clear HB; have HO110 := n0_; have HB := n1_; clear n0_ n1_; clear hg hw hp_; have p5 : 0 ≤ (5 : Int) := (by omega); have q5 : (5 : Int) < ((y108.length : Int) : Int) := of_decide_eq_true (by first | (with_reducible assumption) | assumption); have qi5 : (5 < y108.length) = True := eq_true (by omega); obtain ⟨hx5_0, hf5_0⟩ := Kd.R_celln 0 HO110.out (5 : Int) p5 q5; (try rw [show ((5 : Int)).toNat = 5 from rfl] at hx5_0); (try simp only [Nat.reduceMul, Nat.zero_mul, Nat.zero_add, Nat.reduceAdd] at hx5_0); (try rw [show ((5 : Int)).toNat = 5 from rfl] at hf5_0); (try simp only [Nat.reduceMul, Nat.zero_mul, Nat.zero_add, Nat.reduceAdd] at hf5_0); replace p5 := eq_true p5; replace q5 := eq_true q5; obtain ⟨hy53_, hz53_⟩ := Kd.R_celln 0 HO110.out (5 : Int) (by omega) (of_decide_eq_true (by first | (with_reducible assumption) | assumption)); (try simp only [Int.reduceToNat, Int.toNat_zero, Int.toNat_ofNat, Nat.reduceMul, Nat.zero_mul, Nat.zero_add] at hy53_ hz53_); (try rw [show ((5 : Int)).toNat = 5 from rfl] at hy53_); (try rw [show ((5 : Int)).toNat = 5 from rfl] at hz53_); have HP53 := Kd.R_putg HO110.out (5 : Int) 2) | ((with_reducible refine gate_store (t := 3) (p := 8) rfl ?_); refine store_event (t := 3) (p := 8) (v := ?vo_w54) (w1 := (w52.setCell ⟨go3, (5 : Int).toNat, none⟩ (.int .i64 2))) ?hg ?ho ?hn ?hr ?_; (case ho => rfl); (case hg => rfl); (case hn => rfl); (case hr => first | (go_simp; done) | (go_simp; rfl)); intro w54 hw; have hg : w52.grownBy w54 (some go3) := (by rw [hw]; exact HP53.2); have hp_ : Kd.R (Kd.int .i64) 3 w54 w.heap.size (fun _ => True) (.slice (some ⟨go3, 0, none⟩) y108.length co3) y112 := (by rw [hw, Ny112.out]; exact HP53.1); clear HP53; have n0_ := Aside0.mk (hp_); have n1_ := Aside0.mk ((by rw [hw]; exact below_set (HB.out) GB3.out : Below w.heap.size w w54)); clear HO110; clear HB; have HO110 := n0_; have HB := n1_; clear n0_ n1_; clear hg hw hp_; have p7 : 0 ≤ (64 : Int) := (by omega); have q7 : (64 : Int) < ((y108.length : Int) : Int) := of_decide_eq_true (by first | (with_reducible assumption) | assumption); have qi7 : (64 < y108.length) = True := eq_true (by omega); obtain ⟨hx7_0, hf7_0⟩ := Kd.R_celln 0 HO110.out (64 : Int) p7 q7; (try rw [show ((64 : Int)).toNat = 64 from rfl] at hx7_0); (try simp only [Nat.reduceMul, Nat.zero_mul, Nat.zero_add, Nat.reduceAdd] at hx7_0); (try rw [show ((64 : Int)).toNat = 64 from rfl] at hf7_0); (try simp only [Nat.reduceMul, Nat.zero_mul, Nat.zero_add, Nat.reduceAdd] at hf7_0); replace p7 := eq_true p7; replace q7 := eq_true q7; obtain ⟨hy55_, hz55_⟩ := Kd.R_celln 0 HO110.out (64 : Int) (by omega) (of_decide_eq_true (by first | (with_reducible assumption) | assumption)); (try simp only [Int.reduceToNat, Int.toNat_zero, Int.toNat_ofNat, Nat.reduceMul, Nat.zero_mul, Nat.zero_add] at hy55_ hz55_); (try rw [show ((64 : Int)).toNat = 64 from rfl] at hy55_); (try rw [show ((64 : Int)).toNat = 64 from rfl] at hz55_); have HP55 := Kd.R_putg HO110.out (64 : Int) 2) | ((with_reducible refine gate_store (t := 3) (p := 10) rfl ?_); refine store_event (t := 3) (p := 10) (v := ?vo_w56) (w1 := (w54.setCell ⟨go3, (64 : Int).toNat, none⟩ (.int .i64 2))) ?hg ?ho ?hn ?hr ?_; (case ho => rfl); (case hg => rfl); (case hn => rfl); (case hr => first | (go_simp; done) | (go_simp; rfl)); intro w56 hw; have hg : w54.grownBy w56 (some go3) := (by rw [hw]; exact HP55.2); have hp_ : Kd.R (Kd.int .i64) 3 w56 w.heap.size (fun _ => True) (.slice (some ⟨go3, 0, none⟩) y108.length co3) y113 := (by rw [hw, Ny113.out]; exact HP55.1); clear HP55; have n0_ := Aside0.mk (hp_); have n1_ := Aside0.mk ((by rw [hw]; exact below_set (HB.out) GB3.out : Below w.heap.size w w56)); clear HO110; clear HB; have HO110 := n0_; have HB := n1_; clear n0_ n1_; clear hg hw hp_) | ((with_reducible refine gate_callee (f := 9) rfl ?_); refine goesL_ (some 13) rfl rfl Try.func9 (by kernel_rfl) rfl #[.slice (some ⟨go3, 0, none⟩) y113.length co3] rfl (by (try simp only [List.map_toArray, List.map_cons, List.map_nil]); first | done | (rw [show y113.length = y108.length from (Kd.R_reads' HO110.out).1.symm] <;> rfl) | rfl | (simp only [List.length_drop, List.length_take]; rfl)) ?_; (with_reducible refine (canon_Codes.calls _ _ y113 t114 t115 _ ?side1 ?side2 A8.out).mono ?_); (case side1 => repeat (first | exact (Kd.R_reads' HO110.out).2.2 | (with_reducible refine Kd.C_alloc ?_ _) | (with_reducible refine Kd.C_drewN ?_ _) | (with_reducible refine Kd.C_drew ?_))); (case side2 => rw [show y113.length = y108.length from (Kd.R_reads' HO110.out).1.symm]; exact (Kd.R_reads' HO110.out).2.1); rintro e w57 ⟨v116, rfl, ho0, hb⟩; refine ⟨_, rfl, ?_⟩; have n0_ := Aside0.mk (Kd.R_below (by (with_reducible repeat (first | apply Kd.R_alloc | apply Kd.R_drewN | apply Kd.R_drew)); exact HO110.out) hb); have n1_ := Aside0.mk (Kd.R_lower ho0 (below_size (by repeat (first | (with_reducible first | exact HB.out | apply below_alloc | apply pw_below_drewN | apply below_drew1) | exact HB.out)))); have n2_ := Aside0.mk (below_step (by repeat (first | (with_reducible first | exact HB.out | apply below_alloc | apply pw_below_drewN | apply below_drew1) | exact HB.out)) hb); clear HO110; clear HB; have HO110 := n0_; have HO117 := n1_; have HB := n2_; clear n0_ n1_ n2_; (try clear hb); (try clear hb2); (try clear hk); (try clear hi); (try clear ho0)) | ((with_reducible refine gate_callee (f := 11) rfl ?_); refine goesL_ (some 17) rfl rfl Try.func11 (by kernel_rfl) rfl #[.slice (some ⟨go3, 0, none⟩) y113.length co3] rfl (by (try simp only [List.map_toArray, List.map_cons, List.map_nil]); first | done | (rw [show y113.length = y108.length from (Kd.R_reads' HO110.out).1.symm] <;> rfl) | rfl | (simp only [List.length_drop, List.length_take]; rfl)) ?_; (with_reducible refine (canon_May.calls k _ _ y113 true _ ?side1 ?side2 A9.out).mono ?_); (case side1 => repeat (first | exact (Kd.R_reads' HO110.out).2.2 | (with_reducible refine Kd.C_alloc ?_ _) | (with_reducible refine Kd.C_drewN ?_ _) | (with_reducible refine Kd.C_drew ?_))); (case side2 => rw [show y113.length = y108.length from (Kd.R_reads' HO110.out).1.symm]; exact (Kd.R_reads' HO110.out).2.1); rintro e w' ⟨rfl, ⟨nd, rfl⟩⟩; refine ⟨_, rfl, ?_⟩) | (go_at_call 14; (with_reducible refine (wringerlaw1_Err.calls t115 t119 _ A11.out).mono ?_); rintro e w' ⟨rfl, ⟨nd, rfl⟩⟩; obtain ⟨Ao58, co58, eo58⟩ := Kd.R_slice HO117.out; subst eo58))
                go_ret
                exact ⟨by first | rfl | (simp [errW_none, errW_some] <;> rfl) | (simp [*, errW_none, errW_some] <;> rfl), by repeat (first | (with_reducible first | exact HB.out | apply below_alloc | apply pw_below_drewN | apply below_drew1) | exact HB.out)⟩
            · rw [if_neg c12] at H
              have c12b0 : (t119 == 0) = false := beq_eq_false_iff_ne.mpr c12
              have c12b1 : (t119 != 0) = true := bne_iff_ne.mpr c12
              obtain rfl := Option.some.inj H
              go_enter Try.func8, Try.ntmps8
              go_wp2_with (first | ((with_reducible refine gate_dst (N := 4) rfl ?_); (try (refine gate_guard (by rfl) ?_; dsimp only)); refine Kd.R_make (Kd.int .i64) _ 3 rfl (N := 4) rfl 22 _ _ rfl 65 rfl rfl Try.underlying22 (.int .i64 0) 8 info3 rfl (by decide) (by omega) 0 (ok := fun _ => True) (okp := fun _ => True) rfl (fun _ hk => hk) trivial (by omega) (by omega) (Below.refl _ _) (Nat.le_refl _) ?_; intro v109 w59 ho60 hb hg_ hnew_; clear hg_ hnew_; (first | rw [← Ny108.out] at ho60 | (simp only [Int.reduceToNat] at ho60; rw [← Ny108.out] at ho60)); have n0_ := Aside0.mk (Kd.R_lower ho60 (below_size (by repeat (first | (with_reducible first | exact HB.out | apply below_alloc | apply pw_below_drewN | apply below_drew1) | exact HB.out)))); have n1_ := Aside0.mk (below_step (by repeat (first | (with_reducible first | exact HB.out | apply below_alloc | apply pw_below_drewN | apply below_drew1) | exact HB.out)) hb); clear HB; have HO110 := n0_; have HB := n1_; clear n0_ n1_; clear hb ho60; have p3 : 0 ≤ (3 : Int) := (by omega); have q3 : (3 : Int) < ((y108.length : Int) : Int) := of_decide_eq_true (by first | (with_reducible assumption) | assumption); have qi3 : (3 < y108.length) = True := eq_true (by omega); obtain ⟨go3, co3, eo3, gb3, gl3, cl3, HG3⟩ := Kd.R_form HO110.out (by omega); (first | cases eo3 | (injection eo3 with ea_ en_ ec_; (first | subst ea_ | (injection ea_ with ea_; subst ea_)); subst ec_; clear en_)); have GB3 := Aside0.mk gb3; have GG3 := Aside0.mk HG3; clear gb3 gl3 HG3; obtain ⟨hx3_0, hf3_0⟩ := Kd.R_celln 0 HO110.out (3 : Int) p3 q3; (try rw [show ((3 : Int)).toNat = 3 from rfl] at hx3_0); (try simp only [Nat.reduceMul, Nat.zero_mul, Nat.zero_add, Nat.reduceAdd] at hx3_0); (try rw [show ((3 : Int)).toNat = 3 from rfl] at hf3_0); (try simp only [Nat.reduceMul, Nat.zero_mul, Nat.zero_add, Nat.reduceAdd] at hf3_0); replace p3 := eq_true p3; replace q3 := eq_true q3; obtain ⟨hy61_, hz61_⟩ := Kd.R_celln 0 HO110.out (3 : Int) (by omega) (of_decide_eq_true (by first | (with_reducible assumption) | assumption)); (try simp only [Int.reduceToNat, Int.toNat_zero, Int.toNat_ofNat, Nat.reduceMul, Nat.zero_mul, Nat.zero_add] at hy61_ hz61_); (try rw [show ((3 : Int)).toNat = 3 from rfl] at hy61_); (try rw [show ((3 : Int)).toNat = 3 from rfl] at hz61_); have HP61 := Kd.R_putg HO110.out (3 : Int) 1) | ((with_reducible refine gate_store (t := 3) (p := 6) rfl ?_); refine store_event (t := 3) (p := 6) (v := ?vo_w62) (w1 := (w59.setCell ⟨go3, (3 : Int).toNat, none⟩ (.int .i64 1))) ?hg ?ho ?hn ?hr ?_; (case ho => rfl); (case hg => rfl); (case hn => rfl); (case hr => first | (go_simp; done) | (go_simp; rfl)); intro w62 hw; have hg : w59.grownBy w62 (some go3) := (by rw [hw]; exact HP61.2); have hp_ : Kd.R (Kd.int .i64) 3 w62 w.heap.size (fun _ => True) (.slice (some ⟨go3, 0, none⟩) y108.length co3) y111 := (by rw [hw, Ny111.out]; exact HP61.1); clear HP61; have n0_ := Aside0.mk (hp_); have n1_ := Aside0.mk ((by rw [hw]; exact below_set (HB.out) GB3.out : Below w.heap.size w w62)); clear HO110; clear HB; have HO110 := n0_; have HB := n1_; clear n0_ n1_; clear hg hw hp_; have p5 : 0 ≤ (5 : Int) := (by omega); have q5 : (5 : Int) < ((y108.length : Int) : Int) := of_decide_eq_true (by first | (with_reducible assumption) | assumption); have qi5 : (5 < y108.length) = True := eq_true (by omega); obtain ⟨hx5_0, hf5_0⟩ := Kd.R_celln 0 HO110.out (5 : Int) p5 q5; (try rw [show ((5 : Int)).toNat = 5 from rfl] at hx5_0); (try simp only [Nat.reduceMul, Nat.zero_mul, Nat.zero_add, Nat.reduceAdd] at hx5_0); (try rw [show ((5 : Int)).toNat = 5 from rfl] at hf5_0); (try simp only [Nat.reduceMul, Nat.zero_mul, Nat.zero_add, Nat.reduceAdd] at hf5_0); replace p5 := eq_true p5; replace q5 := eq_true q5; obtain ⟨hy63_, hz63_⟩ := Kd.R_celln 0 HO110.out (5 : Int) (by omega) (of_decide_eq_true (by first | (with_reducible assumption) | assumption)); (try simp only [Int.reduceToNat, Int.toNat_zero, Int.toNat_ofNat, Nat.reduceMul, Nat.zero_mul, Nat.zero_add] at hy63_ hz63_); (try rw [show ((5 : Int)).toNat = 5 from rfl] at hy63_); (try rw [show ((5 : Int)).toNat = 5 from rfl] at hz63_); have HP63 := Kd.R_putg HO110.out (5 : Int) 2) | ((with_reducible refine gate_store (t := 3) (p := 8) rfl ?_); refine store_event (t := 3) (p := 8) (v := ?vo_w64) (w1 := (w62.setCell ⟨go3, (5 : Int).toNat, none⟩ (.int .i64 2))) ?hg ?ho ?hn ?hr ?_; (case ho => rfl); (case hg => rfl); (case hn => rfl); (case hr => first | (go_simp; done) | (go_simp; rfl)); intro w64 hw; have hg : w62.grownBy w64 (some go3) := (by rw [hw]; exact HP63.2); have hp_ : Kd.R (Kd.int .i64) 3 w64 w.heap.size (fun _ => True) (.slice (some ⟨go3, 0, none⟩) y108.length co3) y112 := (by rw [hw, Ny112.out]; exact HP63.1); clear HP63; have n0_ := Aside0.mk (hp_); have n1_ := Aside0.mk ((by rw [hw]; exact below_set (HB.out) GB3.out : Below w.heap.size w w64)); clear HO110; clear HB; have HO110 := n0_; have HB := n1_; clear n0_ n1_; clear hg hw hp_; have p7 : 0 ≤ (64 : Int) := (by omega); have q7 : (64 : Int) < ((y108.length : Int) : Int) := of_decide_eq_true (by first | (with_reducible assumption) | assumption); have qi7 : (64 < y108.length) = True := eq_true (by omega); obtain ⟨hx7_0, hf7_0⟩ := Kd.R_celln 0 HO110.out (64 : Int) p7 q7; (try rw [show ((64 : Int)).toNat = 64 from rfl] at hx7_0); (try simp only [Nat.reduceMul, Nat.zero_mul, Nat.zero_add, Nat.reduceAdd] at hx7_0); (try rw [show ((64 : Int)).toNat = 64 from rfl] at hf7_0); (try simp only [Nat.reduceMul, Nat.zero_mul, Nat.zero_add, Nat.reduceAdd] at hf7_0); replace p7 := eq_true p7; replace q7 := eq_true q7; obtain ⟨hy65_, hz65_⟩ := Kd.R_celln 0 HO110.out (64 : Int) (by omega) (of_decide_eq_true (by first | (with_reducible assumption) | assumption)); (try simp only [Int.reduceToNat, Int.toNat_zero, Int.toNat_ofNat, Nat.reduceMul, Nat.zero_mul, Nat.zero_add] at hy65_ hz65_); (try rw [show ((64 : Int)).toNat = 64 from rfl] at hy65_); (try rw [show ((64 : Int)).toNat = 64 from rfl] at hz65_); have HP65 := Kd.R_putg HO110.out (64 : Int) 2) | ((with_reducible refine gate_store (t := 3) (p := 10) rfl ?_); refine store_event (t := 3) (p := 10) (v := ?vo_w66) (w1 := (w64.setCell ⟨go3, (64 : Int).toNat, none⟩ (.int .i64 2))) ?hg ?ho ?hn ?hr ?_; (case ho => rfl); (case hg => rfl); (case hn => rfl); (case hr => first | (go_simp; done) | (go_simp; rfl)); intro w66 hw; have hg : w64.grownBy w66 (some go3) := (by rw [hw]; exact HP65.2); have hp_ : Kd.R (Kd.int .i64) 3 w66 w.heap.size (fun _ => True) (.slice (some ⟨go3, 0, none⟩) y108.length co3) y113 := (by rw [hw, Ny113.out]; exact HP65.1); clear HP65; have n0_ := Aside0.mk (hp_); have n1_ := Aside0.mk ((by rw [hw]; exact below_set (HB.out) GB3.out : Below w.heap.size w w66)); clear HO110; clear HB; have HO110 := n0_; have HB := n1_; clear n0_ n1_; clear hg hw hp_) | ((with_reducible refine gate_callee (f := 9) rfl ?_); refine goesL_ (some 13) rfl rfl Try.func9 (by kernel_rfl) rfl #[.slice (some ⟨go3, 0, none⟩) y113.length co3] rfl (by (try simp only [List.map_toArray, List.map_cons, List.map_nil]); first | done | (rw [show y113.length = y108.length from (Kd.R_reads' HO110.out).1.symm] <;> rfl) | rfl | (simp only [List.length_drop, List.length_take]; rfl)) ?_; (with_reducible refine (canon_Codes.calls _ _ y113 t114 t115 _ ?side1 ?side2 A8.out).mono ?_); (case side1 => repeat (first | exact (Kd.R_reads' HO110.out).2.2 | (with_reducible refine Kd.C_alloc ?_ _) | (with_reducible refine Kd.C_drewN ?_ _) | (with_reducible refine Kd.C_drew ?_))); (case side2 => rw [show y113.length = y108.length from (Kd.R_reads' HO110.out).1.symm]; exact (Kd.R_reads' HO110.out).2.1); rintro e w67 ⟨v116, rfl, ho0, hb⟩; refine ⟨_, rfl, ?_⟩; have n0_ := Aside0.mk (Kd.R_below (by (with_reducible repeat (first | apply Kd.R_alloc | apply Kd.R_drewN | apply Kd.R_drew)); exact HO110.out) hb); have n1_ := Aside0.mk (Kd.R_lower ho0 (below_size (by repeat (first | (with_reducible first | exact HB.out | apply below_alloc | apply pw_below_drewN | apply below_drew1) | exact HB.out)))); have n2_ := Aside0.mk (below_step (by repeat (first | (with_reducible first | exact HB.out | apply below_alloc | apply pw_below_drewN | apply below_drew1) | exact HB.out)) hb); clear HO110; clear HB; have HO110 := n0_; have HO117 := n1_; have HB := n2_; clear n0_ n1_ n2_; (try clear hb); (try clear hb2); (try clear hk); (try clear hi); (try clear ho0)) | ((with_reducible refine gate_callee (f := 11) rfl ?_); refine goesL_ (some 17) rfl rfl Try.func11 (by kernel_rfl) rfl #[.slice (some ⟨go3, 0, none⟩) y113.length co3] rfl (by (try simp only [List.map_toArray, List.map_cons, List.map_nil]); first | done | (rw [show y113.length = y108.length from (Kd.R_reads' HO110.out).1.symm] <;> rfl) | rfl | (simp only [List.length_drop, List.length_take]; rfl)) ?_; (with_reducible refine (canon_May.calls k _ _ y113 true _ ?side1 ?side2 A9.out).mono ?_); (case side1 => repeat (first | exact (Kd.R_reads' HO110.out).2.2 | (with_reducible refine Kd.C_alloc ?_ _) | (with_reducible refine Kd.C_drewN ?_ _) | (with_reducible refine Kd.C_drew ?_))); (case side2 => rw [show y113.length = y108.length from (Kd.R_reads' HO110.out).1.symm]; exact (Kd.R_reads' HO110.out).2.1); rintro e w' ⟨rfl, ⟨nd, rfl⟩⟩; refine ⟨_, rfl, ?_⟩) | (go_at_call 14; (with_reducible refine (wringerlaw1_Err.calls t115 t119 _ A11.out).mono ?_); rintro e w' ⟨rfl, ⟨nd, rfl⟩⟩))
              go_ret
              exact ⟨by first | rfl | (simp [errW_none, errW_some] <;> rfl) | (simp [*, errW_none, errW_some] <;> rfl), by repeat (first | (with_reducible first | exact HB.out | apply below_alloc | apply pw_below_drewN | apply below_drew1) | exact HB.out)⟩
          · replace c10 := Bool.eq_false_iff.mpr c10
            subst c10
            have H1 : (some false) = some r := by rw [if_neg (show ¬ (false = true) by decide)] at H; exact H
            clear H
            have H := H1
            clear H1
            obtain rfl := Option.some.inj H
            go_enter Try.func8, Try.ntmps8
            go_wp2_with (first | ((with_reducible refine gate_dst (N := 4) rfl ?_); (try (refine gate_guard (by rfl) ?_; dsimp only)); refine Kd.R_make (Kd.int .i64) _ 3 rfl (N := 4) rfl 22 _ _ rfl 65 rfl rfl Try.underlying22 (.int .i64 0) 8 info3 rfl (by decide) (by omega) 0 (ok := fun _ => True) (okp := fun _ => True) rfl (fun _ hk => hk) trivial (by omega) (by omega) (Below.refl _ _) (Nat.le_refl _) ?_; intro v109 w68 ho69 hb hg_ hnew_; clear hg_ hnew_; (first | rw [← Ny108.out] at ho69 | (simp only [Int.reduceToNat] at ho69; rw [← Ny108.out] at ho69)); have n0_ := Aside0.mk (Kd.R_lower ho69 (below_size (by repeat (first | (with_reducible first | exact HB.out | apply below_alloc | apply pw_below_drewN | apply below_drew1) | exact HB.out)))); have n1_ := Aside0.mk (below_step (by repeat (first | (with_reducible first | exact HB.out | apply below_alloc | apply pw_below_drewN | apply below_drew1) | exact HB.out)) hb); clear HB; have HO110 := n0_; have HB := n1_; clear n0_ n1_; clear hb ho69; have p3 : 0 ≤ (3 : Int) := (by omega); have q3 : (3 : Int) < ((y108.length : Int) : Int) := of_decide_eq_true (by first | (with_reducible assumption) | assumption); have qi3 : (3 < y108.length) = True := eq_true (by omega); obtain ⟨go3, co3, eo3, gb3, gl3, cl3, HG3⟩ := Kd.R_form HO110.out (by omega); (first | cases eo3 | (injection eo3 with ea_ en_ ec_; (first | subst ea_ | (injection ea_ with ea_; subst ea_)); subst ec_; clear en_)); have GB3 := Aside0.mk gb3; have GG3 := Aside0.mk HG3; clear gb3 gl3 HG3; obtain ⟨hx3_0, hf3_0⟩ := Kd.R_celln 0 HO110.out (3 : Int) p3 q3; (try rw [show ((3 : Int)).toNat = 3 from rfl] at hx3_0); (try simp only [Nat.reduceMul, Nat.zero_mul, Nat.zero_add, Nat.reduceAdd] at hx3_0); (try rw [show ((3 : Int)).toNat = 3 from rfl] at hf3_0); (try simp only [Nat.reduceMul, Nat.zero_mul, Nat.zero_add, Nat.reduceAdd] at hf3_0); replace p3 := eq_true p3; replace q3 := eq_true q3; obtain ⟨hy70_, hz70_⟩ := Kd.R_celln 0 HO110.out (3 : Int) (by omega) (of_decide_eq_true (by first | (with_reducible assumption) | assumption)); (try simp only [Int.reduceToNat, Int.toNat_zero, Int.toNat_ofNat, Nat.reduceMul, Nat.zero_mul, Nat.zero_add] at hy70_ hz70_); (try rw [show ((3 : Int)).toNat = 3 from rfl] at hy70_); (try rw [show ((3 : Int)).toNat = 3 from rfl] at hz70_); have HP70 := Kd.R_putg HO110.out (3 : Int) 1) | ((with_reducible refine gate_store (t := 3) (p := 6) rfl ?_); refine store_event (t := 3) (p := 6) (v := ?vo_w71) (w1 := (w68.setCell ⟨go3, (3 : Int).toNat, none⟩ (.int .i64 1))) ?hg ?ho ?hn ?hr ?_; (case ho => rfl); (case hg => rfl); (case hn => rfl); (case hr => first | (go_simp; done) | (go_simp; rfl)); intro w71 hw; have hg : w68.grownBy w71 (some go3) := (by rw [hw]; exact HP70.2); have hp_ : Kd.R (Kd.int .i64) 3 w71 w.heap.size (fun _ => True) (.slice (some ⟨go3, 0, none⟩) y108.length co3) y111 := (by rw [hw, Ny111.out]; exact HP70.1); clear HP70; have n0_ := Aside0.mk (hp_); have n1_ := Aside0.mk ((by rw [hw]; exact below_set (HB.out) GB3.out : Below w.heap.size w w71)); clear HO110; clear HB; have HO110 := n0_; have HB := n1_; clear n0_ n1_; clear hg hw hp_; have p5 : 0 ≤ (5 : Int) := (by omega); have q5 : (5 : Int) < ((y108.length : Int) : Int) := of_decide_eq_true (by first | (with_reducible assumption) | assumption); have qi5 : (5 < y108.length) = True := eq_true (by omega); obtain ⟨hx5_0, hf5_0⟩ := Kd.R_celln 0 HO110.out (5 : Int) p5 q5; (try rw [show ((5 : Int)).toNat = 5 from rfl] at hx5_0); (try simp only [Nat.reduceMul, Nat.zero_mul, Nat.zero_add, Nat.reduceAdd] at hx5_0); (try rw [show ((5 : Int)).toNat = 5 from rfl] at hf5_0); (try simp only [Nat.reduceMul, Nat.zero_mul, Nat.zero_add, Nat.reduceAdd] at hf5_0); replace p5 := eq_true p5; replace q5 := eq_true q5; obtain ⟨hy72_, hz72_⟩ := Kd.R_celln 0 HO110.out (5 : Int) (by omega) (of_decide_eq_true (by first | (with_reducible assumption) | assumption)); (try simp only [Int.reduceToNat, Int.toNat_zero, Int.toNat_ofNat, Nat.reduceMul, Nat.zero_mul, Nat.zero_add] at hy72_ hz72_); (try rw [show ((5 : Int)).toNat = 5 from rfl] at hy72_); (try rw [show ((5 : Int)).toNat = 5 from rfl] at hz72_); have HP72 := Kd.R_putg HO110.out (5 : Int) 2) | ((with_reducible refine gate_store (t := 3) (p := 8) rfl ?_); refine store_event (t := 3) (p := 8) (v := ?vo_w73) (w1 := (w71.setCell ⟨go3, (5 : Int).toNat, none⟩ (.int .i64 2))) ?hg ?ho ?hn ?hr ?_; (case ho => rfl); (case hg => rfl); (case hn => rfl); (case hr => first | (go_simp; done) | (go_simp; rfl)); intro w73 hw; have hg : w71.grownBy w73 (some go3) := (by rw [hw]; exact HP72.2); have hp_ : Kd.R (Kd.int .i64) 3 w73 w.heap.size (fun _ => True) (.slice (some ⟨go3, 0, none⟩) y108.length co3) y112 := (by rw [hw, Ny112.out]; exact HP72.1); clear HP72; have n0_ := Aside0.mk (hp_); have n1_ := Aside0.mk ((by rw [hw]; exact below_set (HB.out) GB3.out : Below w.heap.size w w73)); clear HO110; clear HB; have HO110 := n0_; have HB := n1_; clear n0_ n1_; clear hg hw hp_; have p7 : 0 ≤ (64 : Int) := (by omega); have q7 : (64 : Int) < ((y108.length : Int) : Int) := of_decide_eq_true (by first | (with_reducible assumption) | assumption); have qi7 : (64 < y108.length) = True := eq_true (by omega); obtain ⟨hx7_0, hf7_0⟩ := Kd.R_celln 0 HO110.out (64 : Int) p7 q7; (try rw [show ((64 : Int)).toNat = 64 from rfl] at hx7_0); (try simp only [Nat.reduceMul, Nat.zero_mul, Nat.zero_add, Nat.reduceAdd] at hx7_0); (try rw [show ((64 : Int)).toNat = 64 from rfl] at hf7_0); (try simp only [Nat.reduceMul, Nat.zero_mul, Nat.zero_add, Nat.reduceAdd] at hf7_0); replace p7 := eq_true p7; replace q7 := eq_true q7; obtain ⟨hy74_, hz74_⟩ := Kd.R_celln 0 HO110.out (64 : Int) (by omega) (of_decide_eq_true (by first | (with_reducible assumption) | assumption)); (try simp only [Int.reduceToNat, Int.toNat_zero, Int.toNat_ofNat, Nat.reduceMul, Nat.zero_mul, Nat.zero_add] at hy74_ hz74_); (try rw [show ((64 : Int)).toNat = 64 from rfl] at hy74_); (try rw [show ((64 : Int)).toNat = 64 from rfl] at hz74_); have HP74 := Kd.R_putg HO110.out (64 : Int) 2) | ((with_reducible refine gate_store (t := 3) (p := 10) rfl ?_); refine store_event (t := 3) (p := 10) (v := ?vo_w75) (w1 := (w73.setCell ⟨go3, (64 : Int).toNat, none⟩ (.int .i64 2))) ?hg ?ho ?hn ?hr ?_; (case ho => rfl); (case hg => rfl); (case hn => rfl); (case hr => first | (go_simp; done) | (go_simp; rfl)); intro w75 hw; have hg : w73.grownBy w75 (some go3) := (by rw [hw]; exact HP74.2); have hp_ : Kd.R (Kd.int .i64) 3 w75 w.heap.size (fun _ => True) (.slice (some ⟨go3, 0, none⟩) y108.length co3) y113 := (by rw [hw, Ny113.out]; exact HP74.1); clear HP74; have n0_ := Aside0.mk (hp_); have n1_ := Aside0.mk ((by rw [hw]; exact below_set (HB.out) GB3.out : Below w.heap.size w w75)); clear HO110; clear HB; have HO110 := n0_; have HB := n1_; clear n0_ n1_; clear hg hw hp_) | ((with_reducible refine gate_callee (f := 9) rfl ?_); refine goesL_ (some 13) rfl rfl Try.func9 (by kernel_rfl) rfl #[.slice (some ⟨go3, 0, none⟩) y113.length co3] rfl (by (try simp only [List.map_toArray, List.map_cons, List.map_nil]); first | done | (rw [show y113.length = y108.length from (Kd.R_reads' HO110.out).1.symm] <;> rfl) | rfl | (simp only [List.length_drop, List.length_take]; rfl)) ?_; (with_reducible refine (canon_Codes.calls _ _ y113 t114 t115 _ ?side1 ?side2 A8.out).mono ?_); (case side1 => repeat (first | exact (Kd.R_reads' HO110.out).2.2 | (with_reducible refine Kd.C_alloc ?_ _) | (with_reducible refine Kd.C_drewN ?_ _) | (with_reducible refine Kd.C_drew ?_))); (case side2 => rw [show y113.length = y108.length from (Kd.R_reads' HO110.out).1.symm]; exact (Kd.R_reads' HO110.out).2.1); rintro e w76 ⟨v116, rfl, ho0, hb⟩; refine ⟨_, rfl, ?_⟩; have n0_ := Aside0.mk (Kd.R_below (by (with_reducible repeat (first | apply Kd.R_alloc | apply Kd.R_drewN | apply Kd.R_drew)); exact HO110.out) hb); have n1_ := Aside0.mk (Kd.R_lower ho0 (below_size (by repeat (first | (with_reducible first | exact HB.out | apply below_alloc | apply pw_below_drewN | apply below_drew1) | exact HB.out)))); have n2_ := Aside0.mk (below_step (by repeat (first | (with_reducible first | exact HB.out | apply below_alloc | apply pw_below_drewN | apply below_drew1) | exact HB.out)) hb); clear HO110; clear HB; have HO110 := n0_; have HO117 := n1_; have HB := n2_; clear n0_ n1_ n2_; (try clear hb); (try clear hb2); (try clear hk); (try clear hi); (try clear ho0)) | ((with_reducible refine gate_callee (f := 11) rfl ?_); refine goesL_ (some 17) rfl rfl Try.func11 (by kernel_rfl) rfl #[.slice (some ⟨go3, 0, none⟩) y113.length co3] rfl (by (try simp only [List.map_toArray, List.map_cons, List.map_nil]); first | done | (rw [show y113.length = y108.length from (Kd.R_reads' HO110.out).1.symm] <;> rfl) | rfl | (simp only [List.length_drop, List.length_take]; rfl)) ?_; (with_reducible refine (canon_May.calls k _ _ y113 false _ ?side1 ?side2 A9.out).mono ?_); (case side1 => repeat (first | exact (Kd.R_reads' HO110.out).2.2 | (with_reducible refine Kd.C_alloc ?_ _) | (with_reducible refine Kd.C_drewN ?_ _) | (with_reducible refine Kd.C_drew ?_))); (case side2 => rw [show y113.length = y108.length from (Kd.R_reads' HO110.out).1.symm]; exact (Kd.R_reads' HO110.out).2.1); rintro e w' ⟨rfl, ⟨nd, rfl⟩⟩; refine ⟨_, rfl, ?_⟩))
            go_ret
            exact ⟨by first | rfl | (simp [errW_none, errW_some] <;> rfl) | (simp [*, errW_none, errW_some] <;> rfl), by repeat (first | (with_reducible first | exact HB.out | apply below_alloc | apply pw_below_drewN | apply below_drew1) | exact HB.out)⟩
        · rw [if_neg c6] at H
          exact absurd H (by simp)
      · rw [if_neg c4] at H
        exact absurd H (by simp)
    · rw [if_neg c2] at H
      exact absurd H (by simp)
  · rw [if_neg c1] at H
    exact absurd H (by simp)

end Go.Proofs.Ytkdmamffbhlbgaa.PA

-- ---- PAx12

namespace Go.Proofs.Ytkdmamffbhlbgaa.PA
open Go.RowKit Go.Proofs.YtkdmamffbhlbgaaW.PrintWords Go.Proofs.YtkdmamffbhlbgaaW.PrintLast Go.Proofs.YtkdmamffbhlbgaaW.PrintMore
attribute [local go_sem] max2_int min2_int max_two min_two max_three min_three max_four min_four   -- for this text's walks alone
set_option linter.unusedVariables false
set_option linter.unusedSimpArgs false

/-! ### wringerref7_Canon: function 10 -/
mutual
def wringerref7_Canon.l0 : Nat → List Int → List (S40) → Int → Int → Int → Option ((List (S40)) × Int)
  | 0, _, _, _, _, _ => none
  | k + 1, x0, x3, x4, x5, x6 => if x6 ≤ 15 then (wringerref7_Canon.l1 k x0 x3 x4 x5 x6 0) else (some (x3, 0))
def wringerref7_Canon.l1 : Nat → List Int → List (S40) → Int → Int → Int → Int → Option ((List (S40)) × Int)
  | 0, _, _, _, _, _, _ => none
  | k + 1, x0, x3, x4, x5, x6, x7 => if x7 < (x0.length : Int) then (if 0 ≤ x7 then (if (rd x0 x7) = x6 then (if x5 > 0 then (if 0 ≤ (wrap64 (x6 - x5)) then (if x7 < (x3.length : Int) then (wringerref7_Canon.l1 k x0 (x3.set (x7 : Int).toNat (⟨shl .i64 (wrap64 (x4 + 1)) (wrap64 (x6 - x5)), x6⟩ : S40)) (shl .i64 (wrap64 (x4 + 1)) (wrap64 (x6 - x5))) x6 x6 (wrap64 (x7 + 1))) else (none)) else (none)) else (if x7 < (x3.length : Int) then (wringerref7_Canon.l1 k x0 (x3.set (x7 : Int).toNat (⟨x4, x6⟩ : S40)) x4 x6 x6 (wrap64 (x7 + 1))) else (none))) else (wringerref7_Canon.l1 k x0 x3 x4 x5 x6 (wrap64 (x7 + 1)))) else (none)) else (wringerref7_Canon.l0 k x0 x3 x4 x5 (wrap64 (x6 + 1)))
end
def wringerref7_Canon.f (k : Nat) (l0 : List Int) : Option ((List (S40)) × Int) := (wringerref7_MayLens.f k l0).bind fun t128 => (if t128 = true then (if 65 ≤ 17592186044416 then (wringerref7_Canon.l0 k l0 (List.replicate 65 z40) 0 0 1) else (none)) else (some (([] : List (S40)), 3)))
theorem wringerref7_Canon.mono_l : ∀ k, (∀ y0 y1 y2 y3 y4, LeO (wringerref7_Canon.l0 k y0 y1 y2 y3 y4) (wringerref7_Canon.l0 (k + 1) y0 y1 y2 y3 y4)) ∧ (∀ y0 y1 y2 y3 y4 y5, LeO (wringerref7_Canon.l1 k y0 y1 y2 y3 y4 y5) (wringerref7_Canon.l1 (k + 1) y0 y1 y2 y3 y4 y5))
  | 0 => ⟨fun _ _ _ _ _ r h => by simp [wringerref7_Canon.l0] at h, fun _ _ _ _ _ _ r h => by simp [wringerref7_Canon.l1] at h⟩
  | k + 1 => by
    obtain ⟨ih0, ih1⟩ := wringerref7_Canon.mono_l k
    refine ⟨?_, ?_⟩
    · intro y0 y1 y2 y3 y4
      unfold wringerref7_Canon.l0
      repeat' first
      | (with_reducible exact ih0 _ _ _ _ _)
      | (with_reducible exact ih1 _ _ _ _ _ _)
      | (with_reducible exact wringerref7_MayLens.mono _ _)
      | (with_reducible exact LeO.refl _)
      | (with_reducible exact LeO.none _)
      | (with_reducible refine LeO.ite ?_ ?_)
      | (with_reducible refine LeO.bind ?_ (fun _ => ?_))
      | exact ih0 _ _ _ _ _
      | exact ih1 _ _ _ _ _ _
      | exact wringerref7_MayLens.mono _ _
      | exact LeO.none _
      | refine LeO.ite ?_ ?_
      | refine LeO.bind ?_ (fun _ => ?_)
    · intro y0 y1 y2 y3 y4 y5
      unfold wringerref7_Canon.l1
      repeat' first
      | (with_reducible exact ih0 _ _ _ _ _)
      | (with_reducible exact ih1 _ _ _ _ _ _)
      | (with_reducible exact wringerref7_MayLens.mono _ _)
      | (with_reducible exact LeO.refl _)
      | (with_reducible exact LeO.none _)
      | (with_reducible refine LeO.ite ?_ ?_)
      | (with_reducible refine LeO.bind ?_ (fun _ => ?_))
      | exact ih0 _ _ _ _ _
      | exact ih1 _ _ _ _ _ _
      | exact wringerref7_MayLens.mono _ _
      | exact LeO.none _
      | refine LeO.ite ?_ ?_
      | refine LeO.bind ?_ (fun _ => ?_)
theorem wringerref7_Canon.mono : ∀ a0 k, LeO (wringerref7_Canon.f k a0) (wringerref7_Canon.f (k + 1) a0) := by
  intro a0 k
  obtain ⟨ih0, ih1⟩ := wringerref7_Canon.mono_l k
  unfold wringerref7_Canon.f
  repeat' first
      | (with_reducible exact ih0 _ _ _ _ _)
      | (with_reducible exact ih1 _ _ _ _ _ _)
      | (with_reducible exact wringerref7_MayLens.mono _ _)
      | (with_reducible exact LeO.refl _)
      | (with_reducible exact LeO.none _)
      | (with_reducible refine LeO.ite ?_ ?_)
      | (with_reducible refine LeO.bind ?_ (fun _ => ?_))
      | exact ih0 _ _ _ _ _
      | exact ih1 _ _ _ _ _ _
      | exact wringerref7_MayLens.mono _ _
      | exact LeO.none _
      | refine LeO.ite ?_ ?_
      | refine LeO.bind ?_ (fun _ => ?_)
set_option maxHeartbeats 8000000 in
set_option maxRecDepth 100000 in
theorem wringerref7_Canon.calls (k : Nat) (A0 : Option Addr) (c0 : Nat) (l0 : List Int) (r1 : List (S40)) (r2 : Int) (w : World) (hr0 : Kd.C (Kd.int .i64) w A0 l0.length l0) (hc0 : l0.length ≤ c0) (h : wringerref7_Canon.f k l0 = some (r1, r2)) :
    Calls Try.prog 10 #[.slice A0 l0.length c0] w fun e w' => ∃ v0_ : Value, e = .returned (.agg #[v0_, .int .i64 r2]) ∧ Kd.R k40 40 w' w.heap.size (fun _ => True) v0_ r1 ∧ Below w.heap.size w w' := by
  have hu29 := Try.underlying29
  have hu40 := Try.underlying40
  have HR0 := Aside0.mk hr0
  have HC0 := Aside0.mk hc0
  clear hr0 hc0
  have HB := Aside0.mk (Below.refl w.heap.size w)
  have H : ((wringerref7_MayLens.f k l0).bind fun t128 => (if t128 = true then (if 65 ≤ 17592186044416 then (wringerref7_Canon.l0 k l0 (List.replicate 65 z40) 0 0 1) else (none)) else (some (([] : List (S40)), 3)))) = some (r1, r2) := h
  clear h
  replace H := Option.bind_eq_some_iff.mp H
  obtain ⟨t128, A20, H⟩ := H
  replace H : (if t128 = true then (if 65 ≤ 17592186044416 then (wringerref7_Canon.l0 k l0 (List.replicate 65 z40) 0 0 1) else (none)) else (some (([] : List (S40)), 3))) = some (r1, r2) := H
  have A2 := Aside0.mk A20
  clear A20
  by_cases c3 : t128 = true
  · subst c3
    have H1 : (if 65 ≤ 17592186044416 then (wringerref7_Canon.l0 k l0 (List.replicate 65 z40) 0 0 1) else (none)) = some (r1, r2) := by rw [if_pos rfl] at H; exact H
    clear H
    have H := H1
    clear H1
    by_cases c4 : 65 ≤ 17592186044416
    · rw [if_pos c4] at H
      have c4b0 := eq_true c4
      have c4b1 : decide (65 ≤ 17592186044416) = true := decide_eq_true c4
      clear c4
      obtain ⟨y129, hy129⟩ : ∃ y_ : List (S40), y_ = (List.replicate 65 z40) := ⟨_, rfl⟩
      replace H : (wringerref7_Canon.l0 k l0 y129 0 0 1) = some (r1, r2) := by first | (rw [hy129]; with_reducible exact H) | (have H2_ := (Option.bind_some _ _).symm.trans H; rw [hy129]; with_reducible exact H2_) | (have H2_ := (Option.bind_some _ _).symm.trans H; with_reducible exact H2_) | with_reducible exact H | (rw [hy129]; exact H) | exact H
      have Ny129 := Aside0.mk hy129
      clear hy129
      have H' := Aside0.mk H
      clear H
      go_enter Try.func10, Try.ntmps10
      go_wp2_with (first | ((with_reducible refine gate_dst (N := 2) rfl ?_); refine box_event ?hg (N := 2) ?hd (cs := #[.slice none 0 0, .int .i64 0]) (t := 29) ?hr ?_; (case hd => rfl); (case hg => rfl); (case hr => first | (go_simp; done) | (go_simp; rfl)); intro gb127 hg w5 hbox hb; have n0_ := Aside0.mk (below_step (by repeat (first | (with_reducible first | exact HB.out | apply below_alloc | apply pw_below_drewN | apply below_drew1) | exact HB.out)) hb); have n1_ := Aside0.mk (hbox); have n2_ := Aside0.mk ((by rw [hg]; exact (below_size (by repeat (first | (with_reducible first | exact HB.out | apply below_alloc | apply pw_below_drewN | apply below_drew1) | exact HB.out))) : w.heap.size ≤ gb127)); have n3_ := Aside0.mk ((by rw [hg]; exact (below_size (by repeat (first | (with_reducible first | exact HB.out | apply below_alloc | apply pw_below_drewN | apply below_drew1) | exact HB.out))) : w.heap.size ≤ gb127)); clear HB; have HB := n0_; have BK127 := n1_; have GW127 := n2_; have GE127 := n3_; clear n0_ n1_ n2_ n3_; clear hb hbox hg) | ((with_reducible refine gate_callee (f := 12) rfl ?_); refine goesL_ (some 9) rfl rfl Try.func12 (by kernel_rfl) rfl #[.slice A0 l0.length c0] rfl (by (try simp only [List.map_toArray, List.map_cons, List.map_nil]); first | done | rfl | (simp only [List.length_drop, List.length_take]; rfl)) ?_; (with_reducible refine (wringerref7_MayLens.calls k _ _ l0 true _ ?side1 ?side2 A2.out).mono ?_); (case side1 => repeat (first | exact (Kd.C_below HR0.out HB.out) | (with_reducible refine Kd.C_alloc ?_ _) | (with_reducible refine Kd.C_drewN ?_ _) | (with_reducible refine Kd.C_drew ?_))); (case side2 => exact HC0.out); rintro e w' ⟨rfl, ⟨nd, rfl⟩⟩; refine ⟨_, rfl, ?_⟩) | ((with_reducible refine gate_dst (N := 12) rfl ?_); refine Kd.R_make k40 _ 40 rfl (N := 12) rfl 24 _ _ rfl 65 rfl rfl Try.underlying24 (.agg #[(.int .i64 0), (.int .i64 0)]) 16 info40 rfl (by decide) (by omega) z40 (ok := fun _ => True) (okp := fun _ => True) (k40_mkM _ _ _ z40 ) (fun _ hk => hk) trivial (by omega) (by omega) (Below.refl _ _) (Nat.le_refl _) ?_; intro v130 w6 ho7 hb hg_ hnew_; clear hg_ hnew_; (first | rw [← Ny129.out] at ho7 | (simp only [Int.reduceToNat] at ho7; rw [← Ny129.out] at ho7)); have n0_ := Aside0.mk (Kd.R_lower ho7 (below_size (by repeat (first | (with_reducible first | exact HB.out | apply below_alloc | apply pw_below_drewN | apply below_drew1 | refine below_set ?_ GE127.out) | exact HB.out)))); have n1_ := Aside0.mk (blk_below (g := gb127) (o := .cells #[.slice none 0 0, .int .i64 0] 29 (0, 0)) (by (with_reducible repeat (first | refine blk_drewN ?_ _ | refine blk_drew ?_ | refine blk_alloc ?_ _)); exact BK127.out) hb); have n2_ := Aside0.mk (below_step (by repeat (first | (with_reducible first | exact HB.out | apply below_alloc | apply pw_below_drewN | apply below_drew1 | refine below_set ?_ GE127.out) | exact HB.out)) hb); clear BK127; clear HB; have HO131 := n0_; have BK127 := n1_; have HB := n2_; clear n0_ n1_ n2_; clear hb ho7))
      go_loopg [4, 5, 6] k (fun kq v4 v5 v6 w' => ∃ (x3_1 : List (S40)) (x4_1 : Int) (x5_1 : Int) (x6_1 : Int), v4 = .int .i64 x4_1 ∧ v5 = .int .i64 x5_1 ∧ v6 = .int .i64 x6_1 ∧ Aside0 (wringerref7_Canon.l0 kq l0 x3_1 x4_1 x5_1 x6_1 = some (r1, r2)) ∧ Aside0 (kq ≤ k) ∧ Aside0 (Kd.R k40 40 w' w.heap.size (fun _ => True) v130 x3_1) ∧ Aside0 (w'.heap[gb127]? = some (.cells #[(.slice none 0 0), .int .i64 0] 29 (0, 0))) ∧ Aside0 (Below w.heap.size w w'))
      case atStart => exact ⟨(y129), (0), (0), (1), (by first | rfl | (simp; done) | (simp [*]; done)), (by first | rfl | (simp; done) | (simp [*]; done)), (by first | rfl | (simp; done) | (simp [*]; done)), H', ⟨Nat.le_refl _⟩, ⟨by (with_reducible repeat (first | apply Kd.R_alloc | apply Kd.R_drewN | apply Kd.R_drew)); exact HO131.out⟩, ⟨by (with_reducible repeat (first | refine blk_drewN ?_ _ | refine blk_drew ?_ | refine blk_alloc ?_ _)); exact BK127.out⟩, ⟨by repeat (first | (with_reducible first | exact HB.out | apply below_alloc | apply pw_below_drewN | apply below_drew1 | refine below_set ?_ GE127.out) | exact HB.out)⟩⟩
      case round =>
        clear H'
        try clear c1
        try clear p2
        try clear c3
        try clear c4
        try clear c4b0
        try clear c4b1
        obtain ⟨x3_1, x4_1, x5_1, x6_1, rfl, rfl, rfl, HA, HK1, HO_3, BK127, HB⟩ := hrel
        cases gk with
        | zero => exact absurd HA.out (by simp [wringerref7_Canon.l0])
        | succ k1 =>
          have H := HA.out
          clear HA
          simp only [wringerref7_Canon.l0] at H
          by_cases c8 : x6_1 ≤ 15
          · rw [if_pos c8] at H
            have c8b0 : decide (x6_1 ≤ 15) = true := decide_eq_true c8
            clear c8
            have H' := Aside0.mk H
            clear H
            go_wp2
            go_loopg [4, 5, 7] k1 (fun kq v4 v5 v7 w' => ∃ (x3_2 : List (S40)) (x4_2 : Int) (x5_2 : Int) (x7_2 : Int), v4 = .int .i64 x4_2 ∧ v5 = .int .i64 x5_2 ∧ v7 = .int .i64 x7_2 ∧ Aside0 (wringerref7_Canon.l1 kq l0 x3_2 x4_2 x5_2 x6_1 x7_2 = some (r1, r2)) ∧ Aside0 (kq ≤ k1) ∧ Aside0 (Kd.R k40 40 w' w.heap.size (fun _ => True) v130 x3_2) ∧ Aside0 (w'.heap[gb127]? = some (.cells #[(.slice none 0 0), .int .i64 0] 29 (0, 0))) ∧ Aside0 (Below w.heap.size w w'))
            case atStart => exact ⟨(x3_1), (x4_1), (x5_1), (0), (by first | rfl | (simp; done) | (simp [*]; done)), (by first | rfl | (simp; done) | (simp [*]; done)), (by first | rfl | (simp; done) | (simp [*]; done)), H', ⟨Nat.le_refl _⟩, ⟨by (with_reducible repeat (first | apply Kd.R_alloc | apply Kd.R_drewN | apply Kd.R_drew)); exact HO_3.out⟩, ⟨by (with_reducible repeat (first | refine blk_drewN ?_ _ | refine blk_drew ?_ | refine blk_alloc ?_ _)); exact BK127.out⟩, ⟨by repeat (first | (with_reducible first | exact HB.out | apply below_alloc | apply pw_below_drewN | apply below_drew1 | refine below_set ?_ GE127.out) | exact HB.out)⟩⟩
            case round =>
              clear H'
              try clear c1
              try clear p2
              try clear c3
              try clear c4
              try clear c4b0
              try clear c4b1
              try clear c8
              try clear c8b0
              try clear p2
              obtain ⟨x3_2, x4_2, x5_2, x7_2, rfl, rfl, rfl, HA, HK2, HO_3, BK127, HB⟩ := hrel
              cases gk with
              | zero => exact absurd HA.out (by simp [wringerref7_Canon.l1])
              | succ k2 =>
                have H := HA.out
                clear HA
                simp only [wringerref7_Canon.l1] at H
                by_cases c9 : x7_2 < (l0.length : Int)
                · rw [if_pos c9] at H
                  have c9b0 : decide (x7_2 < (l0.length : Int)) = true := decide_eq_true c9
                  clear c9
                  by_cases c10 : 0 ≤ x7_2
                  · rw [if_pos c10] at H
                    have c10b0 : decide (0 ≤ x7_2) = true := decide_eq_true c10
                    clear c10
                    by_cases c11 : (rd l0 x7_2) = x6_1
                    · rw [if_pos c11] at H
                      have c11b0 : ((rd l0 x7_2) == x6_1) = true := beq_iff_eq.mpr c11
                      have c11b1 : ((rd l0 x7_2) != x6_1) = false := bne_eq_false_iff_eq.mpr c11
                      clear c11
                      by_cases c12 : x5_2 > 0
                      · rw [if_pos c12] at H
                        have c12b0 : decide (0 < x5_2) = true := decide_eq_true c12
                        clear c12
                        obtain ⟨ji13, hji13⟩ : ∃ j_ : Int, (wrap64 (x6_1 - x5_2)) = j_ := ⟨_, rfl⟩
                        replace H : (if 0 ≤ (ji13) then (if x7_2 < (x3_2.length : Int) then (wringerref7_Canon.l1 k2 l0 (x3_2.set (x7_2 : Int).toNat (⟨shl .i64 (wrap64 (x4_2 + 1)) (ji13), x6_1⟩ : S40)) (shl .i64 (wrap64 (x4_2 + 1)) (ji13)) x6_1 x6_1 (wrap64 (x7_2 + 1))) else (none)) else (none)) = some (r1, r2) := by first | (rw [hji13] at H; exact H) | (simp only [hji13] at H ⊢; exact H)
                        have hji13w : (IntKind.i64.wrap (x6_1 - x5_2)) = ji13 := (i64_w _).trans hji13
                        by_cases c14 : 0 ≤ (ji13)
                        · rw [if_pos c14] at H
                          have c14b0 := eq_true c14
                          have c14b1 : decide (0 ≤ (ji13)) = true := decide_eq_true c14
                          clear c14
                          obtain ⟨ji15, hji15⟩ : ∃ j_ : Int, (shl .i64 (wrap64 (x4_2 + 1)) (ji13)) = j_ := ⟨_, rfl⟩
                          replace H : (if x7_2 < (x3_2.length : Int) then (wringerref7_Canon.l1 k2 l0 (x3_2.set (x7_2 : Int).toNat (⟨ji15, x6_1⟩ : S40)) ji15 x6_1 x6_1 (wrap64 (x7_2 + 1))) else (none)) = some (r1, r2) := by first | (rw [hji15] at H; exact H) | (simp only [hji15] at H ⊢; exact H)
                          have hji15_ : (IntKind.i64.wrap ((wrap64 (x4_2 + 1)) * 2 ^ min (ji13).toNat 64)) = ji15 := hji15
                          have hji15z : (ji13) ≤ 64 → (IntKind.i64.wrap ((wrap64 (x4_2 + 1)) * 2 ^ (ji13).toNat)) = ji15 := shl_small hji15
                          have hji15y : (wrap64 ((wrap64 (x4_2 + 1)) * 2 ^ min (ji13).toNat 64)) = ji15 := (i64_w _).symm.trans hji15_
                          have hji15x : (ji13) ≤ 64 → (wrap64 ((wrap64 (x4_2 + 1)) * 2 ^ (ji13).toNat)) = ji15 := fun h_ => (i64_w _).symm.trans (hji15z h_)
                          by_cases c16 : x7_2 < (x3_2.length : Int)
                          · rw [if_pos c16] at H
                            have c16b0 : decide (x7_2 < (x3_2.length : Int)) = true := decide_eq_true c16
                            clear c16
                            obtain ⟨y133, hy133⟩ : ∃ y_ : List (S40), y_ = (x3_2.set (x7_2 : Int).toNat (⟨ji15, x6_1⟩ : S40)) := ⟨_, rfl⟩
                            replace H : (wringerref7_Canon.l1 k2 l0 y133 ji15 x6_1 x6_1 (wrap64 (x7_2 + 1))) = some (r1, r2) := by first | (rw [hy133]; with_reducible exact H) | (have H2_ := (Option.bind_some _ _).symm.trans H; rw [hy133]; with_reducible exact H2_) | (have H2_ := (Option.bind_some _ _).symm.trans H; with_reducible exact H2_) | with_reducible exact H | (rw [hy133]; exact H) | exact H
                            have Ny133 := Aside0.mk hy133
                            clear hy133
                            have H' := Aside0.mk H
                            clear H
                            have p132 : 0 ≤ (x7_2 : Int) := of_decide_eq_true (by first | (with_reducible assumption) | assumption)
                            have q132 : x7_2 < (l0.length : Int) := of_decide_eq_true (by first | (with_reducible assumption) | assumption)
                            obtain ⟨ad132, e132, hx132_0⟩ := Kd.at_int HR0.out x7_2 p132 q132
                            cases e132
                            replace hx132_0 := (HB.out.cell (World.block_lt_of_cell? w _ hx132_0)).trans hx132_0
                            replace p132 := eq_true p132
                            replace q132 := eq_true q132
                            have p17 : 0 ≤ (x7_2 : Int) := of_decide_eq_true (by first | (with_reducible assumption) | assumption)
                            have q17 : (x7_2 : Int) < ((x3_2.length : Int) : Int) := of_decide_eq_true (by first | (with_reducible assumption) | assumption)
                            obtain ⟨go17, co17, eo17, gb17, gl17, cl17, HG17⟩ := Kd.R_form HO_3.out (by omega)
                            (first | cases eo17 | (injection eo17 with ea_ en_ ec_; (first | subst ea_ | (injection ea_ with ea_; subst ea_)); subst ec_; clear en_))
                            have GB17 := Aside0.mk gb17
                            have GG17 := Aside0.mk HG17
                            clear gb17 gl17 HG17
                            obtain ⟨ce17, hcl17, hM17, hcc17, hfr17⟩ := Kd.R_elem HO_3.out z40 (x7_2 : Int) p17 q17
                            obtain rfl := k40_openM hM17
                            have hx17_0 : wr.cell? ⟨go17, (x7_2 : Int).toNat * 2, none⟩ = some (.int .i64 ((rd_T40 x3_2 x7_2).f0)) := hcc17 0 _ rfl
                            have hx17_1 : wr.cell? ⟨go17, (x7_2 : Int).toNat * 2 + 1, none⟩ = some (.int .i64 ((rd_T40 x3_2 x7_2).f1)) := hcc17 1 _ rfl
                            have hf17_0 : wr.frozen? ⟨go17, (x7_2 : Int).toNat * 2, none⟩ = false := hfr17 0
                            have hf17_1 : wr.frozen? ⟨go17, (x7_2 : Int).toNat * 2 + 1, none⟩ = false := hfr17 1
                            clear hcl17 hcc17 hfr17 hM17
                            replace p17 := eq_true p17
                            replace q17 := eq_true q17
                            have HX18 := Aside0.mk (show Kd.R k40 40 wr w.heap.size (fun _ => True) (.slice (some ⟨go17, 0, none⟩) x3_2.length co17) x3_2 from (by (with_reducible repeat (first | apply Kd.R_alloc | apply Kd.R_drewN | apply Kd.R_drew)); exact HO_3.out))
                            obtain ⟨ce18, hcl18, hM18, hcc18, hfr18⟩ := Kd.R_elem HX18.out z40 (x7_2 : Int) (of_decide_eq_true (by first | (with_reducible assumption) | assumption)) (by have h_ : (x7_2 : Int) < ((x3_2.length : Int) : Int) := of_decide_eq_true (by first | (with_reducible assumption) | assumption); first | exact h_ | (have e_ := (Kd.R_reads' HO_3.out).1; omega) | simpa using h_)
                            obtain rfl := k40_openM hM18
                            have HP18 := Kd.R_seg HX18.out (x7_2 : Int) (of_decide_eq_true (by first | (with_reducible assumption) | assumption)) (by have h_ : (x7_2 : Int) < ((x3_2.length : Int) : Int) := of_decide_eq_true (by first | (with_reducible assumption) | assumption); first | exact h_ | (have e_ := (Kd.R_reads' HO_3.out).1; omega) | simpa using h_) (seg := [.int .i64 ji15, .int .i64 x6_1]) (j := 0) hcl18 hcc18 (show 2 ≤ 2 from by decide) (x' := (⟨ji15, x6_1⟩ : S40)) (k40_mkM _ _ _ (⟨ji15, x6_1⟩ : S40) ) (fun _ hk => hk)
                            have hx18_0 := hcc18 0 _ rfl
                            (try simp only [show (k40).sz = 2 from rfl, Nat.mul_one, Nat.add_zero] at hx18_0)
                            have hf18_0 := hfr18 0
                            (try simp only [show (k40).sz = 2 from rfl, Nat.mul_one, Nat.add_zero] at hf18_0)
                            have hx18_1 := hcc18 1 _ rfl
                            (try simp only [show (k40).sz = 2 from rfl, Nat.mul_one, Nat.add_zero] at hx18_1)
                            have hf18_1 := hfr18 1
                            (try simp only [show (k40).sz = 2 from rfl, Nat.mul_one, Nat.add_zero] at hf18_1)
                            clear hcl18 hcc18 hfr18 hM18
                            go_wp2_with (first | ((with_reducible refine gate_store (t := 40) (p := 43) rfl ?_); refine store_event (t := 40) (p := 43) (v := ?vo_w19) (w1 := ((wr.setCell ⟨go17, (x7_2 : Int).toNat * 2, none⟩ (.int .i64 ji15)).setCell ⟨go17, (x7_2 : Int).toNat * 2 + 1, none⟩ (.int .i64 x6_1))) ?hg ?ho ?hn ?hr ?_; (case ho => rfl); (case hg => rfl); (case hn => rfl); (case hr => first | (go_simp; done) | (go_simp; rfl)); intro w19 hw; have hg : wr.grownBy w19 (some go17) := (by rw [hw]; exact HP18.2); have hp_ : Kd.R k40 40 w19 w.heap.size (fun _ => True) (.slice (some ⟨go17, 0, none⟩) x3_2.length co17) y133 := (by rw [hw, Ny133.out]; exact HP18.1); clear HP18; have n0_ := Aside0.mk (hp_); have n1_ := Aside0.mk (blk_grown (g := gb127) (o := .cells #[.slice none 0 0, .int .i64 0] 29 (0, 0)) (by (with_reducible repeat (first | refine blk_drewN ?_ _ | refine blk_drew ?_ | refine blk_alloc ?_ _)); exact BK127.out) hg (Kd.R_ne HO_3.out BK127.out (by decide))); have n2_ := Aside0.mk ((by rw [hw]; exact below_set (below_set (HB.out) GB17.out) GB17.out : Below w.heap.size w w19)); clear HO_3; clear BK127; clear HB; have HO_3 := n0_; have BK127 := n1_; have HB := n2_; clear n0_ n1_ n2_; clear hg hw hp_))
                            go_roundg k2
                            case measure => have := HK1.out; have := HK2.out; omega
                            case rel => exact ⟨(y133), (ji15), (x6_1), (wrap64 (x7_2 + 1)), (by first | rfl | (simp; done) | (simp only [← hji15] <;> (first | rfl | simp)) | (simp [*]; done)), (by first | rfl | (simp; done) | (simp [*]; done)), (by first | rfl | (simp; done) | (simp [*]; done)), H', ⟨by have := HK1.out; have := HK2.out; omega⟩, ⟨by (with_reducible repeat (first | apply Kd.R_alloc | apply Kd.R_drewN | apply Kd.R_drew)); exact HO_3.out⟩, ⟨by (with_reducible repeat (first | refine blk_drewN ?_ _ | refine blk_drew ?_ | refine blk_alloc ?_ _)); exact BK127.out⟩, ⟨by repeat (first | (with_reducible first | exact HB.out | apply below_alloc | apply pw_below_drewN | apply below_drew1 | refine below_set ?_ GE127.out) | exact HB.out)⟩⟩
                          · rw [if_neg c16] at H
                            exact absurd H (by simp)
                        · rw [if_neg c14] at H
                          exact absurd H (by simp)
                      · rw [if_neg c12] at H
                        have c12b0 : decide (0 < x5_2) = false := decide_eq_false c12
                        clear c12
                        by_cases c20 : x7_2 < (x3_2.length : Int)
                        · rw [if_pos c20] at H
                          have c20b0 : decide (x7_2 < (x3_2.length : Int)) = true := decide_eq_true c20
                          clear c20
                          obtain ⟨y134, hy134⟩ : ∃ y_ : List (S40), y_ = (x3_2.set (x7_2 : Int).toNat (⟨x4_2, x6_1⟩ : S40)) := ⟨_, rfl⟩
                          replace H : (wringerref7_Canon.l1 k2 l0 y134 x4_2 x6_1 x6_1 (wrap64 (x7_2 + 1))) = some (r1, r2) := by first | (rw [hy134]; with_reducible exact H) | (have H2_ := (Option.bind_some _ _).symm.trans H; rw [hy134]; with_reducible exact H2_) | (have H2_ := (Option.bind_some _ _).symm.trans H; with_reducible exact H2_) | with_reducible exact H | (rw [hy134]; exact H) | exact H
                          have Ny134 := Aside0.mk hy134
                          clear hy134
                          have H' := Aside0.mk H
                          clear H
                          have p132 : 0 ≤ (x7_2 : Int) := of_decide_eq_true (by first | (with_reducible assumption) | assumption)
                          have q132 : x7_2 < (l0.length : Int) := of_decide_eq_true (by first | (with_reducible assumption) | assumption)
                          obtain ⟨ad132, e132, hx132_0⟩ := Kd.at_int HR0.out x7_2 p132 q132
                          cases e132
                          replace hx132_0 := (HB.out.cell (World.block_lt_of_cell? w _ hx132_0)).trans hx132_0
                          replace p132 := eq_true p132
                          replace q132 := eq_true q132
                          have p21 : 0 ≤ (x7_2 : Int) := of_decide_eq_true (by first | (with_reducible assumption) | assumption)
                          have q21 : (x7_2 : Int) < ((x3_2.length : Int) : Int) := of_decide_eq_true (by first | (with_reducible assumption) | assumption)
                          obtain ⟨go21, co21, eo21, gb21, gl21, cl21, HG21⟩ := Kd.R_form HO_3.out (by omega)
                          (first | cases eo21 | (injection eo21 with ea_ en_ ec_; (first | subst ea_ | (injection ea_ with ea_; subst ea_)); subst ec_; clear en_))
                          have GB21 := Aside0.mk gb21
                          have GG21 := Aside0.mk HG21
                          clear gb21 gl21 HG21
                          obtain ⟨ce21, hcl21, hM21, hcc21, hfr21⟩ := Kd.R_elem HO_3.out z40 (x7_2 : Int) p21 q21
                          obtain rfl := k40_openM hM21
                          have hx21_0 : wr.cell? ⟨go21, (x7_2 : Int).toNat * 2, none⟩ = some (.int .i64 ((rd_T40 x3_2 x7_2).f0)) := hcc21 0 _ rfl
                          have hx21_1 : wr.cell? ⟨go21, (x7_2 : Int).toNat * 2 + 1, none⟩ = some (.int .i64 ((rd_T40 x3_2 x7_2).f1)) := hcc21 1 _ rfl
                          have hf21_0 : wr.frozen? ⟨go21, (x7_2 : Int).toNat * 2, none⟩ = false := hfr21 0
                          have hf21_1 : wr.frozen? ⟨go21, (x7_2 : Int).toNat * 2 + 1, none⟩ = false := hfr21 1
                          clear hcl21 hcc21 hfr21 hM21
                          replace p21 := eq_true p21
                          replace q21 := eq_true q21
                          have HX22 := Aside0.mk (show Kd.R k40 40 wr w.heap.size (fun _ => True) (.slice (some ⟨go21, 0, none⟩) x3_2.length co21) x3_2 from (by (with_reducible repeat (first | apply Kd.R_alloc | apply Kd.R_drewN | apply Kd.R_drew)); exact HO_3.out))
                          obtain ⟨ce22, hcl22, hM22, hcc22, hfr22⟩ := Kd.R_elem HX22.out z40 (x7_2 : Int) (of_decide_eq_true (by first | (with_reducible assumption) | assumption)) (by have h_ : (x7_2 : Int) < ((x3_2.length : Int) : Int) := of_decide_eq_true (by first | (with_reducible assumption) | assumption); first | exact h_ | (have e_ := (Kd.R_reads' HO_3.out).1; omega) | simpa using h_)
                          obtain rfl := k40_openM hM22
                          have HP22 := Kd.R_seg HX22.out (x7_2 : Int) (of_decide_eq_true (by first | (with_reducible assumption) | assumption)) (by have h_ : (x7_2 : Int) < ((x3_2.length : Int) : Int) := of_decide_eq_true (by first | (with_reducible assumption) | assumption); first | exact h_ | (have e_ := (Kd.R_reads' HO_3.out).1; omega) | simpa using h_) (seg := [.int .i64 x4_2, .int .i64 x6_1]) (j := 0) hcl22 hcc22 (show 2 ≤ 2 from by decide) (x' := (⟨x4_2, x6_1⟩ : S40)) (k40_mkM _ _ _ (⟨x4_2, x6_1⟩ : S40) ) (fun _ hk => hk)
                          have hx22_0 := hcc22 0 _ rfl
                          (try simp only [show (k40).sz = 2 from rfl, Nat.mul_one, Nat.add_zero] at hx22_0)
                          have hf22_0 := hfr22 0
                          (try simp only [show (k40).sz = 2 from rfl, Nat.mul_one, Nat.add_zero] at hf22_0)
                          have hx22_1 := hcc22 1 _ rfl
                          (try simp only [show (k40).sz = 2 from rfl, Nat.mul_one, Nat.add_zero] at hx22_1)
                          have hf22_1 := hfr22 1
                          (try simp only [show (k40).sz = 2 from rfl, Nat.mul_one, Nat.add_zero] at hf22_1)
                          clear hcl22 hcc22 hfr22 hM22
                          go_wp2_with (first | ((with_reducible refine gate_store (t := 40) (p := 43) rfl ?_); refine store_event (t := 40) (p := 43) (v := ?vo_w23) (w1 := ((wr.setCell ⟨go21, (x7_2 : Int).toNat * 2, none⟩ (.int .i64 x4_2)).setCell ⟨go21, (x7_2 : Int).toNat * 2 + 1, none⟩ (.int .i64 x6_1))) ?hg ?ho ?hn ?hr ?_; (case ho => rfl); (case hg => rfl); (case hn => rfl); (case hr => first | (go_simp; done) | (go_simp; rfl)); intro w23 hw; have hg : wr.grownBy w23 (some go21) := (by rw [hw]; exact HP22.2); have hp_ : Kd.R k40 40 w23 w.heap.size (fun _ => True) (.slice (some ⟨go21, 0, none⟩) x3_2.length co21) y134 := (by rw [hw, Ny134.out]; exact HP22.1); clear HP22; have n0_ := Aside0.mk (hp_); have n1_ := Aside0.mk (blk_grown (g := gb127) (o := .cells #[.slice none 0 0, .int .i64 0] 29 (0, 0)) (by (with_reducible repeat (first | refine blk_drewN ?_ _ | refine blk_drew ?_ | refine blk_alloc ?_ _)); exact BK127.out) hg (Kd.R_ne HO_3.out BK127.out (by decide))); have n2_ := Aside0.mk ((by rw [hw]; exact below_set (below_set (HB.out) GB21.out) GB21.out : Below w.heap.size w w23)); clear HO_3; clear BK127; clear HB; have HO_3 := n0_; have BK127 := n1_; have HB := n2_; clear n0_ n1_ n2_; clear hg hw hp_))
                          go_roundg k2
                          case measure => have := HK1.out; have := HK2.out; omega
                          case rel => exact ⟨(y134), (x4_2), (x6_1), (wrap64 (x7_2 + 1)), (by first | rfl | (simp; done) | (simp [*]; done)), (by first | rfl | (simp; done) | (simp [*]; done)), (by first | rfl | (simp; done) | (simp [*]; done)), H', ⟨by have := HK1.out; have := HK2.out; omega⟩, ⟨by (with_reducible repeat (first | apply Kd.R_alloc | apply Kd.R_drewN | apply Kd.R_drew)); exact HO_3.out⟩, ⟨by (with_reducible repeat (first | refine blk_drewN ?_ _ | refine blk_drew ?_ | refine blk_alloc ?_ _)); exact BK127.out⟩, ⟨by repeat (first | (with_reducible first | exact HB.out | apply below_alloc | apply pw_below_drewN | apply below_drew1 | refine below_set ?_ GE127.out) | exact HB.out)⟩⟩
                        · rw [if_neg c20] at H
                          exact absurd H (by simp)
                    · rw [if_neg c11] at H
                      have c11b0 : ((rd l0 x7_2) == x6_1) = false := beq_eq_false_iff_ne.mpr c11
                      have c11b1 : ((rd l0 x7_2) != x6_1) = true := bne_iff_ne.mpr c11
                      have H' := Aside0.mk H
                      clear H
                      have p132 : 0 ≤ (x7_2 : Int) := of_decide_eq_true (by first | (with_reducible assumption) | assumption)
                      have q132 : x7_2 < (l0.length : Int) := of_decide_eq_true (by first | (with_reducible assumption) | assumption)
                      obtain ⟨ad132, e132, hx132_0⟩ := Kd.at_int HR0.out x7_2 p132 q132
                      cases e132
                      replace hx132_0 := (HB.out.cell (World.block_lt_of_cell? w _ hx132_0)).trans hx132_0
                      replace p132 := eq_true p132
                      replace q132 := eq_true q132
                      go_wp2
                      go_roundg k2
                      case measure => have := HK1.out; have := HK2.out; omega
                      case rel => exact ⟨(x3_2), (x4_2), (x5_2), (wrap64 (x7_2 + 1)), (by first | rfl | (simp; done) | (simp [*]; done)), (by first | rfl | (simp; done) | (simp [*]; done)), (by first | rfl | (simp; done) | (simp [*]; done)), H', ⟨by have := HK1.out; have := HK2.out; omega⟩, ⟨by (with_reducible repeat (first | apply Kd.R_alloc | apply Kd.R_drewN | apply Kd.R_drew)); exact HO_3.out⟩, ⟨by (with_reducible repeat (first | refine blk_drewN ?_ _ | refine blk_drew ?_ | refine blk_alloc ?_ _)); exact BK127.out⟩, ⟨by repeat (first | (with_reducible first | exact HB.out | apply below_alloc | apply pw_below_drewN | apply below_drew1 | refine below_set ?_ GE127.out) | exact HB.out)⟩⟩
                  · rw [if_neg c10] at H
                    exact absurd H (by simp)
                · rw [if_neg c9] at H
                  have c9b0 : decide (x7_2 < (l0.length : Int)) = false := decide_eq_false c9
                  clear c9
                  have H' := Aside0.mk H
                  clear H
                  go_wp2
                  go_roundg k2
                  case measure => have := HK1.out; have := HK2.out; omega
                  case rel => exact ⟨(x3_2), (x4_2), (x5_2), (wrap64 (x6_1 + 1)), (by first | rfl | (simp; done) | (simp [*]; done)), (by first | rfl | (simp; done) | (simp [*]; done)), (by first | rfl | (simp; done) | (simp [*]; done)), H', ⟨by have := HK1.out; have := HK2.out; omega⟩, ⟨by (with_reducible repeat (first | apply Kd.R_alloc | apply Kd.R_drewN | apply Kd.R_drew)); exact HO_3.out⟩, ⟨by (with_reducible repeat (first | refine blk_drewN ?_ _ | refine blk_drew ?_ | refine blk_alloc ?_ _)); exact BK127.out⟩, ⟨by repeat (first | (with_reducible first | exact HB.out | apply below_alloc | apply pw_below_drewN | apply below_drew1 | refine below_set ?_ GE127.out) | exact HB.out)⟩⟩
          · rw [if_neg c8] at H
            have c8b0 : decide (x6_1 ≤ 15) = false := decide_eq_false c8
            clear c8
            simp only [Option.some.injEq, Prod.mk.injEq] at H
            obtain ⟨rfl, rfl⟩ := H
            obtain ⟨Ao24, co24, eo24⟩ := Kd.R_slice HO_3.out
            subst eo24
            have hcz25_0 : wr.cell? ⟨gb127, 0, none⟩ = some (.slice none 0 0) := (blk_cell BK127.out 0).trans rfl
            have hcz25_1 : wr.cell? ⟨gb127, 1, none⟩ = some (.int .i64 0) := (blk_cell BK127.out 1).trans rfl
            have hfz25_0 := blk_frozen BK127.out 0
            have hfz25_1 := blk_frozen BK127.out 1
            go_wp2
            refine bodyPost_ret (results_cell_row rfl _ _ gb127 29 #[.slice Ao24 x3_1.length co24, .int .i64 0] (0, 0) _ rfl (by (with_reducible repeat (first | refine blk_drewN ?_ _ | refine blk_drew ?_ | refine blk_alloc ?_ _)); refine blk_put (cs := #[.slice Ao24 x3_1.length co24, .int .i64 0]) ?_ 1 _ rfl; (with_reducible repeat (first | refine blk_drewN ?_ _ | refine blk_drew ?_ | refine blk_alloc ?_ _)); refine blk_put (cs := #[.slice none 0 0, .int .i64 0]) ?_ 0 _ rfl; (with_reducible repeat (first | refine blk_drewN ?_ _ | refine blk_drew ?_ | refine blk_alloc ?_ _)); exact BK127.out) Try.underlying29 rfl (by kernel_rfl)) rfl ?_
            exact ⟨_, by first | rfl | (simp [errW_none, errW_some] <;> rfl) | (simp [*, errW_none, errW_some] <;> rfl), by (with_reducible repeat (first | apply Kd.R_alloc | apply Kd.R_drewN | apply Kd.R_drew)); exact Kd.R_mono (Kd.R_far (p := ⟨gb127, 1, none⟩) (Kd.R_far (p := ⟨gb127, 0, none⟩) (Kd.R_types HO_3.out BK127.out (by decide)) (fun _ hk => hk.2) (.slice Ao24 x3_1.length co24)) (fun _ hk => hk.2) (.int .i64 0)) (fun _ hk => trivial), by repeat (first | (with_reducible first | exact HB.out | apply below_alloc | apply pw_below_drewN | apply below_drew1 | refine below_set ?_ GE127.out) | exact HB.out)⟩
    · rw [if_neg c4] at H
      exact absurd H (by simp)
  · replace c3 := Bool.eq_false_iff.mpr c3
    subst c3
    have H1 : (some (([] : List (S40)), 3)) = some (r1, r2) := by rw [if_neg (show ¬ (false = true) by decide)] at H; exact H
    clear H
    have H := H1
    clear H1
    simp only [Option.some.injEq, Prod.mk.injEq] at H
    obtain ⟨rfl, rfl⟩ := H
    go_enter Try.func10, Try.ntmps10
    go_wp2_with (first | ((with_reducible refine gate_dst (N := 2) rfl ?_); refine box_event ?hg (N := 2) ?hd (cs := #[.slice none 0 0, .int .i64 0]) (t := 29) ?hr ?_; (case hd => rfl); (case hg => rfl); (case hr => first | (go_simp; done) | (go_simp; rfl)); intro gb127 hg w26 hbox hb; have n0_ := Aside0.mk (below_step (by repeat (first | (with_reducible first | exact HB.out | apply below_alloc | apply pw_below_drewN | apply below_drew1) | exact HB.out)) hb); have n1_ := Aside0.mk (hbox); have n2_ := Aside0.mk ((by rw [hg]; exact (below_size (by repeat (first | (with_reducible first | exact HB.out | apply below_alloc | apply pw_below_drewN | apply below_drew1) | exact HB.out))) : w.heap.size ≤ gb127)); have n3_ := Aside0.mk ((by rw [hg]; exact (below_size (by repeat (first | (with_reducible first | exact HB.out | apply below_alloc | apply pw_below_drewN | apply below_drew1) | exact HB.out))) : w.heap.size ≤ gb127)); clear HB; have HB := n0_; have BK127 := n1_; have GW127 := n2_; have GE127 := n3_; clear n0_ n1_ n2_ n3_; clear hb hbox hg) | ((with_reducible refine gate_callee (f := 12) rfl ?_); refine goesL_ (some 9) rfl rfl Try.func12 (by kernel_rfl) rfl #[.slice A0 l0.length c0] rfl (by (try simp only [List.map_toArray, List.map_cons, List.map_nil]); first | done | rfl | (simp only [List.length_drop, List.length_take]; rfl)) ?_; (with_reducible refine (wringerref7_MayLens.calls k _ _ l0 false _ ?side1 ?side2 A2.out).mono ?_); (case side1 => repeat (first | exact (Kd.C_below HR0.out HB.out) | (with_reducible refine Kd.C_alloc ?_ _) | (with_reducible refine Kd.C_drewN ?_ _) | (with_reducible refine Kd.C_drew ?_))); (case side2 => exact HC0.out); rintro e w' ⟨rfl, ⟨nd, rfl⟩⟩; refine ⟨_, rfl, ?_⟩; (try (rw [drewN_self w26]; generalize hq_ : World.drewN w26 _ = w26; have n0_ : Aside0 (w26.heap[gb127]? = some (.cells #[.slice none 0 0, .int .i64 0] 29 (0, 0))) := ⟨by rw [← hq_]; exact (by (with_reducible repeat (first | refine blk_drewN ?_ _ | refine blk_drew ?_ | refine blk_alloc ?_ _)); exact BK127.out)⟩; have n1_ : Aside0 (Below w.heap.size w w26) := ⟨by rw [← hq_]; exact (by repeat (first | (with_reducible first | exact HB.out | apply below_alloc | apply pw_below_drewN | apply below_drew1 | refine below_set ?_ GE127.out) | exact HB.out))⟩; clear BK127 HB hq_; have BK127 := n0_; have HB := n1_; clear n0_ n1_)); have hcz27_0 : w26.cell? ⟨gb127, 0, none⟩ = some (.slice none 0 0) := (blk_cell BK127.out 0).trans rfl; have hcz27_1 : w26.cell? ⟨gb127, 1, none⟩ = some (.int .i64 0) := (blk_cell BK127.out 1).trans rfl; have hfz27_0 := blk_frozen BK127.out 0; have hfz27_1 := blk_frozen BK127.out 1))
    refine bodyPost_ret (results_cell_row rfl _ _ gb127 29 #[.slice none 0 0, .int .i64 3] (0, 0) _ rfl (by (with_reducible repeat (first | refine blk_drewN ?_ _ | refine blk_drew ?_ | refine blk_alloc ?_ _)); refine blk_put (cs := #[.slice none 0 0, .int .i64 0]) ?_ 1 _ rfl; (with_reducible repeat (first | refine blk_drewN ?_ _ | refine blk_drew ?_ | refine blk_alloc ?_ _)); refine blk_put (cs := #[.slice none 0 0, .int .i64 0]) ?_ 0 _ rfl; (with_reducible repeat (first | refine blk_drewN ?_ _ | refine blk_drew ?_ | refine blk_alloc ?_ _)); exact BK127.out) Try.underlying29 rfl (by kernel_rfl)) rfl ?_
    exact ⟨_, by first | rfl | (simp [errW_none, errW_some] <;> rfl) | (simp [*, errW_none, errW_some] <;> rfl), by first | exact Kd.R_nil _ _ _ _ _ | exact Kd.N_nil _ _ _ _ _ | exact Kd.V_nil _ _ _ _ _ | exact Kd.Q_nil _ _ _ _ _ | exact Kd.S_nil _ _ _ _ _, by repeat (first | (with_reducible first | exact HB.out | apply below_alloc | apply pw_below_drewN | apply below_drew1 | refine below_set ?_ GE127.out) | exact HB.out)⟩

end Go.Proofs.Ytkdmamffbhlbgaa.PA

-- ---- PAx13

namespace Go.Proofs.Ytkdmamffbhlbgaa.PA
open Go.RowKit Go.Proofs.YtkdmamffbhlbgaaW.PrintWords Go.Proofs.YtkdmamffbhlbgaaW.PrintLast Go.Proofs.YtkdmamffbhlbgaaW.PrintMore
attribute [local go_sem] max2_int min2_int max_two min_two max_three min_three max_four min_four   -- for this text's walks alone
set_option linter.unusedVariables false
set_option linter.unusedSimpArgs false

attribute [local go_sem high] eqA40
/-! ### wringerref7_SameCodes: function 13 -/
def wringerref7_SameCodes.l0 : Nat → List (S40) → List (S40) → Int → Option (Bool)
  | 0, _, _, _ => none
  | k + 1, x0, x1, x5 => if x5 < (x0.length : Int) then (if 0 ≤ x5 then (if x5 < (x1.length : Int) then (if (!(((rd_T40 x0 x5).f0) == ((rd_T40 x1 x5).f0)) || (!(((rd_T40 x0 x5).f1) == ((rd_T40 x1 x5).f1)))) = true then (some false) else (wringerref7_SameCodes.l0 k x0 x1 (wrap64 (x5 + 1)))) else (none)) else (none)) else (some true)
def wringerref7_SameCodes.f (k : Nat) (l0 : List (S40)) (l1 : List (S40)) : Option (Bool) := if (l0.length : Int) = (l1.length : Int) then (wringerref7_SameCodes.l0 k l0 l1 0) else (some false)
theorem wringerref7_SameCodes.mono_l : ∀ k, (∀ y0 y1 y2, LeO (wringerref7_SameCodes.l0 k y0 y1 y2) (wringerref7_SameCodes.l0 (k + 1) y0 y1 y2))
  | 0 => fun _ _ _ r h => by simp [wringerref7_SameCodes.l0] at h
  | k + 1 => by
    have ih0 := wringerref7_SameCodes.mono_l k
    · intro y0 y1 y2
      unfold wringerref7_SameCodes.l0
      repeat' first
      | (with_reducible exact ih0 _ _ _)
      | (with_reducible exact LeO.refl _)
      | (with_reducible exact LeO.none _)
      | (with_reducible refine LeO.ite ?_ ?_)
      | (with_reducible refine LeO.bind ?_ (fun _ => ?_))
      | exact ih0 _ _ _
      | exact LeO.none _
      | refine LeO.ite ?_ ?_
      | refine LeO.bind ?_ (fun _ => ?_)
theorem wringerref7_SameCodes.mono : ∀ a0 a1 k, LeO (wringerref7_SameCodes.f k a0 a1) (wringerref7_SameCodes.f (k + 1) a0 a1) := by
  intro a0 a1 k
  have ih0 := wringerref7_SameCodes.mono_l k
  unfold wringerref7_SameCodes.f
  repeat' first
      | (with_reducible exact ih0 _ _ _)
      | (with_reducible exact LeO.refl _)
      | (with_reducible exact LeO.none _)
      | (with_reducible refine LeO.ite ?_ ?_)
      | (with_reducible refine LeO.bind ?_ (fun _ => ?_))
      | exact ih0 _ _ _
      | exact LeO.none _
      | refine LeO.ite ?_ ?_
      | refine LeO.bind ?_ (fun _ => ?_)
set_option maxHeartbeats 8000000 in
set_option maxRecDepth 100000 in
theorem wringerref7_SameCodes.calls (k : Nat) (A0 : Option Addr) (c0 : Nat) (l0 : List (S40)) (A1 : Option Addr) (c1 : Nat) (l1 : List (S40)) (r : Bool) (w : World) (hr0 : Kd.C k40 w A0 l0.length l0) (hc0 : l0.length ≤ c0) (hr1 : Kd.C k40 w A1 l1.length l1) (hc1 : l1.length ≤ c1) (h : wringerref7_SameCodes.f k l0 l1 = some r) :
    Calls Try.prog 13 #[.slice A0 l0.length c0, .slice A1 l1.length c1] w fun e w' => e = .returned (.bool r) ∧ Drawn0 w w' := by
  have hu40 := Try.underlying40
  have HR0 := Aside0.mk hr0
  have HC0 := Aside0.mk hc0
  clear hr0 hc0
  have HR1 := Aside0.mk hr1
  have HC1 := Aside0.mk hc1
  clear hr1 hc1
  have H : (if (l0.length : Int) = (l1.length : Int) then (wringerref7_SameCodes.l0 k l0 l1 0) else (some false)) = some r := h
  clear h
  by_cases c3 : (l0.length : Int) = (l1.length : Int)
  · rw [if_pos c3] at H
    have c3b0 : ((l0.length : Int) == (l1.length : Int)) = true := beq_iff_eq.mpr c3
    have c3b1 : ((l0.length : Int) != (l1.length : Int)) = false := bne_eq_false_iff_eq.mpr c3
    have c3b2 : (l0.length == l1.length) = true := by first | simpa using c3 | (simp at c3 ⊢; omega)
    clear c3
    have H' := Aside0.mk H
    clear H
    go_enter Try.func13, Try.ntmps13
    go_wp2
    repeat (go_quiet (fail); try go_wp2)
    go_loopg [5] k (fun kq v5 w' => ∃ (x5_1 : Int), v5 = .int .i64 x5_1 ∧ Aside0 (wringerref7_SameCodes.l0 kq l0 l1 x5_1 = some r) ∧ Aside0 (kq ≤ k) ∧ Drawn0 w w')
    case atStart => exact ⟨(0), (by first | rfl | (simp; done) | (simp [*]; done)), H', ⟨Nat.le_refl _⟩, by repeat (first | exact Drawn0.refl _ | apply Drawn0.step)⟩
    case round =>
      clear H'
      try clear c1
      try clear p2
      try clear c3
      try clear c3b0
      try clear c3b1
      try clear c3b2
      obtain ⟨x5_1, rfl, HA, HK1, ⟨m1, rfl⟩⟩ := hrel
      cases gk with
      | zero => exact absurd HA.out (by simp [wringerref7_SameCodes.l0])
      | succ k1 =>
        have H := HA.out
        clear HA
        simp only [wringerref7_SameCodes.l0] at H
        by_cases c4 : x5_1 < (l0.length : Int)
        · rw [if_pos c4] at H
          have c4b0 : decide (x5_1 < (l0.length : Int)) = true := decide_eq_true c4
          clear c4
          by_cases c5 : 0 ≤ x5_1
          · rw [if_pos c5] at H
            have c5b0 : decide (0 ≤ x5_1) = true := decide_eq_true c5
            clear c5
            by_cases c6 : x5_1 < (l1.length : Int)
            · rw [if_pos c6] at H
              have c6b0 : decide (x5_1 < (l1.length : Int)) = true := decide_eq_true c6
              clear c6
              by_cases c7 : (!(((rd_T40 l0 x5_1).f0) == ((rd_T40 l1 x5_1).f0)) || (!(((rd_T40 l0 x5_1).f1) == ((rd_T40 l1 x5_1).f1)))) = true
              · rw [if_pos c7] at H
                have c7b0 : (!(((rd_T40 l0 x5_1).f0) == ((rd_T40 l1 x5_1).f0)) || (!(((rd_T40 l0 x5_1).f1) == ((rd_T40 l1 x5_1).f1)))) = true := c7
                clear c7
                obtain rfl := Option.some.inj H
                have p135 : 0 ≤ (x5_1 : Int) := of_decide_eq_true (by first | (with_reducible assumption) | assumption)
                have q135 : x5_1 < (l0.length : Int) := of_decide_eq_true (by first | (with_reducible assumption) | assumption)
                obtain ⟨ad135, e135, hx135_0, hx135_1⟩ := at_T40 HR0.out x5_1 p135 q135
                cases e135
                replace p135 := eq_true p135
                replace q135 := eq_true q135
                have p136 : 0 ≤ (x5_1 : Int) := of_decide_eq_true (by first | (with_reducible assumption) | assumption)
                have q136 : x5_1 < (l1.length : Int) := of_decide_eq_true (by first | (with_reducible assumption) | assumption)
                obtain ⟨ad136, e136, hx136_0, hx136_1⟩ := at_T40 HR1.out x5_1 p136 q136
                cases e136
                replace p136 := eq_true p136
                replace q136 := eq_true q136
                go_wp2
                repeat (go_quiet (fail); try go_wp2)
                go_ret
                exact ⟨by first | rfl | (simp; done) | (simp [*]; done), by repeat (first | exact Drawn0.refl _ | apply Drawn0.step)⟩
              · rw [if_neg c7] at H
                have c7b0 : (!(((rd_T40 l0 x5_1).f0) == ((rd_T40 l1 x5_1).f0)) || (!(((rd_T40 l0 x5_1).f1) == ((rd_T40 l1 x5_1).f1)))) = false := by simpa using c7
                clear c7
                have H' := Aside0.mk H
                clear H
                have p135 : 0 ≤ (x5_1 : Int) := of_decide_eq_true (by first | (with_reducible assumption) | assumption)
                have q135 : x5_1 < (l0.length : Int) := of_decide_eq_true (by first | (with_reducible assumption) | assumption)
                obtain ⟨ad135, e135, hx135_0, hx135_1⟩ := at_T40 HR0.out x5_1 p135 q135
                cases e135
                replace p135 := eq_true p135
                replace q135 := eq_true q135
                have p136 : 0 ≤ (x5_1 : Int) := of_decide_eq_true (by first | (with_reducible assumption) | assumption)
                have q136 : x5_1 < (l1.length : Int) := of_decide_eq_true (by first | (with_reducible assumption) | assumption)
                obtain ⟨ad136, e136, hx136_0, hx136_1⟩ := at_T40 HR1.out x5_1 p136 q136
                cases e136
                replace p136 := eq_true p136
                replace q136 := eq_true q136
                go_wp2
                repeat (go_quiet (fail); try go_wp2)
                go_roundg k1
                case measure => have := HK1.out; omega
                case rel => exact ⟨(wrap64 (x5_1 + 1)), (by first | rfl | (simp; done) | (simp [*]; done)), H', ⟨by have := HK1.out; omega⟩, by repeat (first | exact Drawn0.refl _ | apply Drawn0.step)⟩
            · rw [if_neg c6] at H
              exact absurd H (by simp)
          · rw [if_neg c5] at H
            exact absurd H (by simp)
        · rw [if_neg c4] at H
          have c4b0 : decide (x5_1 < (l0.length : Int)) = false := decide_eq_false c4
          clear c4
          obtain rfl := Option.some.inj H
          go_wp2
          repeat (go_quiet (fail); try go_wp2)
          go_ret
          exact ⟨by first | rfl | (simp; done) | (simp [*]; done), by repeat (first | exact Drawn0.refl _ | apply Drawn0.step)⟩
  · rw [if_neg c3] at H
    have c3b0 : ((l0.length : Int) == (l1.length : Int)) = false := beq_eq_false_iff_ne.mpr c3
    have c3b1 : ((l0.length : Int) != (l1.length : Int)) = true := bne_iff_ne.mpr c3
    have c3b2 : (l0.length == l1.length) = false := by first | simpa using c3 | (simp at c3 ⊢; omega)
    obtain rfl := Option.some.inj H
    go_enter Try.func13, Try.ntmps13
    go_wp2
    repeat (go_quiet (fail); try go_wp2)
    go_ret
    exact ⟨by first | rfl | (simp; done) | (simp [*]; done), by repeat (first | exact Drawn0.refl _ | apply Drawn0.step)⟩

end Go.Proofs.Ytkdmamffbhlbgaa.PA

-- ---- PAx22

namespace Go.Proofs.Ytkdmamffbhlbgaa.PA
open Go.RowKit Go.Proofs.YtkdmamffbhlbgaaW.PrintWords Go.Proofs.YtkdmamffbhlbgaaW.PrintLast Go.Proofs.YtkdmamffbhlbgaaW.PrintMore
attribute [local go_sem] max2_int min2_int max_two min_two max_three min_three max_four min_four   -- for this text's walks alone
set_option linter.unusedVariables false
set_option linter.unusedSimpArgs false

/-! ### wringerlaw9_CanonOrder: function 6 -/
mutual
def wringerlaw9_CanonOrder.l0 : Nat → List Int → List Int → Int → Option (Bool)
  | 0, _, _, _ => none
  | k + 1, x0, x3, x4 => if x4 < (x0.length : Int) then (wringerlaw9_CanonOrder.j1 k x0 x3 x4 (decide ((x3.length : Int) < 60))) else (wringerlaw9_CanonOrder.j1 k x0 x3 x4 false)
def wringerlaw9_CanonOrder.j1 : Nat → List Int → List Int → Int → Bool → Option (Bool)
  | 0, _, _, _, _ => none
  | k + 1, x0, x3, x4, x22 => if x22 = true then (if 0 ≤ x4 then (if x4 < (x0.length : Int) then (if (x3.length : Int) = 0 then (none) else (if 0 ≤ (Int.tmod (wrap64 (rd x0 x4)) (x3.length : Int)) then (if (Int.tmod (wrap64 (rd x0 x4)) (x3.length : Int)) < (x3.length : Int) then (if (rd x3 (Int.tmod (wrap64 (rd x0 x4)) (x3.length : Int))) < 15 then ((some (x3.set ((Int.tmod (wrap64 (rd x0 x4)) (x3.length : Int)) : Int).toNat (wrap64 ((rd x3 (Int.tmod (wrap64 (rd x0 x4)) (x3.length : Int))) + 1)) : List Int)).bind fun y232 => (if y232.length < 17592186044416 then (wringerlaw9_CanonOrder.l0 k x0 (y232 ++ [rd y232 (Int.tmod (wrap64 (rd x0 x4)) (x3.length : Int))]) (wrap64 (x4 + 1))) else (none))) else (wringerlaw9_CanonOrder.l0 k x0 x3 (wrap64 (x4 + 1)))) else (none)) else (none))) else (none)) else (none)) else (if (x3.length : Int) < 2 then ((wringerlaw9_awake.f k).bind fun t237 => (some t237)) else ((some (([] : List Int) : List Int)).bind fun y238 => (if y238.length + x3.length < 17592186044416 then ((some (y238 ++ x3 : List Int)).bind fun y241 => (if 0 ≤ (wrap64 (65 - (x3.length : Int))) then (if y241.length + (wrap64 (65 - (x3.length : Int)) : Int).toNat < 17592186044416 then ((some (y241 ++ List.replicate (wrap64 (65 - (x3.length : Int)) : Int).toNat 0 : List Int)).bind fun y244 => ((canon_Codes.f y244).bind fun bt247 => ((wringerlaw1_Err.f bt247.2).bind fun t251 => (if t251 = 0 then (if (bt247.1.length : Int) = 65 then ((canon_May.f k y244).bind fun t252 => (wringerlaw9_CanonOrder.j2 k x3 bt247.1 (!t252))) else (wringerlaw9_CanonOrder.j2 k x3 bt247.1 true)) else (wringerlaw9_CanonOrder.j2 k x3 bt247.1 true))))) else (none)) else (none))) else (none))))
def wringerlaw9_CanonOrder.j2 : Nat → List Int → List (S40) → Bool → Option (Bool)
  | 0, _, _, _ => none
  | k + 1, x3, x7, x79 => if x79 = true then (some false) else (wringerlaw9_CanonOrder.l1 k x3 x7 (-1) 1)
def wringerlaw9_CanonOrder.l1 : Nat → List Int → List (S40) → Int → Int → Option (Bool)
  | 0, _, _, _, _ => none
  | k + 1, x3, x7, x9, x10 => if x10 ≤ 15 then (wringerlaw9_CanonOrder.l2 k x3 x7 x9 x10 0) else (if x9 = 32767 then ((wringerlaw9_awake.f k).bind fun t253 => (some t253)) else (some false))
def wringerlaw9_CanonOrder.l2 : Nat → List Int → List (S40) → Int → Int → Int → Option (Bool)
  | 0, _, _, _, _, _ => none
  | k + 1, x3, x7, x9, x10, x11 => if x11 < (x3.length : Int) then (if 0 ≤ x11 then (if (rd x3 x11) = x10 then (if x11 < (x7.length : Int) then (if 0 ≤ (wrap64 (15 - x10)) then (if (shl .i64 ((rd_T40 x7 x11).f0) (wrap64 (15 - x10))) ≤ x9 then (some false) else (if ((rd_T40 x7 x11).f1) = x10 then (wringerlaw9_CanonOrder.l2 k x3 x7 (wrap64 ((wrap64 ((shl .i64 ((rd_T40 x7 x11).f0) (wrap64 (15 - x10))) + (shl .i64 1 (wrap64 (15 - x10))))) - 1)) x10 (wrap64 (x11 + 1))) else (some false))) else (none)) else (none)) else (wringerlaw9_CanonOrder.l2 k x3 x7 x9 x10 (wrap64 (x11 + 1)))) else (none)) else (wringerlaw9_CanonOrder.l1 k x3 x7 x9 (wrap64 (x10 + 1)))
end
def wringerlaw9_CanonOrder.f (k : Nat) (l0 : List Int) : Option (Bool) := wringerlaw9_CanonOrder.l0 k l0 (([0] : List Int)) 0
theorem wringerlaw9_CanonOrder.mono_l : ∀ k, (∀ y0 y1 y2, LeO (wringerlaw9_CanonOrder.l0 k y0 y1 y2) (wringerlaw9_CanonOrder.l0 (k + 1) y0 y1 y2)) ∧ (∀ y0 y1 y2 y3, LeO (wringerlaw9_CanonOrder.j1 k y0 y1 y2 y3) (wringerlaw9_CanonOrder.j1 (k + 1) y0 y1 y2 y3)) ∧ (∀ y0 y1 y2, LeO (wringerlaw9_CanonOrder.j2 k y0 y1 y2) (wringerlaw9_CanonOrder.j2 (k + 1) y0 y1 y2)) ∧ (∀ y0 y1 y2 y3, LeO (wringerlaw9_CanonOrder.l1 k y0 y1 y2 y3) (wringerlaw9_CanonOrder.l1 (k + 1) y0 y1 y2 y3)) ∧ (∀ y0 y1 y2 y3 y4, LeO (wringerlaw9_CanonOrder.l2 k y0 y1 y2 y3 y4) (wringerlaw9_CanonOrder.l2 (k + 1) y0 y1 y2 y3 y4))
  | 0 => ⟨fun _ _ _ r h => by simp [wringerlaw9_CanonOrder.l0] at h, fun _ _ _ _ r h => by simp [wringerlaw9_CanonOrder.j1] at h, fun _ _ _ r h => by simp [wringerlaw9_CanonOrder.j2] at h, fun _ _ _ _ r h => by simp [wringerlaw9_CanonOrder.l1] at h, fun _ _ _ _ _ r h => by simp [wringerlaw9_CanonOrder.l2] at h⟩
  | k + 1 => by
    obtain ⟨ih0, ih1, ih2, ih3, ih4⟩ := wringerlaw9_CanonOrder.mono_l k
    refine ⟨?_, ?_, ?_, ?_, ?_⟩
    · intro y0 y1 y2
      unfold wringerlaw9_CanonOrder.l0
      repeat' first
      | (with_reducible exact ih0 _ _ _)
      | (with_reducible exact ih1 _ _ _ _)
      | (with_reducible exact ih2 _ _ _)
      | (with_reducible exact ih3 _ _ _ _)
      | (with_reducible exact ih4 _ _ _ _ _)
      | (with_reducible exact canon_May.mono _ _)
      | (with_reducible exact wringerlaw9_awake.mono _)
      | (with_reducible exact LeO.refl _)
      | (with_reducible exact LeO.none _)
      | (with_reducible refine LeO.ite ?_ ?_)
      | (with_reducible refine LeO.bind ?_ (fun _ => ?_))
      | exact ih0 _ _ _
      | exact ih1 _ _ _ _
      | exact ih2 _ _ _
      | exact ih3 _ _ _ _
      | exact ih4 _ _ _ _ _
      | exact canon_May.mono _ _
      | exact wringerlaw9_awake.mono _
      | exact LeO.none _
      | refine LeO.ite ?_ ?_
      | refine LeO.bind ?_ (fun _ => ?_)
    · intro y0 y1 y2 y3
      unfold wringerlaw9_CanonOrder.j1
      repeat' first
      | (with_reducible exact ih0 _ _ _)
      | (with_reducible exact ih1 _ _ _ _)
      | (with_reducible exact ih2 _ _ _)
      | (with_reducible exact ih3 _ _ _ _)
      | (with_reducible exact ih4 _ _ _ _ _)
      | (with_reducible exact canon_May.mono _ _)
      | (with_reducible exact wringerlaw9_awake.mono _)
      | (with_reducible exact LeO.refl _)
      | (with_reducible exact LeO.none _)
      | (with_reducible refine LeO.ite ?_ ?_)
      | (with_reducible refine LeO.bind ?_ (fun _ => ?_))
      | exact ih0 _ _ _
      | exact ih1 _ _ _ _
      | exact ih2 _ _ _
      | exact ih3 _ _ _ _
      | exact ih4 _ _ _ _ _
      | exact canon_May.mono _ _
      | exact wringerlaw9_awake.mono _
      | exact LeO.none _
      | refine LeO.ite ?_ ?_
      | refine LeO.bind ?_ (fun _ => ?_)
    · intro y0 y1 y2
      unfold wringerlaw9_CanonOrder.j2
      repeat' first
      | (with_reducible exact ih0 _ _ _)
      | (with_reducible exact ih1 _ _ _ _)
      | (with_reducible exact ih2 _ _ _)
      | (with_reducible exact ih3 _ _ _ _)
      | (with_reducible exact ih4 _ _ _ _ _)
      | (with_reducible exact canon_May.mono _ _)
      | (with_reducible exact wringerlaw9_awake.mono _)
      | (with_reducible exact LeO.refl _)
      | (with_reducible exact LeO.none _)
      | (with_reducible refine LeO.ite ?_ ?_)
      | (with_reducible refine LeO.bind ?_ (fun _ => ?_))
      | exact ih0 _ _ _
      | exact ih1 _ _ _ _
      | exact ih2 _ _ _
      | exact ih3 _ _ _ _
      | exact ih4 _ _ _ _ _
      | exact canon_May.mono _ _
      | exact wringerlaw9_awake.mono _
      | exact LeO.none _
      | refine LeO.ite ?_ ?_
      | refine LeO.bind ?_ (fun _ => ?_)
    · intro y0 y1 y2 y3
      unfold wringerlaw9_CanonOrder.l1
      repeat' first
      | (with_reducible exact ih0 _ _ _)
      | (with_reducible exact ih1 _ _ _ _)
      | (with_reducible exact ih2 _ _ _)
      | (with_reducible exact ih3 _ _ _ _)
      | (with_reducible exact ih4 _ _ _ _ _)
      | (with_reducible exact canon_May.mono _ _)
      | (with_reducible exact wringerlaw9_awake.mono _)
      | (with_reducible exact LeO.refl _)
      | (with_reducible exact LeO.none _)
      | (with_reducible refine LeO.ite ?_ ?_)
      | (with_reducible refine LeO.bind ?_ (fun _ => ?_))
      | exact ih0 _ _ _
      | exact ih1 _ _ _ _
      | exact ih2 _ _ _
      | exact ih3 _ _ _ _
      | exact ih4 _ _ _ _ _
      | exact canon_May.mono _ _
      | exact wringerlaw9_awake.mono _
      | exact LeO.none _
      | refine LeO.ite ?_ ?_
      | refine LeO.bind ?_ (fun _ => ?_)
    · intro y0 y1 y2 y3 y4
      unfold wringerlaw9_CanonOrder.l2
      repeat' first
      | (with_reducible exact ih0 _ _ _)
      | (with_reducible exact ih1 _ _ _ _)
      | (with_reducible exact ih2 _ _ _)
      | (with_reducible exact ih3 _ _ _ _)
      | (with_reducible exact ih4 _ _ _ _ _)
      | (with_reducible exact canon_May.mono _ _)
      | (with_reducible exact wringerlaw9_awake.mono _)
      | (with_reducible exact LeO.refl _)
      | (with_reducible exact LeO.none _)
      | (with_reducible refine LeO.ite ?_ ?_)
      | (with_reducible refine LeO.bind ?_ (fun _ => ?_))
      | exact ih0 _ _ _
      | exact ih1 _ _ _ _
      | exact ih2 _ _ _
      | exact ih3 _ _ _ _
      | exact ih4 _ _ _ _ _
      | exact canon_May.mono _ _
      | exact wringerlaw9_awake.mono _
      | exact LeO.none _
      | refine LeO.ite ?_ ?_
      | refine LeO.bind ?_ (fun _ => ?_)
theorem wringerlaw9_CanonOrder.mono : ∀ a0 k, LeO (wringerlaw9_CanonOrder.f k a0) (wringerlaw9_CanonOrder.f (k + 1) a0) := by
  intro a0 k
  obtain ⟨ih0, ih1, ih2, ih3, ih4⟩ := wringerlaw9_CanonOrder.mono_l k
  unfold wringerlaw9_CanonOrder.f
  repeat' first
      | (with_reducible exact ih0 _ _ _)
      | (with_reducible exact ih1 _ _ _ _)
      | (with_reducible exact ih2 _ _ _)
      | (with_reducible exact ih3 _ _ _ _)
      | (with_reducible exact ih4 _ _ _ _ _)
      | (with_reducible exact canon_May.mono _ _)
      | (with_reducible exact wringerlaw9_awake.mono _)
      | (with_reducible exact LeO.refl _)
      | (with_reducible exact LeO.none _)
      | (with_reducible refine LeO.ite ?_ ?_)
      | (with_reducible refine LeO.bind ?_ (fun _ => ?_))
      | exact ih0 _ _ _
      | exact ih1 _ _ _ _
      | exact ih2 _ _ _
      | exact ih3 _ _ _ _
      | exact ih4 _ _ _ _ _
      | exact canon_May.mono _ _
      | exact wringerlaw9_awake.mono _
      | exact LeO.none _
      | refine LeO.ite ?_ ?_
      | refine LeO.bind ?_ (fun _ => ?_)
set_option maxHeartbeats 8000000 in
set_option maxRecDepth 100000 in
theorem wringerlaw9_CanonOrder.calls (k : Nat) (A0 : Option Addr) (c0 : Nat) (l0 : List Int) (r : Bool) (w : World) (hr0 : Kd.C (Kd.int .u8) w A0 l0.length l0) (hc0 : l0.length ≤ c0) (h : wringerlaw9_CanonOrder.f k l0 = some r) :
    Calls Try.prog 6 #[.slice A0 l0.length c0] w fun e w' => e = .returned (.bool r) ∧ Below w.heap.size w w' := by
  have HR0 := Aside0.mk hr0
  have HC0 := Aside0.mk hc0
  clear hr0 hc0
  have HB := Aside0.mk (Below.refl w.heap.size w)
  have H : (wringerlaw9_CanonOrder.l0 k l0 (([0] : List Int)) 0) = some r := h
  clear h
  obtain ⟨y226, hy226⟩ : ∃ y_ : List Int, y_ = (([0] : List Int)) := ⟨_, rfl⟩
  replace H : (wringerlaw9_CanonOrder.l0 k l0 y226 0) = some r := by first | (rw [hy226]; with_reducible exact H) | (have H2_ := (Option.bind_some _ _).symm.trans H; rw [hy226]; with_reducible exact H2_) | (have H2_ := (Option.bind_some _ _).symm.trans H; with_reducible exact H2_) | with_reducible exact H | (rw [hy226]; exact H) | exact H
  have Ny226 := Aside0.mk hy226
  clear hy226
  have H' := Aside0.mk H
  clear H
  go_enter Try.func6, Try.ntmps6
  go_wp2_with (first | ((with_reducible refine gate_dst (N := 13) rfl ?_); (try (refine gate_guard (by rfl) ?_; dsimp only)); refine Kd.R_lit (Kd.int .i64) _ 3 ?hg (N := 13) ?hd (xs := ([0] : List Int)) (inner := [.int .i64 0]) (ok := fun _ => True) (okp := fun _ => True) ?hr ?hp (fun _ hk => hk) trivial (Below.refl _ _) (Nat.le_refl _) (by simp) ?_; (case hd => rfl); (case hg => rfl); (case hr => first | (go_simp; done) | (go_simp; rfl)); (case hp => exact (Reps.one (show Kd.M (Kd.int .i64) _ _ _ 0 [.int .i64 0] from rfl) (Reps.none _ _))); intro v227 w2 ho3 hb hg_ hnew_; clear hg_ hnew_; (first | rw [← Ny226.out] at ho3 | (simp only [Int.reduceToNat] at ho3; rw [← Ny226.out] at ho3)); have n0_ := Aside0.mk (Kd.R_lower ho3 (below_size (by repeat (first | (with_reducible first | exact HB.out | apply below_alloc | apply pw_below_drewN | apply below_drew1) | exact HB.out)))); have n1_ := Aside0.mk (below_step (by repeat (first | (with_reducible first | exact HB.out | apply below_alloc | apply pw_below_drewN | apply below_drew1) | exact HB.out)) hb); clear HB; have HO228 := n0_; have HB := n1_; clear n0_ n1_; clear hb ho3))
  go_loopg [3, 4] k (fun kq v3 v4 w' => ∃ (x3_1 : List Int) (x4_1 : Int), v4 = .int .i64 x4_1 ∧ Aside0 (wringerlaw9_CanonOrder.l0 kq l0 x3_1 x4_1 = some r) ∧ Aside0 (kq ≤ k) ∧ Aside0 (Kd.R (Kd.int .i64) 3 w' w.heap.size (fun _ => True) v3 x3_1) ∧ Aside0 (Below w.heap.size w w'))
  case atStart => exact ⟨(y226), (0), (by first | rfl | (simp; done) | (simp [*]; done)), H', ⟨Nat.le_refl _⟩, ⟨by (with_reducible repeat (first | apply Kd.R_alloc | apply Kd.R_drewN | apply Kd.R_drew)); exact HO228.out⟩, ⟨by repeat (first | (with_reducible first | exact HB.out | apply below_alloc | apply pw_below_drewN | apply below_drew1) | exact HB.out)⟩⟩
  case round =>
    clear H'
    try clear p2
    obtain ⟨x3_1, x4_1, rfl, HA, HK1, HO_3, HB⟩ := hrel
    cases gk with
    | zero => exact absurd HA.out (by simp [wringerlaw9_CanonOrder.l0])
    | succ k1 =>
      have H := HA.out
      clear HA
      simp only [wringerlaw9_CanonOrder.l0] at H
      have HC4 := Aside0.mk H
      clear H
      go_upto_region 3 with (fail)
      go_cut [22] (fun v22 wc => ∃ (kq : Nat) (x22_3 : Bool), v22 = .bool x22_3 ∧ Aside0 (wringerlaw9_CanonOrder.j1 kq l0 x3_1 x4_1 x22_3 = some r) ∧ Aside0 (kq ≤ k1) ∧ Aside0 (Kd.R (Kd.int .i64) 3 wc w.heap.size (fun _ => True) u3 x3_1) ∧ Aside0 (Below w.heap.size w wc))
      case first =>
        have H := HC4.out
        clear HC4
        by_cases c5 : x4_1 < (l0.length : Int)
        · rw [if_pos c5] at H
          have c5b0 : decide (x4_1 < (l0.length : Int)) = true := decide_eq_true c5
          clear c5
          (first | rw [c5b0] | (simp only [i64_w, i32_w]; rw [c5b0]) | skip)
          have H' := Aside0.mk H
          clear H
          obtain ⟨Ao6, co6, eo6⟩ := Kd.R_slice HO_3.out
          subst eo6
          go_wp2
          go_meet
          case rel => exact ⟨_, (decide ((x3_1.length : Int) < 60)), (by first | rfl | (simp; done) | (simp [*]; done)), H', ⟨by have := HK1.out; first | omega | exact Nat.le_refl _⟩, ⟨by (with_reducible repeat (first | apply Kd.R_alloc | apply Kd.R_drewN | apply Kd.R_drew)); exact HO_3.out⟩, ⟨by repeat (first | (with_reducible first | exact HB.out | apply below_alloc | apply pw_below_drewN | apply below_drew1) | exact HB.out)⟩⟩
        · rw [if_neg c5] at H
          have c5b0 : decide (x4_1 < (l0.length : Int)) = false := decide_eq_false c5
          clear c5
          (first | rw [c5b0] | (simp only [i64_w, i32_w]; rw [c5b0]) | skip)
          have H' := Aside0.mk H
          clear H
          go_wp2
          go_meet
          case rel => exact ⟨_, (false), (by first | rfl | (simp; done) | (simp [*]; done)), H', ⟨by have := HK1.out; first | omega | exact Nat.le_refl _⟩, ⟨by (with_reducible repeat (first | apply Kd.R_alloc | apply Kd.R_drewN | apply Kd.R_drew)); exact HO_3.out⟩, ⟨by repeat (first | (with_reducible first | exact HB.out | apply below_alloc | apply pw_below_drewN | apply below_drew1) | exact HB.out)⟩⟩
      case rest =>
        clear HC4
        try clear p2
        try clear c5
        try clear c5b0
        try clear c6
        try clear p2
        obtain ⟨kq, x22_3, rfl, HA, HJ3, HO_3, HB⟩ := hcut
        cases kq with
        | zero => exact absurd HA.out (by simp [wringerlaw9_CanonOrder.j1])
        | succ kj3 =>
          have H := HA.out
          clear HA
          simp only [wringerlaw9_CanonOrder.j1] at H
          by_cases c7 : x22_3 = true
          · subst c7
            have H1 : (if 0 ≤ x4_1 then (if x4_1 < (l0.length : Int) then (if (x3_1.length : Int) = 0 then (none) else (if 0 ≤ (Int.tmod (wrap64 (rd l0 x4_1)) (x3_1.length : Int)) then (if (Int.tmod (wrap64 (rd l0 x4_1)) (x3_1.length : Int)) < (x3_1.length : Int) then (if (rd x3_1 (Int.tmod (wrap64 (rd l0 x4_1)) (x3_1.length : Int))) < 15 then ((some (x3_1.set ((Int.tmod (wrap64 (rd l0 x4_1)) (x3_1.length : Int)) : Int).toNat (wrap64 ((rd x3_1 (Int.tmod (wrap64 (rd l0 x4_1)) (x3_1.length : Int))) + 1)) : List Int)).bind fun y232 => (if y232.length < 17592186044416 then (wringerlaw9_CanonOrder.l0 kj3 l0 (y232 ++ [rd y232 (Int.tmod (wrap64 (rd l0 x4_1)) (x3_1.length : Int))]) (wrap64 (x4_1 + 1))) else (none))) else (wringerlaw9_CanonOrder.l0 kj3 l0 x3_1 (wrap64 (x4_1 + 1)))) else (none)) else (none))) else (none)) else (none)) = some r := by rw [if_pos rfl] at H; exact H
            clear H
            have H := H1
            clear H1
            by_cases c8 : 0 ≤ x4_1
            · rw [if_pos c8] at H
              have c8b0 : decide (0 ≤ x4_1) = true := decide_eq_true c8
              clear c8
              by_cases c9 : x4_1 < (l0.length : Int)
              · rw [if_pos c9] at H
                have c9b0 : decide (x4_1 < (l0.length : Int)) = true := decide_eq_true c9
                clear c9
                by_cases c10 : (x3_1.length : Int) = 0
                · rw [if_pos c10] at H
                  exact absurd H (by simp)
                · rw [if_neg c10] at H
                  have c10b0 : ((x3_1.length : Int) == 0) = false := beq_eq_false_iff_ne.mpr c10
                  have c10b1 : ((x3_1.length : Int) != 0) = true := bne_iff_ne.mpr c10
                  have c10b2 : ¬ (x3_1 = []) := fun h_ => c10 (by rw [h_]; rfl)
                  obtain ⟨ji11, hji11⟩ : ∃ j_ : Int, (Int.tmod (wrap64 (rd l0 x4_1)) (x3_1.length : Int)) = j_ := ⟨_, rfl⟩
                  replace H : (if 0 ≤ (ji11) then (if (ji11) < (x3_1.length : Int) then (if (rd x3_1 (ji11)) < 15 then ((some (x3_1.set ((ji11) : Int).toNat (wrap64 ((rd x3_1 (ji11)) + 1)) : List Int)).bind fun y232 => (if y232.length < 17592186044416 then (wringerlaw9_CanonOrder.l0 kj3 l0 (y232 ++ [rd y232 (ji11)]) (wrap64 (x4_1 + 1))) else (none))) else (wringerlaw9_CanonOrder.l0 kj3 l0 x3_1 (wrap64 (x4_1 + 1)))) else (none)) else (none)) = some r := by first | (rw [hji11] at H; exact H) | (simp only [hji11] at H ⊢; exact H)
                  by_cases c12 : 0 ≤ (ji11)
                  · rw [if_pos c12] at H
                    have c12b0 : decide (0 ≤ (ji11)) = true := decide_eq_true c12
                    clear c12
                    by_cases c13 : (ji11) < (x3_1.length : Int)
                    · rw [if_pos c13] at H
                      have c13b0 : decide ((ji11) < (x3_1.length : Int)) = true := decide_eq_true c13
                      clear c13
                      by_cases c14 : (rd x3_1 (ji11)) < 15
                      · rw [if_pos c14] at H
                        have c14b0 : decide ((rd x3_1 (ji11)) < 15) = true := decide_eq_true c14
                        clear c14
                        obtain ⟨y232, hy232⟩ : ∃ y_ : List Int, y_ = (x3_1.set ((ji11) : Int).toNat (wrap64 ((rd x3_1 (ji11)) + 1))) := ⟨_, rfl⟩
                        replace H : (if y232.length < 17592186044416 then (wringerlaw9_CanonOrder.l0 kj3 l0 (y232 ++ [rd y232 (ji11)]) (wrap64 (x4_1 + 1))) else (none)) = some r := by first | (rw [hy232]; with_reducible exact H) | (have H2_ := (Option.bind_some _ _).symm.trans H; rw [hy232]; with_reducible exact H2_) | (have H2_ := (Option.bind_some _ _).symm.trans H; with_reducible exact H2_) | with_reducible exact H | (rw [hy232]; exact H) | exact H
                        have Ny232 := Aside0.mk hy232
                        clear hy232
                        by_cases c16 : y232.length < 17592186044416
                        · rw [if_pos c16] at H
                          have LMc16 := Aside0.mk c16
                          clear c16
                          obtain ⟨y234, hy234⟩ : ∃ y_ : List Int, y_ = (y232 ++ [rd y232 (ji11)]) := ⟨_, rfl⟩
                          replace H : (wringerlaw9_CanonOrder.l0 kj3 l0 y234 (wrap64 (x4_1 + 1))) = some r := by first | (rw [hy234]; with_reducible exact H) | (have H2_ := (Option.bind_some _ _).symm.trans H; rw [hy234]; with_reducible exact H2_) | (have H2_ := (Option.bind_some _ _).symm.trans H; with_reducible exact H2_) | with_reducible exact H | (rw [hy234]; exact H) | exact H
                          have Ny234 := Aside0.mk hy234
                          clear hy234
                          have H' := Aside0.mk H
                          clear H
                          have p229 : 0 ≤ (x4_1 : Int) := of_decide_eq_true (by first | (with_reducible assumption) | assumption)
                          have q229 : x4_1 < (l0.length : Int) := of_decide_eq_true (by first | (with_reducible assumption) | assumption)
                          obtain ⟨ad229, e229, hx229_0⟩ := Kd.at_int HR0.out x4_1 p229 q229
                          cases e229
                          replace hx229_0 := (HB.out.cell (World.block_lt_of_cell? w _ hx229_0)).trans hx229_0
                          replace p229 := eq_true p229
                          replace q229 := eq_true q229
                          obtain ⟨Ao17, co17, eo17⟩ := Kd.R_slice HO_3.out
                          subst eo17
                          have p230 : 0 ≤ ((ji11) : Int) := of_decide_eq_true (by first | (with_reducible assumption) | assumption)
                          have q230 : (ji11) < (x3_1.length : Int) := of_decide_eq_true (by first | (with_reducible assumption) | assumption)
                          obtain ⟨ad230, e230, hx230_0⟩ := Kd.at_int (Kd.R_reads' HO_3.out).2.2 (ji11) p230 q230
                          cases e230
                          replace p230 := eq_true p230
                          replace q230 := eq_true q230
                          have p231 : 0 ≤ ((ji11) : Int) := of_decide_eq_true (by first | (with_reducible assumption) | assumption)
                          have q231 : (ji11) < (x3_1.length : Int) := of_decide_eq_true (by first | (with_reducible assumption) | assumption)
                          obtain ⟨ad231, e231, hx231_0⟩ := Kd.at_int (Kd.R_reads' HO_3.out).2.2 (ji11) p231 q231
                          obtain rfl : ad230 = ad231 := (by injection e231)
                          replace p231 := eq_true p231
                          replace q231 := eq_true q231
                          have p15 : 0 ≤ ((ji11) : Int) := of_decide_eq_true (by first | (with_reducible assumption) | assumption)
                          have q15 : ((ji11) : Int) < ((x3_1.length : Int) : Int) := of_decide_eq_true (by first | (with_reducible assumption) | assumption)
                          obtain ⟨go15, co15, eo15, gb15, gl15, cl15, HG15⟩ := Kd.R_form HO_3.out (by omega)
                          (first | cases eo15 | (injection eo15 with ea_ en_ ec_; (first | subst ea_ | (injection ea_ with ea_; subst ea_)); subst ec_; clear en_))
                          have GB15 := Aside0.mk gb15
                          have GG15 := Aside0.mk HG15
                          clear gb15 gl15 HG15
                          (first | simp only [add_plain] at hx230_0 | skip)
                          (first | simp only [add_plain] at hx231_0 | skip)
                          obtain ⟨hx15_0, hf15_0⟩ := Kd.R_celln 0 HO_3.out ((ji11) : Int) p15 q15
                          replace p15 := eq_true p15
                          replace q15 := eq_true q15
                          have HP18 := Kd.R_putg HO_3.out ((ji11) : Int) (wrap64 ((rd x3_1 (ji11)) + 1))
                          go_wp2_with (first | ((with_reducible refine gate_store (t := 3) (p := 43) rfl ?_); refine store_event (t := 3) (p := 43) (v := ?vo_w19) (w1 := (wc.setCell ⟨go15, ((ji11) : Int).toNat, none⟩ (.int .i64 (wrap64 ((rd x3_1 (ji11)) + 1))))) ?hg ?ho ?hn ?hr ?_; (case ho => rfl); (case hg => rfl); (case hn => rfl); (case hr => first | (go_simp; done) | (go_simp; rfl)); intro w19 hw; have hg : wc.grownBy w19 (some go15) := (by rw [hw]; exact HP18.2); have hp_ : Kd.R (Kd.int .i64) 3 w19 w.heap.size (fun _ => True) (.slice (some ⟨go15, 0, none⟩) x3_1.length co17) y232 := (by rw [hw, Ny232.out]; exact HP18.1); clear HP18; have n0_ := Aside0.mk (hp_); have n1_ := Aside0.mk ((by rw [hw]; exact below_set (HB.out) GB15.out : Below w.heap.size w w19)); clear HO_3; clear HB; have HO_3 := n0_; have HB := n1_; clear n0_ n1_; clear hg hw hp_; have p233 : 0 ≤ ((ji11) : Int) := of_decide_eq_true (by first | (with_reducible assumption) | assumption); have q233 : (ji11) < (y232.length : Int) := (by have h_ : ((ji11) : Int) < ((x3_1.length : Int) : Int) := of_decide_eq_true (by first | (with_reducible assumption) | assumption); first | (have e_ := (Kd.R_reads' HO_3.out).1; omega) | simpa only [Ny232.out, List.length_set] using h_); have ql233 : (((ji11) : Int) < ((x3_1.length : Int) : Int)) = True := eq_true (of_decide_eq_true (by first | (with_reducible assumption) | assumption)); obtain ⟨ad233, e233, hx233_0⟩ := Kd.at_int (Kd.R_reads' HO_3.out).2.2 (ji11) p233 q233; obtain rfl : (⟨go15, 0, none⟩ : Addr) = ad233 := (by injection e233); (first | simp only [add_plain] at hx233_0 | simp only [add_at] at hx233_0 | simp only [Addr.add, Nat.zero_add] at hx233_0 | skip); replace p233 := eq_true p233; replace q233 := eq_true q233) | ((with_reducible refine gate_builtin (b := .append) (xs := #[.tmp 44, .tmp 49]) rfl ?_); (try (refine gate_guard (by rfl) ?_; dsimp only)); at_builtin; refine Kd.R_append (Kd.int .i64) (w0 := w) w.heap.size rfl (.tmp 44) (.tmp 49) 22 3 (.int .i64 0) 8 rfl Try.underlying22 info3 rfl (by decide) (by omega) (.slice (some ⟨go15, 0, none⟩) x3_1.length co17) y232 (rd y232 (ji11)) [.int .i64 (rd y232 (ji11))] (fun _ => True) (fun _ => False) rfl rfl ?aP (fun _ hk => hk.elim) ?aF ?aO ?aB ?aS ?aL ?_; (case aP => exact rfl); (case aB => exact (by repeat (first | (with_reducible first | exact HB.out | apply below_alloc | apply pw_below_drewN | apply below_drew1) | exact HB.out))); (case aF => exact (fun _ _ => trivial)); (case aO => exact (by (with_reducible repeat (first | apply Kd.R_alloc | apply Kd.R_drewN | apply Kd.R_drew)); exact HO_3.out)); (case aS => exact (below_size (by repeat (first | (with_reducible first | exact HB.out | apply below_alloc | apply pw_below_drewN | apply below_drew1) | exact HB.out)))); (case aL => have := LMc16.out; omega); intro v235 w20 ho hb hg hat; rw [← Ny234.out] at ho; have n0_ := Aside0.mk (hb); have n1_ := Aside0.mk (ho); clear HB; clear HO_3; have HB := n0_; have HO236 := n1_; clear n0_ n1_; clear ho hb hg hat))
                          go_roundg kj3
                          case measure => have := HK1.out; have := HJ3.out; omega
                          case rel => exact ⟨(y234), (wrap64 (x4_1 + 1)), (by first | rfl | (simp; done) | (simp [*]; done)), H', ⟨by have := HK1.out; have := HJ3.out; omega⟩, ⟨by (with_reducible repeat (first | apply Kd.R_alloc | apply Kd.R_drewN | apply Kd.R_drew)); exact HO236.out⟩, ⟨by repeat (first | (with_reducible first | exact HB.out | apply below_alloc | apply pw_below_drewN | apply below_drew1) | exact HB.out)⟩⟩
                        · rw [if_neg c16] at H
                          exact absurd H (by simp)
                      · rw [if_neg c14] at H
                        have c14b0 : decide ((rd x3_1 (ji11)) < 15) = false := decide_eq_false c14
                        clear c14
                        have H' := Aside0.mk H
                        clear H
                        have p229 : 0 ≤ (x4_1 : Int) := of_decide_eq_true (by first | (with_reducible assumption) | assumption)
                        have q229 : x4_1 < (l0.length : Int) := of_decide_eq_true (by first | (with_reducible assumption) | assumption)
                        obtain ⟨ad229, e229, hx229_0⟩ := Kd.at_int HR0.out x4_1 p229 q229
                        cases e229
                        replace hx229_0 := (HB.out.cell (World.block_lt_of_cell? w _ hx229_0)).trans hx229_0
                        replace p229 := eq_true p229
                        replace q229 := eq_true q229
                        obtain ⟨Ao21, co21, eo21⟩ := Kd.R_slice HO_3.out
                        subst eo21
                        have p230 : 0 ≤ ((ji11) : Int) := of_decide_eq_true (by first | (with_reducible assumption) | assumption)
                        have q230 : (ji11) < (x3_1.length : Int) := of_decide_eq_true (by first | (with_reducible assumption) | assumption)
                        obtain ⟨ad230, e230, hx230_0⟩ := Kd.at_int (Kd.R_reads' HO_3.out).2.2 (ji11) p230 q230
                        cases e230
                        replace p230 := eq_true p230
                        replace q230 := eq_true q230
                        go_wp2
                        go_roundg kj3
                        case measure => have := HK1.out; have := HJ3.out; omega
                        case rel => exact ⟨(x3_1), (wrap64 (x4_1 + 1)), (by first | rfl | (simp; done) | (simp [*]; done)), H', ⟨by have := HK1.out; have := HJ3.out; omega⟩, ⟨by (with_reducible repeat (first | apply Kd.R_alloc | apply Kd.R_drewN | apply Kd.R_drew)); exact HO_3.out⟩, ⟨by repeat (first | (with_reducible first | exact HB.out | apply below_alloc | apply pw_below_drewN | apply below_drew1) | exact HB.out)⟩⟩
                    · rw [if_neg c13] at H
                      exact absurd H (by simp)
                  · rw [if_neg c12] at H
                    exact absurd H (by simp)
              · rw [if_neg c9] at H
                exact absurd H (by simp)
            · rw [if_neg c8] at H
              exact absurd H (by simp)
          · replace c7 := Bool.eq_false_iff.mpr c7
            subst c7
            have H1 : (if (x3_1.length : Int) < 2 then ((wringerlaw9_awake.f kj3).bind fun t237 => (some t237)) else ((some (([] : List Int) : List Int)).bind fun y238 => (if y238.length + x3_1.length < 17592186044416 then ((some (y238 ++ x3_1 : List Int)).bind fun y241 => (if 0 ≤ (wrap64 (65 - (x3_1.length : Int))) then (if y241.length + (wrap64 (65 - (x3_1.length : Int)) : Int).toNat < 17592186044416 then ((some (y241 ++ List.replicate (wrap64 (65 - (x3_1.length : Int)) : Int).toNat 0 : List Int)).bind fun y244 => ((canon_Codes.f y244).bind fun bt247 => ((wringerlaw1_Err.f bt247.2).bind fun t251 => (if t251 = 0 then (if (bt247.1.length : Int) = 65 then ((canon_May.f kj3 y244).bind fun t252 => (wringerlaw9_CanonOrder.j2 kj3 x3_1 bt247.1 (!t252))) else (wringerlaw9_CanonOrder.j2 kj3 x3_1 bt247.1 true)) else (wringerlaw9_CanonOrder.j2 kj3 x3_1 bt247.1 true))))) else (none)) else (none))) else (none)))) = some r := by rw [if_neg (show ¬ (false = true) by decide)] at H; exact H
            clear H
            have H := H1
            clear H1
            by_cases c22 : (x3_1.length : Int) < 2
            · rw [if_pos c22] at H
              have c22b0 : decide ((x3_1.length : Int) < 2) = true := decide_eq_true c22
              have c22b1 : decide (x3_1.length < 2) = true := decide_eq_true (by omega)
              clear c22
              replace H := Option.bind_eq_some_iff.mp H
              obtain ⟨t237, A230, H⟩ := H
              replace H : (some t237) = some r := H
              have A23 := Aside0.mk A230
              clear A230
              obtain rfl := Option.some.inj H
              obtain ⟨Ao24, co24, eo24⟩ := Kd.R_slice HO_3.out
              subst eo24
              go_wp2_with (first | ((with_reducible refine gate_callee (f := 8) rfl ?_); refine goesL_ (some 54) rfl rfl Try.func8 (by kernel_rfl) rfl #[] rfl (by (try simp only [List.map_toArray, List.map_cons, List.map_nil]); first | done | rfl | (simp only [List.length_drop, List.length_take]; rfl)) ?_; (with_reducible refine (wringerlaw9_awake.calls kj3  t237 _ A23.out).mono ?_); rintro e w25 ⟨rfl, hb⟩; refine ⟨_, rfl, ?_⟩; have n0_ := Aside0.mk (Kd.R_below (by (with_reducible repeat (first | apply Kd.R_alloc | apply Kd.R_drewN | apply Kd.R_drew)); exact HO_3.out) hb); have n1_ := Aside0.mk (below_step (by repeat (first | (with_reducible first | exact HB.out | apply below_alloc | apply pw_below_drewN | apply below_drew1) | exact HB.out)) hb); clear HO_3; clear HB; have HO_3 := n0_; have HB := n1_; clear n0_ n1_; (try clear hb); (try clear hb2); (try clear hk); (try clear hi)))
              go_ret
              exact ⟨by first | rfl | (simp [errW_none, errW_some] <;> rfl) | (simp [*, errW_none, errW_some] <;> rfl), by repeat (first | (with_reducible first | exact HB.out | apply below_alloc | apply pw_below_drewN | apply below_drew1) | exact HB.out)⟩
            · rw [if_neg c22] at H
              have c22b0 : decide ((x3_1.length : Int) < 2) = false := decide_eq_false c22
              have c22b1 : decide (x3_1.length < 2) = false := decide_eq_false (by omega)
              clear c22
              obtain ⟨y238, hy238⟩ : ∃ y_ : List Int, y_ = (([] : List Int)) := ⟨_, rfl⟩
              replace H : (if y238.length + x3_1.length < 17592186044416 then ((some (y238 ++ x3_1 : List Int)).bind fun y241 => (if 0 ≤ (wrap64 (65 - (x3_1.length : Int))) then (if y241.length + (wrap64 (65 - (x3_1.length : Int)) : Int).toNat < 17592186044416 then ((some (y241 ++ List.replicate (wrap64 (65 - (x3_1.length : Int)) : Int).toNat 0 : List Int)).bind fun y244 => ((canon_Codes.f y244).bind fun bt247 => ((wringerlaw1_Err.f bt247.2).bind fun t251 => (if t251 = 0 then (if (bt247.1.length : Int) = 65 then ((canon_May.f kj3 y244).bind fun t252 => (wringerlaw9_CanonOrder.j2 kj3 x3_1 bt247.1 (!t252))) else (wringerlaw9_CanonOrder.j2 kj3 x3_1 bt247.1 true)) else (wringerlaw9_CanonOrder.j2 kj3 x3_1 bt247.1 true))))) else (none)) else (none))) else (none)) = some r := by first | (rw [hy238]; with_reducible exact H) | (have H2_ := (Option.bind_some _ _).symm.trans H; rw [hy238]; with_reducible exact H2_) | (have H2_ := (Option.bind_some _ _).symm.trans H; with_reducible exact H2_) | with_reducible exact H | (rw [hy238]; exact H) | exact H
              have Ny238 := Aside0.mk hy238
              clear hy238
              by_cases c26 : y238.length + x3_1.length < 17592186044416
              · rw [if_pos c26] at H
                have LMc26 := Aside0.mk c26
                clear c26
                obtain ⟨y241, hy241⟩ : ∃ y_ : List Int, y_ = (y238 ++ x3_1) := ⟨_, rfl⟩
                replace H : (if 0 ≤ (wrap64 (65 - (x3_1.length : Int))) then (if y241.length + (wrap64 (65 - (x3_1.length : Int)) : Int).toNat < 17592186044416 then ((some (y241 ++ List.replicate (wrap64 (65 - (x3_1.length : Int)) : Int).toNat 0 : List Int)).bind fun y244 => ((canon_Codes.f y244).bind fun bt247 => ((wringerlaw1_Err.f bt247.2).bind fun t251 => (if t251 = 0 then (if (bt247.1.length : Int) = 65 then ((canon_May.f kj3 y244).bind fun t252 => (wringerlaw9_CanonOrder.j2 kj3 x3_1 bt247.1 (!t252))) else (wringerlaw9_CanonOrder.j2 kj3 x3_1 bt247.1 true)) else (wringerlaw9_CanonOrder.j2 kj3 x3_1 bt247.1 true))))) else (none)) else (none)) = some r := by first | (rw [hy241]; with_reducible exact H) | (have H2_ := (Option.bind_some _ _).symm.trans H; rw [hy241]; with_reducible exact H2_) | (have H2_ := (Option.bind_some _ _).symm.trans H; with_reducible exact H2_) | with_reducible exact H | (rw [hy241]; exact H) | exact H
                have Ny241 := Aside0.mk hy241
                clear hy241
                obtain ⟨ji27, hji27⟩ : ∃ j_ : Int, (wrap64 (65 - (x3_1.length : Int))) = j_ := ⟨_, rfl⟩
                replace H : (if 0 ≤ (ji27) then (if y241.length + (ji27 : Int).toNat < 17592186044416 then ((some (y241 ++ List.replicate (ji27 : Int).toNat 0 : List Int)).bind fun y244 => ((canon_Codes.f y244).bind fun bt247 => ((wringerlaw1_Err.f bt247.2).bind fun t251 => (if t251 = 0 then (if (bt247.1.length : Int) = 65 then ((canon_May.f kj3 y244).bind fun t252 => (wringerlaw9_CanonOrder.j2 kj3 x3_1 bt247.1 (!t252))) else (wringerlaw9_CanonOrder.j2 kj3 x3_1 bt247.1 true)) else (wringerlaw9_CanonOrder.j2 kj3 x3_1 bt247.1 true))))) else (none)) else (none)) = some r := by first | (rw [hji27] at H; exact H) | (simp only [hji27] at H ⊢; exact H)
                have hji27w : (IntKind.i64.wrap (65 - (x3_1.length : Int))) = ji27 := (i64_w _).trans hji27
                by_cases c28 : 0 ≤ (ji27)
                · rw [if_pos c28] at H
                  have c28b0 := eq_true c28
                  have c28b1 : decide (0 ≤ (ji27)) = true := decide_eq_true c28
                  clear c28
                  by_cases c29 : y241.length + (ji27 : Int).toNat < 17592186044416
                  · rw [if_pos c29] at H
                    have LMc29 := Aside0.mk c29
                    clear c29
                    obtain ⟨y244, hy244⟩ : ∃ y_ : List Int, y_ = (y241 ++ List.replicate (ji27 : Int).toNat 0) := ⟨_, rfl⟩
                    replace H : ((canon_Codes.f y244).bind fun bt247 => ((wringerlaw1_Err.f bt247.2).bind fun t251 => (if t251 = 0 then (if (bt247.1.length : Int) = 65 then ((canon_May.f kj3 y244).bind fun t252 => (wringerlaw9_CanonOrder.j2 kj3 x3_1 bt247.1 (!t252))) else (wringerlaw9_CanonOrder.j2 kj3 x3_1 bt247.1 true)) else (wringerlaw9_CanonOrder.j2 kj3 x3_1 bt247.1 true)))) = some r := by first | (rw [hy244]; with_reducible exact H) | (have H2_ := (Option.bind_some _ _).symm.trans H; rw [hy244]; with_reducible exact H2_) | (have H2_ := (Option.bind_some _ _).symm.trans H; with_reducible exact H2_) | with_reducible exact H | (rw [hy244]; exact H) | exact H
                    have Ny244 := Aside0.mk hy244
                    clear hy244
                    replace H := Option.bind_eq_some_iff.mp H
                    obtain ⟨⟨t247, t248⟩, A300, H⟩ := H
                    replace H : ((wringerlaw1_Err.f t248).bind fun t251 => (if t251 = 0 then (if (t247.length : Int) = 65 then ((canon_May.f kj3 y244).bind fun t252 => (wringerlaw9_CanonOrder.j2 kj3 x3_1 t247 (!t252))) else (wringerlaw9_CanonOrder.j2 kj3 x3_1 t247 true)) else (wringerlaw9_CanonOrder.j2 kj3 x3_1 t247 true))) = some r := H
                    have A30 := Aside0.mk A300
                    clear A300
                    have HC31 := Aside0.mk H
                    clear H
                    obtain ⟨Ao32, co32, eo32⟩ := Kd.R_slice HO_3.out
                    subst eo32
                    go_upto_region 13 with (first | ((with_reducible refine gate_dst (N := 55) rfl ?_); (try (refine gate_guard (by rfl) ?_; dsimp only)); refine Kd.R_lit (Kd.int .i64) _ 3 ?hg (N := 55) ?hd (xs := ([] : List Int)) (inner := []) (ok := fun _ => True) (okp := fun _ => True) ?hr ?hp (fun _ hk => hk) trivial (Below.refl _ _) (Nat.le_refl _) (by simp) ?_; (case hd => rfl); (case hg => rfl); (case hr => first | (go_simp; done) | (go_simp; rfl)); (case hp => exact (Reps.none _ _)); intro v239 w33 ho34 hb hg_ hnew_; clear hg_ hnew_; (first | rw [← Ny238.out] at ho34 | (simp only [Int.reduceToNat] at ho34; rw [← Ny238.out] at ho34)); have n0_ := Aside0.mk (Kd.R_elder' (by (with_reducible repeat (first | apply Kd.R_alloc | apply Kd.R_drewN | apply Kd.R_drew)); exact HO_3.out) (Kd.R_base ho34) hb); have n1_ := Aside0.mk (Kd.R_lower (Kd.R_new' ho34 (Kd.R_lt (by (with_reducible repeat (first | apply Kd.R_alloc | apply Kd.R_drewN | apply Kd.R_drew)); exact HO_3.out))) (below_size (by repeat (first | (with_reducible first | exact HB.out | apply below_alloc | apply pw_below_drewN | apply below_drew1) | exact HB.out)))); have n2_ := Aside0.mk (below_step (by repeat (first | (with_reducible first | exact HB.out | apply below_alloc | apply pw_below_drewN | apply below_drew1) | exact HB.out)) hb); clear HO_3; clear HB; have HO_3 := n0_; have HO240 := n1_; have HB := n2_; clear n0_ n1_ n2_; clear hb ho34) | ((with_reducible refine gate_builtin (b := .append) (xs := #[.tmp 55, .tmp 56]) rfl ?_); (try (refine gate_guard (by rfl) ?_; dsimp only)); at_builtin; refine Kd.R_append_rows (Kd.int .i64) (w0 := w) w.heap.size rfl (.tmp 55) (.tmp 56) 22 3 (.int .i64 0) 8 rfl Try.underlying22 info3 rfl (by decide) (by omega) v239 y238 x3_1 _ _ _ (fun k_ => some k_ ≠ (.slice Ao32 x3_1.length co32 : Value).ownBlock) (fun _ => False) rfl rfl ?aO ?aR (fun _ _ h => h) (fun _ h => h.elim) ?aF ?aB ?aS ?aL ?_; (case aR => repeat (first | exact (Kd.R_reads' HO_3.out).2.2 | (with_reducible refine Kd.C_alloc ?_ _) | (with_reducible refine Kd.C_drewN ?_ _) | (with_reducible refine Kd.C_drew ?_))); (case aB => exact (by repeat (first | (with_reducible first | exact HB.out | apply below_alloc | apply pw_below_drewN | apply below_drew1) | exact HB.out))); (case aF => exact (fun k_ hk => Kd.fresh' (Kd.R_lt (by (with_reducible repeat (first | apply Kd.R_alloc | apply Kd.R_drewN | apply Kd.R_drew)); exact HO_3.out)) k_ hk)); (case aO => exact (by (with_reducible repeat (first | apply Kd.R_alloc | apply Kd.R_drewN | apply Kd.R_drew)); exact Kd.R_mono HO240.out (fun _ hk => hk.2))); (case aS => exact (below_size (by repeat (first | (with_reducible first | exact HB.out | apply below_alloc | apply pw_below_drewN | apply below_drew1) | exact HB.out)))); (case aL => have := LMc26.out; omega); intro v242 w35 ho hb hg hat; rw [← Ny241.out] at ho; have n0_ := Aside0.mk (Kd.R_after (ok := (fun _ => True)) (by (with_reducible repeat (first | apply Kd.R_alloc | apply Kd.R_drewN | apply Kd.R_drew)); exact HO_3.out) hg hat); have n1_ := Aside0.mk (hb); have n2_ := Aside0.mk (ho); clear HO_3; clear HB; clear HO240; have HO_3 := n0_; have HB := n1_; have HO243 := n2_; clear n0_ n1_ n2_; clear ho hb hg hat) | (at_builtin; refine Kd.R_append_zeros (Kd.int .i64) (w0 := w) w.heap.size rfl (.tmp 57) (.tmp 60) 22 3 3 (.int .i64 0) 8 rfl Try.underlying22 Try.underlying3 info3 rfl (by decide) (by omega) v242 y241 0 (ji27 : Int) (fun k_ => some k_ ≠ (.slice Ao32 x3_1.length co32 : Value).ownBlock) rfl rfl rfl ?aF ?aO (of_decide_eq_true (by first | (with_reducible assumption) | assumption)) ?aB ?aS ?aL ?_; (case aB => exact (by repeat (first | (with_reducible first | exact HB.out | apply below_alloc | apply pw_below_drewN | apply below_drew1) | exact HB.out))); (case aF => exact (fun k_ hk => Kd.fresh' (Kd.R_lt (by (with_reducible repeat (first | apply Kd.R_alloc | apply Kd.R_drewN | apply Kd.R_drew)); exact HO_3.out)) k_ hk)); (case aO => exact (by (with_reducible repeat (first | apply Kd.R_alloc | apply Kd.R_drewN | apply Kd.R_drew)); exact HO243.out)); (case aS => exact (below_size (by repeat (first | (with_reducible first | exact HB.out | apply below_alloc | apply pw_below_drewN | apply below_drew1) | exact HB.out)))); (case aL => have := LMc29.out; omega); intro v245 w36 ho hb hg hat; rw [← Ny244.out] at ho; have n0_ := Aside0.mk (Kd.R_after (ok := (fun _ => True)) (by (with_reducible repeat (first | apply Kd.R_alloc | apply Kd.R_drewN | apply Kd.R_drew)); exact HO_3.out) hg hat); have n1_ := Aside0.mk (hb); have n2_ := Aside0.mk (ho); clear HO_3; clear HB; clear HO243; have HO_3 := n0_; have HB := n1_; have HO246 := n2_; clear n0_ n1_ n2_; clear ho hb hg hat; obtain ⟨Ao37, co37, eo37⟩ := Kd.R_slice HO246.out; subst eo37) | ((with_reducible refine gate_callee (f := 9) rfl ?_); refine goesL_ (some 64) rfl rfl Try.func9 (by kernel_rfl) rfl #[.slice Ao37 y244.length co37] rfl (by (try simp only [List.map_toArray, List.map_cons, List.map_nil]); first | done | rfl | (simp only [List.length_drop, List.length_take]; rfl)) ?_; (with_reducible refine (canon_Codes.calls _ _ y244 t247 t248 _ ?side1 ?side2 A30.out).mono ?_); (case side1 => repeat (first | exact (Kd.R_reads' HO246.out).2.2 | (with_reducible refine Kd.C_alloc ?_ _) | (with_reducible refine Kd.C_drewN ?_ _) | (with_reducible refine Kd.C_drew ?_))); (case side2 => exact (Kd.R_reads' HO246.out).2.1); rintro e w38 ⟨v249, rfl, ho0, hb⟩; refine ⟨_, rfl, ?_⟩; have n0_ := Aside0.mk (Kd.R_below (by (with_reducible repeat (first | apply Kd.R_alloc | apply Kd.R_drewN | apply Kd.R_drew)); exact HO_3.out) hb); have n1_ := Aside0.mk (Kd.R_below (by (with_reducible repeat (first | apply Kd.R_alloc | apply Kd.R_drewN | apply Kd.R_drew)); exact HO246.out) hb); have n2_ := Aside0.mk (Kd.R_lower ho0 (below_size (by repeat (first | (with_reducible first | exact HB.out | apply below_alloc | apply pw_below_drewN | apply below_drew1) | exact HB.out)))); have n3_ := Aside0.mk (below_step (by repeat (first | (with_reducible first | exact HB.out | apply below_alloc | apply pw_below_drewN | apply below_drew1) | exact HB.out)) hb); clear HO_3; clear HO246; clear HB; have HO_3 := n0_; have HO246 := n1_; have HO250 := n2_; have HB := n3_; clear n0_ n1_ n2_ n3_; (try clear hb); (try clear hb2); (try clear hk); (try clear hi); (try clear ho0)))
                    (try simp only [Act.put, List.setIfInBounds_toArray, List.set_cons_zero, List.set_cons_succ])
                    go_cut [79] (fun v79 wc => ∃ (kq : Nat) (x79_30 : Bool), v79 = .bool x79_30 ∧ Aside0 (wringerlaw9_CanonOrder.j2 kq x3_1 t247 x79_30 = some r) ∧ Aside0 (kq ≤ kj3) ∧ Aside0 (Kd.R (Kd.int .i64) 3 wc w.heap.size (fun _ => True) (.slice Ao32 x3_1.length co32) x3_1) ∧ Aside0 (Kd.R k40 40 wc w.heap.size (fun _ => True) v249 t247) ∧ Aside0 (Below w.heap.size w wc))
                    case first =>
                      have H := HC31.out
                      clear HC31
                      replace H := Option.bind_eq_some_iff.mp H
                      obtain ⟨t251, A390, H⟩ := H
                      replace H : (if t251 = 0 then (if (t247.length : Int) = 65 then ((canon_May.f kj3 y244).bind fun t252 => (wringerlaw9_CanonOrder.j2 kj3 x3_1 t247 (!t252))) else (wringerlaw9_CanonOrder.j2 kj3 x3_1 t247 true)) else (wringerlaw9_CanonOrder.j2 kj3 x3_1 t247 true)) = some r := H
                      have A39 := Aside0.mk A390
                      clear A390
                      by_cases c40 : t251 = 0
                      · rw [if_pos c40] at H
                        have c40b0 : (t251 == 0) = true := beq_iff_eq.mpr c40
                        have c40b1 : (t251 != 0) = false := bne_eq_false_iff_eq.mpr c40
                        clear c40
                        (first | rw [c40b0] | (simp only [i64_w, i32_w]; rw [c40b0]) | skip)
                        by_cases c41 : (t247.length : Int) = 65
                        · rw [if_pos c41] at H
                          have c41b0 : ((t247.length : Int) == 65) = true := beq_iff_eq.mpr c41
                          have c41b1 : ((t247.length : Int) != 65) = false := bne_eq_false_iff_eq.mpr c41
                          clear c41
                          replace H := Option.bind_eq_some_iff.mp H
                          obtain ⟨t252, A420, H⟩ := H
                          replace H : (wringerlaw9_CanonOrder.j2 kj3 x3_1 t247 (!t252)) = some r := H
                          have A42 := Aside0.mk A420
                          clear A420
                          have H' := Aside0.mk H
                          clear H
                          go_wp2_with (first | ((with_reducible refine gate_callee (f := 14) rfl ?_); refine goesL_ (some 68) rfl rfl Try.func14 (by kernel_rfl) rfl #[.int .i64 t248] rfl (by (try simp only [List.map_toArray, List.map_cons, List.map_nil]); first | done | rfl | (simp only [List.length_drop, List.length_take]; rfl)) ?_; (with_reducible refine (wringerlaw1_Err.calls t248 t251 _ A39.out).mono ?_); rintro e w' ⟨rfl, ⟨nd, rfl⟩⟩; refine ⟨_, rfl, ?_⟩; obtain ⟨Ao43, co43, eo43⟩ := Kd.R_slice HO250.out; subst eo43) | (go_at_call 11; (with_reducible refine (canon_May.calls kj3 _ _ y244 t252 _ ?side1 ?side2 A42.out).mono ?_); (case side1 => repeat (first | exact (Kd.R_reads' HO246.out).2.2 | (with_reducible refine Kd.C_alloc ?_ _) | (with_reducible refine Kd.C_drewN ?_ _) | (with_reducible refine Kd.C_drew ?_))); (case side2 => exact (Kd.R_reads' HO246.out).2.1); rintro e w' ⟨rfl, ⟨nd, rfl⟩⟩))
                          go_meet
                          case rel => exact ⟨_, (!t252), (by first | rfl | (simp; done) | (simp [*]; done)), H', ⟨by have := HK1.out; have := HJ3.out; first | omega | exact Nat.le_refl _⟩, ⟨by (with_reducible repeat (first | apply Kd.R_alloc | apply Kd.R_drewN | apply Kd.R_drew)); exact Kd.R_mono HO_3.out (fun _ hk => trivial)⟩, ⟨by (with_reducible repeat (first | apply Kd.R_alloc | apply Kd.R_drewN | apply Kd.R_drew)); exact HO250.out⟩, ⟨by repeat (first | (with_reducible first | exact HB.out | apply below_alloc | apply pw_below_drewN | apply below_drew1) | exact HB.out)⟩⟩
                        · rw [if_neg c41] at H
                          have c41b0 : ((t247.length : Int) == 65) = false := beq_eq_false_iff_ne.mpr c41
                          have c41b1 : ((t247.length : Int) != 65) = true := bne_iff_ne.mpr c41
                          have H' := Aside0.mk H
                          clear H
                          go_wp2_with (first | ((with_reducible refine gate_callee (f := 14) rfl ?_); refine goesL_ (some 68) rfl rfl Try.func14 (by kernel_rfl) rfl #[.int .i64 t248] rfl (by (try simp only [List.map_toArray, List.map_cons, List.map_nil]); first | done | rfl | (simp only [List.length_drop, List.length_take]; rfl)) ?_; (with_reducible refine (wringerlaw1_Err.calls t248 t251 _ A39.out).mono ?_); rintro e w' ⟨rfl, ⟨nd, rfl⟩⟩; refine ⟨_, rfl, ?_⟩; obtain ⟨Ao44, co44, eo44⟩ := Kd.R_slice HO250.out; subst eo44))
                          go_meet
                          case rel => exact ⟨_, (true), (by first | rfl | (simp; done) | (simp [*]; done)), H', ⟨by have := HK1.out; have := HJ3.out; first | omega | exact Nat.le_refl _⟩, ⟨by (with_reducible repeat (first | apply Kd.R_alloc | apply Kd.R_drewN | apply Kd.R_drew)); exact Kd.R_mono HO_3.out (fun _ hk => trivial)⟩, ⟨by (with_reducible repeat (first | apply Kd.R_alloc | apply Kd.R_drewN | apply Kd.R_drew)); exact HO250.out⟩, ⟨by repeat (first | (with_reducible first | exact HB.out | apply below_alloc | apply pw_below_drewN | apply below_drew1) | exact HB.out)⟩⟩
                      · rw [if_neg c40] at H
                        have c40b0 : (t251 == 0) = false := beq_eq_false_iff_ne.mpr c40
                        have c40b1 : (t251 != 0) = true := bne_iff_ne.mpr c40
                        (first | rw [c40b0] | (simp only [i64_w, i32_w]; rw [c40b0]) | skip)
                        have H' := Aside0.mk H
                        clear H
                        go_wp2_with (first | ((with_reducible refine gate_callee (f := 14) rfl ?_); refine goesL_ (some 68) rfl rfl Try.func14 (by kernel_rfl) rfl #[.int .i64 t248] rfl (by (try simp only [List.map_toArray, List.map_cons, List.map_nil]); first | done | rfl | (simp only [List.length_drop, List.length_take]; rfl)) ?_; (with_reducible refine (wringerlaw1_Err.calls t248 t251 _ A39.out).mono ?_); rintro e w' ⟨rfl, ⟨nd, rfl⟩⟩; refine ⟨_, rfl, ?_⟩))
                        go_meet
                        case rel => exact ⟨_, (true), (by first | rfl | (simp; done) | (simp [*]; done)), H', ⟨by have := HK1.out; have := HJ3.out; first | omega | exact Nat.le_refl _⟩, ⟨by (with_reducible repeat (first | apply Kd.R_alloc | apply Kd.R_drewN | apply Kd.R_drew)); exact Kd.R_mono HO_3.out (fun _ hk => trivial)⟩, ⟨by (with_reducible repeat (first | apply Kd.R_alloc | apply Kd.R_drewN | apply Kd.R_drew)); exact HO250.out⟩, ⟨by repeat (first | (with_reducible first | exact HB.out | apply below_alloc | apply pw_below_drewN | apply below_drew1) | exact HB.out)⟩⟩
                    case rest =>
                      clear HC31
                      try clear c1
                      try clear p1
                      try clear q1
                      try clear hx1
                      try clear hf1
                      try clear c2
                      try clear p2
                      try clear q2
                      try clear hx2
                      try clear c4
                      try clear c5
                      try clear c5b0
                      try clear c6
                      try clear p6
                      try clear c7
                      try clear c8
                      try clear c8b0
                      try clear c9
                      try clear c9b0
                      try clear c10
                      try clear c10b0
                      try clear c10b1
                      try clear c10b2
                      try clear c12
                      try clear c12b0
                      try clear c13
                      try clear c13b0
                      try clear c14
                      try clear c14b0
                      try clear p15
                      try clear q15
                      try clear hx15
                      try clear hf15
                      try clear c16
                      try clear c22
                      try clear c22b0
                      try clear c22b1
                      try clear p22
                      try clear q22
                      try clear hx22
                      try clear p23
                      try clear q23
                      try clear hx23
                      try clear c26
                      try clear c28
                      try clear c28b0
                      try clear c28b1
                      try clear c29
                      try clear c40
                      try clear c40b0
                      try clear c40b1
                      try clear c41
                      try clear c41b0
                      try clear c41b1
                      try clear hx15_0
                      try clear hx229_0
                      try clear hx230_0
                      try clear hx231_0
                      try clear hx233_0
                      try clear p15
                      try clear p2
                      try clear p229
                      try clear p230
                      try clear p231
                      try clear p233
                      try clear q15
                      try clear q229
                      try clear q230
                      try clear q231
                      try clear q233
                      obtain ⟨kq, x79_30, rfl, HA, HJ30, HO_3, HO_7, HB⟩ := hcut
                      cases kq with
                      | zero => exact absurd HA.out (by simp [wringerlaw9_CanonOrder.j2])
                      | succ kj30 =>
                        have H := HA.out
                        clear HA
                        simp only [wringerlaw9_CanonOrder.j2] at H
                        by_cases c45 : x79_30 = true
                        · subst c45
                          have H1 : (some false) = some r := by rw [if_pos rfl] at H; exact H
                          clear H
                          have H := H1
                          clear H1
                          obtain rfl := Option.some.inj H
                          go_wp2
                          go_ret
                          exact ⟨by first | rfl | (simp [errW_none, errW_some] <;> rfl) | (simp only [← hji27]; first | rfl | (simp [errW_none, errW_some] <;> rfl)) | (simp [*, errW_none, errW_some] <;> rfl), by repeat (first | (with_reducible first | exact HB.out | apply below_alloc | apply pw_below_drewN | apply below_drew1) | exact HB.out)⟩
                        · replace c45 := Bool.eq_false_iff.mpr c45
                          subst c45
                          have H1 : (wringerlaw9_CanonOrder.l1 kj30 x3_1 t247 (-1) 1) = some r := by rw [if_neg (show ¬ (false = true) by decide)] at H; exact H
                          clear H
                          have H := H1
                          clear H1
                          have H' := Aside0.mk H
                          clear H
                          go_wp2
                          go_loopg [9, 10] kj30 (fun kq v9 v10 w' => ∃ (x9_4 : Int) (x10_4 : Int), v9 = .int .i64 x9_4 ∧ v10 = .int .i64 x10_4 ∧ Aside0 (wringerlaw9_CanonOrder.l1 kq x3_1 t247 x9_4 x10_4 = some r) ∧ Aside0 (kq ≤ kj30) ∧ Aside0 (Kd.R (Kd.int .i64) 3 w' w.heap.size (fun _ => True) (.slice Ao32 x3_1.length co32) x3_1) ∧ Aside0 (Kd.R k40 40 w' w.heap.size (fun _ => True) v249 t247) ∧ Aside0 (Below w.heap.size w w'))
                          case atStart => exact ⟨((-1)), (1), (by first | rfl | (simp; done) | (simp [*]; done)), (by first | rfl | (simp; done) | (simp [*]; done)), H', ⟨Nat.le_refl _⟩, ⟨by (with_reducible repeat (first | apply Kd.R_alloc | apply Kd.R_drewN | apply Kd.R_drew)); exact HO_3.out⟩, ⟨by (with_reducible repeat (first | apply Kd.R_alloc | apply Kd.R_drewN | apply Kd.R_drew)); exact HO_7.out⟩, ⟨by repeat (first | (with_reducible first | exact HB.out | apply below_alloc | apply pw_below_drewN | apply below_drew1) | exact HB.out)⟩⟩
                          case round =>
                            clear H'
                            try clear c1
                            try clear p1
                            try clear q1
                            try clear hx1
                            try clear hf1
                            try clear c2
                            try clear p2
                            try clear q2
                            try clear hx2
                            try clear c4
                            try clear c5
                            try clear c5b0
                            try clear c6
                            try clear p6
                            try clear c7
                            try clear c8
                            try clear c8b0
                            try clear c9
                            try clear c9b0
                            try clear c10
                            try clear c10b0
                            try clear c10b1
                            try clear c10b2
                            try clear c12
                            try clear c12b0
                            try clear c13
                            try clear c13b0
                            try clear c14
                            try clear c14b0
                            try clear p15
                            try clear q15
                            try clear hx15
                            try clear hf15
                            try clear c16
                            try clear c22
                            try clear c22b0
                            try clear c22b1
                            try clear p22
                            try clear q22
                            try clear hx22
                            try clear p23
                            try clear q23
                            try clear hx23
                            try clear c26
                            try clear c28
                            try clear c28b0
                            try clear c28b1
                            try clear c29
                            try clear c40
                            try clear c40b0
                            try clear c40b1
                            try clear c41
                            try clear c41b0
                            try clear c41b1
                            try clear c45
                            try clear hx15_0
                            try clear hx229_0
                            try clear hx230_0
                            try clear hx231_0
                            try clear hx233_0
                            try clear p1
                            try clear p15
                            try clear p2
                            try clear p22
                            try clear p229
                            try clear p23
                            try clear p230
                            try clear p231
                            try clear p233
                            try clear p6
                            try clear q1
                            try clear q15
                            try clear q2
                            try clear q22
                            try clear q229
                            try clear q23
                            try clear q230
                            try clear q231
                            try clear q233
                            obtain ⟨x9_4, x10_4, rfl, rfl, HA, HK4, HO_3, HO_7, HB⟩ := hrel
                            cases gk with
                            | zero => exact absurd HA.out (by simp [wringerlaw9_CanonOrder.l1])
                            | succ k4 =>
                              have H := HA.out
                              clear HA
                              simp only [wringerlaw9_CanonOrder.l1] at H
                              by_cases c46 : x10_4 ≤ 15
                              · rw [if_pos c46] at H
                                have c46b0 : decide (x10_4 ≤ 15) = true := decide_eq_true c46
                                clear c46
                                have H' := Aside0.mk H
                                clear H
                                go_wp2
                                go_loopg [9, 11] k4 (fun kq v9 v11 w' => ∃ (x9_5 : Int) (x11_5 : Int), v9 = .int .i64 x9_5 ∧ v11 = .int .i64 x11_5 ∧ Aside0 (wringerlaw9_CanonOrder.l2 kq x3_1 t247 x9_5 x10_4 x11_5 = some r) ∧ Aside0 (kq ≤ k4) ∧ Aside0 (Kd.R (Kd.int .i64) 3 w' w.heap.size (fun _ => True) (.slice Ao32 x3_1.length co32) x3_1) ∧ Aside0 (Kd.R k40 40 w' w.heap.size (fun _ => True) v249 t247) ∧ Aside0 (Below w.heap.size w w'))
                                case atStart => exact ⟨(x9_4), (0), (by first | rfl | (simp; done) | (simp [*]; done)), (by first | rfl | (simp; done) | (simp [*]; done)), H', ⟨Nat.le_refl _⟩, ⟨by (with_reducible repeat (first | apply Kd.R_alloc | apply Kd.R_drewN | apply Kd.R_drew)); exact HO_3.out⟩, ⟨by (with_reducible repeat (first | apply Kd.R_alloc | apply Kd.R_drewN | apply Kd.R_drew)); exact HO_7.out⟩, ⟨by repeat (first | (with_reducible first | exact HB.out | apply below_alloc | apply pw_below_drewN | apply below_drew1) | exact HB.out)⟩⟩
                                case round =>
                                  clear H'
                                  try clear c1
                                  try clear p1
                                  try clear q1
                                  try clear hx1
                                  try clear hf1
                                  try clear c2
                                  try clear p2
                                  try clear q2
                                  try clear hx2
                                  try clear c4
                                  try clear c5
                                  try clear c5b0
                                  try clear c6
                                  try clear p6
                                  try clear c7
                                  try clear c8
                                  try clear c8b0
                                  try clear c9
                                  try clear c9b0
                                  try clear c10
                                  try clear c10b0
                                  try clear c10b1
                                  try clear c10b2
                                  try clear c12
                                  try clear c12b0
                                  try clear c13
                                  try clear c13b0
                                  try clear c14
                                  try clear c14b0
                                  try clear p15
                                  try clear q15
                                  try clear hx15
                                  try clear hf15
                                  try clear c16
                                  try clear c22
                                  try clear c22b0
                                  try clear c22b1
                                  try clear p22
                                  try clear q22
                                  try clear hx22
                                  try clear p23
                                  try clear q23
                                  try clear hx23
                                  try clear c26
                                  try clear c28
                                  try clear c28b0
                                  try clear c28b1
                                  try clear c29
                                  try clear c40
                                  try clear c40b0
                                  try clear c40b1
                                  try clear c41
                                  try clear c41b0
                                  try clear c41b1
                                  try clear c45
                                  try clear c46
                                  try clear c46b0
                                  try clear hx15_0
                                  try clear hx229_0
                                  try clear hx230_0
                                  try clear hx231_0
                                  try clear hx233_0
                                  try clear p1
                                  try clear p15
                                  try clear p2
                                  try clear p22
                                  try clear p229
                                  try clear p23
                                  try clear p230
                                  try clear p231
                                  try clear p233
                                  try clear p6
                                  try clear q1
                                  try clear q15
                                  try clear q2
                                  try clear q22
                                  try clear q229
                                  try clear q23
                                  try clear q230
                                  try clear q231
                                  try clear q233
                                  obtain ⟨x9_5, x11_5, rfl, rfl, HA, HK5, HO_3, HO_7, HB⟩ := hrel
                                  cases gk with
                                  | zero => exact absurd HA.out (by simp [wringerlaw9_CanonOrder.l2])
                                  | succ k5 =>
                                    have H := HA.out
                                    clear HA
                                    simp only [wringerlaw9_CanonOrder.l2] at H
                                    by_cases c47 : x11_5 < (x3_1.length : Int)
                                    · rw [if_pos c47] at H
                                      have c47b0 : decide (x11_5 < (x3_1.length : Int)) = true := decide_eq_true c47
                                      clear c47
                                      by_cases c48 : 0 ≤ x11_5
                                      · rw [if_pos c48] at H
                                        have c48b0 : decide (0 ≤ x11_5) = true := decide_eq_true c48
                                        clear c48
                                        by_cases c49 : (rd x3_1 x11_5) = x10_4
                                        · rw [if_pos c49] at H
                                          have c49b0 : ((rd x3_1 x11_5) == x10_4) = true := beq_iff_eq.mpr c49
                                          have c49b1 : ((rd x3_1 x11_5) != x10_4) = false := bne_eq_false_iff_eq.mpr c49
                                          clear c49
                                          by_cases c50 : x11_5 < (t247.length : Int)
                                          · rw [if_pos c50] at H
                                            have c50b0 : decide (x11_5 < (t247.length : Int)) = true := decide_eq_true c50
                                            clear c50
                                            obtain ⟨ji51, hji51⟩ : ∃ j_ : Int, (wrap64 (15 - x10_4)) = j_ := ⟨_, rfl⟩
                                            replace H : (if 0 ≤ (ji51) then (if (shl .i64 ((rd_T40 t247 x11_5).f0) (ji51)) ≤ x9_5 then (some false) else (if ((rd_T40 t247 x11_5).f1) = x10_4 then (wringerlaw9_CanonOrder.l2 k5 x3_1 t247 (wrap64 ((wrap64 ((shl .i64 ((rd_T40 t247 x11_5).f0) (ji51)) + (shl .i64 1 (ji51)))) - 1)) x10_4 (wrap64 (x11_5 + 1))) else (some false))) else (none)) = some r := by first | (rw [hji51] at H; exact H) | (simp only [hji51] at H ⊢; exact H)
                                            have hji51w : (IntKind.i64.wrap (15 - x10_4)) = ji51 := (i64_w _).trans hji51
                                            by_cases c52 : 0 ≤ (ji51)
                                            · rw [if_pos c52] at H
                                              have c52b0 := eq_true c52
                                              have c52b1 : decide (0 ≤ (ji51)) = true := decide_eq_true c52
                                              clear c52
                                              obtain ⟨ji53, hji53⟩ : ∃ j_ : Int, (shl .i64 ((rd_T40 t247 x11_5).f0) (ji51)) = j_ := ⟨_, rfl⟩
                                              replace H : (if (ji53) ≤ x9_5 then (some false) else (if ((rd_T40 t247 x11_5).f1) = x10_4 then (wringerlaw9_CanonOrder.l2 k5 x3_1 t247 (wrap64 ((wrap64 ((ji53) + (shl .i64 1 (ji51)))) - 1)) x10_4 (wrap64 (x11_5 + 1))) else (some false))) = some r := by first | (rw [hji53] at H; exact H) | (simp only [hji53] at H ⊢; exact H)
                                              have hji53_ : (IntKind.i64.wrap (((rd_T40 t247 x11_5).f0) * 2 ^ min (ji51).toNat 64)) = ji53 := hji53
                                              have hji53z : (ji51) ≤ 64 → (IntKind.i64.wrap (((rd_T40 t247 x11_5).f0) * 2 ^ (ji51).toNat)) = ji53 := shl_small hji53
                                              have hji53y : (wrap64 (((rd_T40 t247 x11_5).f0) * 2 ^ min (ji51).toNat 64)) = ji53 := (i64_w _).symm.trans hji53_
                                              have hji53x : (ji51) ≤ 64 → (wrap64 (((rd_T40 t247 x11_5).f0) * 2 ^ (ji51).toNat)) = ji53 := fun h_ => (i64_w _).symm.trans (hji53z h_)
                                              by_cases c54 : (ji53) ≤ x9_5
                                              · rw [if_pos c54] at H
                                                have c54b0 : decide ((ji53) ≤ x9_5) = true := decide_eq_true c54
                                                clear c54
                                                obtain rfl := Option.some.inj H
                                                have p254 : 0 ≤ (x11_5 : Int) := of_decide_eq_true (by first | (with_reducible assumption) | assumption)
                                                have q254 : x11_5 < (x3_1.length : Int) := of_decide_eq_true (by first | (with_reducible assumption) | assumption)
                                                obtain ⟨ad254, e254, hx254_0⟩ := Kd.at_int (Kd.R_reads' HO_3.out).2.2 x11_5 p254 q254
                                                cases e254
                                                replace p254 := eq_true p254
                                                replace q254 := eq_true q254
                                                obtain ⟨Ao55, co55, eo55⟩ := Kd.R_slice HO_7.out
                                                subst eo55
                                                have p255 : 0 ≤ (x11_5 : Int) := of_decide_eq_true (by first | (with_reducible assumption) | assumption)
                                                have q255 : x11_5 < (t247.length : Int) := of_decide_eq_true (by first | (with_reducible assumption) | assumption)
                                                obtain ⟨ad255, e255, hx255_0, hx255_1⟩ := at_T40 (Kd.R_reads' HO_7.out).2.2 x11_5 p255 q255
                                                cases e255
                                                replace p255 := eq_true p255
                                                replace q255 := eq_true q255
                                                go_wp2
                                                go_ret
                                                exact ⟨by first | rfl | (simp [errW_none, errW_some] <;> rfl) | (simp only [← hji27, ← hji51, ← hji53]; first | rfl | (simp [errW_none, errW_some] <;> rfl)) | (simp [*, errW_none, errW_some] <;> rfl), by repeat (first | (with_reducible first | exact HB.out | apply below_alloc | apply pw_below_drewN | apply below_drew1) | exact HB.out)⟩
                                              · rw [if_neg c54] at H
                                                have c54b0 : decide ((ji53) ≤ x9_5) = false := decide_eq_false c54
                                                clear c54
                                                by_cases c56 : ((rd_T40 t247 x11_5).f1) = x10_4
                                                · rw [if_pos c56] at H
                                                  have c56b0 : (((rd_T40 t247 x11_5).f1) == x10_4) = true := beq_iff_eq.mpr c56
                                                  have c56b1 : (((rd_T40 t247 x11_5).f1) != x10_4) = false := bne_eq_false_iff_eq.mpr c56
                                                  clear c56
                                                  have c57b0 := eq_true (of_decide_eq_true (by first | (with_reducible assumption) | assumption) : 0 ≤ (ji51))
                                                  obtain ⟨ji58, hji58⟩ : ∃ j_ : Int, (shl .i64 1 (ji51)) = j_ := ⟨_, rfl⟩
                                                  replace H : (wringerlaw9_CanonOrder.l2 k5 x3_1 t247 (wrap64 ((wrap64 ((ji53) + (ji58))) - 1)) x10_4 (wrap64 (x11_5 + 1))) = some r := by first | (rw [hji58] at H; exact H) | (simp only [hji58] at H ⊢; exact H)
                                                  have hji58_ : (IntKind.i64.wrap (1 * 2 ^ min (ji51).toNat 64)) = ji58 := hji58
                                                  have hji58z : (ji51) ≤ 64 → (IntKind.i64.wrap (1 * 2 ^ (ji51).toNat)) = ji58 := shl_small hji58
                                                  have hji58u : (IntKind.i64.wrap (2 ^ min (ji51).toNat 64)) = ji58 := by have h_ := hji58_; rw [Int.one_mul] at h_; exact h_
                                                  have hji58v : (ji51) ≤ 64 → (IntKind.i64.wrap (2 ^ (ji51).toNat)) = ji58 := fun hle_ => by have h_ := hji58z hle_; rw [Int.one_mul] at h_; exact h_
                                                  have hji58y : (wrap64 (1 * 2 ^ min (ji51).toNat 64)) = ji58 := (i64_w _).symm.trans hji58_
                                                  have hji58x : (ji51) ≤ 64 → (wrap64 (1 * 2 ^ (ji51).toNat)) = ji58 := fun h_ => (i64_w _).symm.trans (hji58z h_)
                                                  have H' := Aside0.mk H
                                                  clear H
                                                  have p254 : 0 ≤ (x11_5 : Int) := of_decide_eq_true (by first | (with_reducible assumption) | assumption)
                                                  have q254 : x11_5 < (x3_1.length : Int) := of_decide_eq_true (by first | (with_reducible assumption) | assumption)
                                                  obtain ⟨ad254, e254, hx254_0⟩ := Kd.at_int (Kd.R_reads' HO_3.out).2.2 x11_5 p254 q254
                                                  cases e254
                                                  replace p254 := eq_true p254
                                                  replace q254 := eq_true q254
                                                  obtain ⟨Ao59, co59, eo59⟩ := Kd.R_slice HO_7.out
                                                  subst eo59
                                                  have p255 : 0 ≤ (x11_5 : Int) := of_decide_eq_true (by first | (with_reducible assumption) | assumption)
                                                  have q255 : x11_5 < (t247.length : Int) := of_decide_eq_true (by first | (with_reducible assumption) | assumption)
                                                  obtain ⟨ad255, e255, hx255_0, hx255_1⟩ := at_T40 (Kd.R_reads' HO_7.out).2.2 x11_5 p255 q255
                                                  cases e255
                                                  replace p255 := eq_true p255
                                                  replace q255 := eq_true q255
                                                  have p256 : 0 ≤ (x11_5 : Int) := of_decide_eq_true (by first | (with_reducible assumption) | assumption)
                                                  have q256 : x11_5 < (t247.length : Int) := of_decide_eq_true (by first | (with_reducible assumption) | assumption)
                                                  obtain ⟨ad256, e256, hx256_0, hx256_1⟩ := at_T40 (Kd.R_reads' HO_7.out).2.2 x11_5 p256 q256
                                                  obtain rfl : ad255 = ad256 := (by injection e256)
                                                  replace p256 := eq_true p256
                                                  replace q256 := eq_true q256
                                                  go_wp2
                                                  go_roundg k5
                                                  case measure => have := HK1.out; have := HJ3.out; have := HJ30.out; have := HK4.out; have := HK5.out; omega
                                                  case rel => exact ⟨(wrap64 ((wrap64 ((ji53) + (ji58))) - 1)), (wrap64 (x11_5 + 1)), (by first | rfl | (simp; done) | (simp only [← hji53, ← hji58] <;> (first | rfl | simp)) | (simp [*]; done)), (by first | rfl | (simp; done) | (simp [*]; done)), H', ⟨by have := HK1.out; have := HJ3.out; have := HJ30.out; have := HK4.out; have := HK5.out; omega⟩, ⟨by (with_reducible repeat (first | apply Kd.R_alloc | apply Kd.R_drewN | apply Kd.R_drew)); exact HO_3.out⟩, ⟨by (with_reducible repeat (first | apply Kd.R_alloc | apply Kd.R_drewN | apply Kd.R_drew)); exact HO_7.out⟩, ⟨by repeat (first | (with_reducible first | exact HB.out | apply below_alloc | apply pw_below_drewN | apply below_drew1) | exact HB.out)⟩⟩
                                                · rw [if_neg c56] at H
                                                  have c56b0 : (((rd_T40 t247 x11_5).f1) == x10_4) = false := beq_eq_false_iff_ne.mpr c56
                                                  have c56b1 : (((rd_T40 t247 x11_5).f1) != x10_4) = true := bne_iff_ne.mpr c56
                                                  obtain rfl := Option.some.inj H
                                                  have p254 : 0 ≤ (x11_5 : Int) := of_decide_eq_true (by first | (with_reducible assumption) | assumption)
                                                  have q254 : x11_5 < (x3_1.length : Int) := of_decide_eq_true (by first | (with_reducible assumption) | assumption)
                                                  obtain ⟨ad254, e254, hx254_0⟩ := Kd.at_int (Kd.R_reads' HO_3.out).2.2 x11_5 p254 q254
                                                  cases e254
                                                  replace p254 := eq_true p254
                                                  replace q254 := eq_true q254
                                                  obtain ⟨Ao60, co60, eo60⟩ := Kd.R_slice HO_7.out
                                                  subst eo60
                                                  have p255 : 0 ≤ (x11_5 : Int) := of_decide_eq_true (by first | (with_reducible assumption) | assumption)
                                                  have q255 : x11_5 < (t247.length : Int) := of_decide_eq_true (by first | (with_reducible assumption) | assumption)
                                                  obtain ⟨ad255, e255, hx255_0, hx255_1⟩ := at_T40 (Kd.R_reads' HO_7.out).2.2 x11_5 p255 q255
                                                  cases e255
                                                  replace p255 := eq_true p255
                                                  replace q255 := eq_true q255
                                                  have p256 : 0 ≤ (x11_5 : Int) := of_decide_eq_true (by first | (with_reducible assumption) | assumption)
                                                  have q256 : x11_5 < (t247.length : Int) := of_decide_eq_true (by first | (with_reducible assumption) | assumption)
                                                  obtain ⟨ad256, e256, hx256_0, hx256_1⟩ := at_T40 (Kd.R_reads' HO_7.out).2.2 x11_5 p256 q256
                                                  obtain rfl : ad255 = ad256 := (by injection e256)
                                                  replace p256 := eq_true p256
                                                  replace q256 := eq_true q256
                                                  go_wp2
                                                  go_ret
                                                  exact ⟨by first | rfl | (simp [errW_none, errW_some] <;> rfl) | (simp only [← hji27, ← hji51, ← hji53]; first | rfl | (simp [errW_none, errW_some] <;> rfl)) | (simp [*, errW_none, errW_some] <;> rfl), by repeat (first | (with_reducible first | exact HB.out | apply below_alloc | apply pw_below_drewN | apply below_drew1) | exact HB.out)⟩
                                            · rw [if_neg c52] at H
                                              exact absurd H (by simp)
                                          · rw [if_neg c50] at H
                                            exact absurd H (by simp)
                                        · rw [if_neg c49] at H
                                          have c49b0 : ((rd x3_1 x11_5) == x10_4) = false := beq_eq_false_iff_ne.mpr c49
                                          have c49b1 : ((rd x3_1 x11_5) != x10_4) = true := bne_iff_ne.mpr c49
                                          have H' := Aside0.mk H
                                          clear H
                                          have p254 : 0 ≤ (x11_5 : Int) := of_decide_eq_true (by first | (with_reducible assumption) | assumption)
                                          have q254 : x11_5 < (x3_1.length : Int) := of_decide_eq_true (by first | (with_reducible assumption) | assumption)
                                          obtain ⟨ad254, e254, hx254_0⟩ := Kd.at_int (Kd.R_reads' HO_3.out).2.2 x11_5 p254 q254
                                          cases e254
                                          replace p254 := eq_true p254
                                          replace q254 := eq_true q254
                                          go_wp2
                                          go_roundg k5
                                          case measure => have := HK1.out; have := HJ3.out; have := HJ30.out; have := HK4.out; have := HK5.out; omega
                                          case rel => exact ⟨(x9_5), (wrap64 (x11_5 + 1)), (by first | rfl | (simp; done) | (simp [*]; done)), (by first | rfl | (simp; done) | (simp [*]; done)), H', ⟨by have := HK1.out; have := HJ3.out; have := HJ30.out; have := HK4.out; have := HK5.out; omega⟩, ⟨by (with_reducible repeat (first | apply Kd.R_alloc | apply Kd.R_drewN | apply Kd.R_drew)); exact HO_3.out⟩, ⟨by (with_reducible repeat (first | apply Kd.R_alloc | apply Kd.R_drewN | apply Kd.R_drew)); exact HO_7.out⟩, ⟨by repeat (first | (with_reducible first | exact HB.out | apply below_alloc | apply pw_below_drewN | apply below_drew1) | exact HB.out)⟩⟩
                                      · rw [if_neg c48] at H
                                        exact absurd H (by simp)
                                    · rw [if_neg c47] at H
                                      have c47b0 : decide (x11_5 < (x3_1.length : Int)) = false := decide_eq_false c47
                                      clear c47
                                      have H' := Aside0.mk H
                                      clear H
                                      go_wp2
                                      go_roundg k5
                                      case measure => have := HK1.out; have := HJ3.out; have := HJ30.out; have := HK4.out; have := HK5.out; omega
                                      case rel => exact ⟨(x9_5), (wrap64 (x10_4 + 1)), (by first | rfl | (simp; done) | (simp [*]; done)), (by first | rfl | (simp; done) | (simp [*]; done)), H', ⟨by have := HK1.out; have := HJ3.out; have := HJ30.out; have := HK4.out; have := HK5.out; omega⟩, ⟨by (with_reducible repeat (first | apply Kd.R_alloc | apply Kd.R_drewN | apply Kd.R_drew)); exact HO_3.out⟩, ⟨by (with_reducible repeat (first | apply Kd.R_alloc | apply Kd.R_drewN | apply Kd.R_drew)); exact HO_7.out⟩, ⟨by repeat (first | (with_reducible first | exact HB.out | apply below_alloc | apply pw_below_drewN | apply below_drew1) | exact HB.out)⟩⟩
                              · rw [if_neg c46] at H
                                have c46b0 : decide (x10_4 ≤ 15) = false := decide_eq_false c46
                                clear c46
                                by_cases c61 : x9_4 = 32767
                                · rw [if_pos c61] at H
                                  have c61b0 : (x9_4 == 32767) = true := beq_iff_eq.mpr c61
                                  have c61b1 : (x9_4 != 32767) = false := bne_eq_false_iff_eq.mpr c61
                                  clear c61
                                  replace H := Option.bind_eq_some_iff.mp H
                                  obtain ⟨t253, A620, H⟩ := H
                                  replace H : (some t253) = some r := H
                                  have A62 := Aside0.mk A620
                                  clear A620
                                  obtain rfl := Option.some.inj H
                                  go_wp2_with (first | (go_at_call 8; (with_reducible refine (wringerlaw9_awake.calls k4  t253 _ A62.out).mono ?_); rintro e w63 ⟨rfl, hb⟩; have n0_ := Aside0.mk (Kd.R_below (by (with_reducible repeat (first | apply Kd.R_alloc | apply Kd.R_drewN | apply Kd.R_drew)); exact HO_3.out) hb); have n1_ := Aside0.mk (Kd.R_below (by (with_reducible repeat (first | apply Kd.R_alloc | apply Kd.R_drewN | apply Kd.R_drew)); exact HO_7.out) hb); have n2_ := Aside0.mk (below_step (by repeat (first | (with_reducible first | exact HB.out | apply below_alloc | apply pw_below_drewN | apply below_drew1) | exact HB.out)) hb); clear HO_3; clear HO_7; clear HB; have HO_3 := n0_; have HO_7 := n1_; have HB := n2_; clear n0_ n1_ n2_; (try clear hb); (try clear hb2); (try clear hk); (try clear hi)))
                                  go_ret
                                  exact ⟨by first | rfl | (simp [errW_none, errW_some] <;> rfl) | (simp only [← hji27]; first | rfl | (simp [errW_none, errW_some] <;> rfl)) | (simp [*, errW_none, errW_some] <;> rfl), by repeat (first | (with_reducible first | exact HB.out | apply below_alloc | apply pw_below_drewN | apply below_drew1) | exact HB.out)⟩
                                · rw [if_neg c61] at H
                                  have c61b0 : (x9_4 == 32767) = false := beq_eq_false_iff_ne.mpr c61
                                  have c61b1 : (x9_4 != 32767) = true := bne_iff_ne.mpr c61
                                  obtain rfl := Option.some.inj H
                                  go_wp2
                                  go_ret
                                  exact ⟨by first | rfl | (simp [errW_none, errW_some] <;> rfl) | (simp only [← hji27]; first | rfl | (simp [errW_none, errW_some] <;> rfl)) | (simp [*, errW_none, errW_some] <;> rfl), by repeat (first | (with_reducible first | exact HB.out | apply below_alloc | apply pw_below_drewN | apply below_drew1) | exact HB.out)⟩
                  · rw [if_neg c29] at H
                    exact absurd H (by simp)
                · rw [if_neg c28] at H
                  exact absurd H (by simp)
              · rw [if_neg c26] at H
                exact absurd H (by simp)

/-- THE ONE PURE STATEMENT of wringerlaw9_CanonOrder: yours. -/
def wringerlaw9_CanonOrder.Pure : Prop := ∀ (l0 : List Int), l0.length ≤ maxLen → l0.length * 1 ≤ 140737488351232 → (∀ x ∈ l0, (Lit.int .u8 x).wf = true) → ∃ k, wringerlaw9_CanonOrder.f k l0 = some true
theorem wringerlaw9_CanonOrder.walk (P : wringerlaw9_CanonOrder.Pure) (a0 : Option Addr) (len0 cap0 : Nat) (z0 : List Int) (w : World) (w0 : (a0 = none ∧ len0 = 0 ∧ cap0 = 0 ∧ z0 = []) ∨ ∃ x, a0 = some x ∧ len0 ≤ cap0 ∧ cap0 ≤ maxLen ∧ z0.length = cap0 ∧ (∀ i, i < z0.length → w.cell? (x.add i) = some (.int .u8 (z0.getD i 0))) ∧ ∀ n ∈ z0, (Lit.int .u8 n).wf = true) (y0 : len0 * 1 ≤ 140737488351232) :
    Calls Try.prog 6 #[.slice a0 len0 cap0] w fun e w' => e = .returned (.bool true) ∧ Below w.heap.size w w' := by
  obtain ⟨l0, rfl, hr0, hm0, hw0, hc0⟩ := ReadsInt.ofRowC w0
  obtain ⟨k, h⟩ := P l0 hm0 y0 hw0
  refine (wringerlaw9_CanonOrder.calls k _ _ l0 true w (Kd.C_of_reads (d := (0 : Int)) (h1 := fun _ => rfl) hr0) hc0 h).mono ?_
  rintro e w' ⟨rfl, hd⟩
  exact ⟨rfl, hd⟩

end Go.Proofs.Ytkdmamffbhlbgaa.PA

-- ---- Uk
/- The document's codes: what the print's functions come to. No program in sight. -/
namespace Go.Proofs.Ytkdmamffbhlbgaa.PA
set_option linter.unusedVariables false
set_option linter.unusedSimpArgs false
open Go.RowKit Go.Proofs.YtkdmamffbhlbgaaW.PrintWords Go.Proofs.YtkdmamffbhlbgaaW.PrintLast Go.Proofs.YtkdmamffbhlbgaaW.PrintMore Dp Cd

abbrev CodeS := S40
abbrev zC : CodeS := z40
theorem awake9 : Ev (fun k => wringerlaw9_awake.f k) true := Ev.of wringerlaw9_awake.mono (k := 400) (by kernel_rfl)

/-- Those that are told by now: all shorter ones, and of this length those ahead of place i. -/
def dn (l : List Int) (n i : Nat) : List Nat := ((List.range' 1 (n - 1)).flatMap fun m : Nat => (List.range l.length).filter fun j => l.getD j 0 == (m : Int)) ++ (List.range i).filter fun j => l.getD j 0 == (n : Int)
theorem dn_first (l : List Int) : dn l 1 0 = [] := by simp [dn]
theorem dn_step (l : List Int) (n i : Nat) : dn l n (i + 1) = dn l n i ++ (if l.getD i 0 = (n : Int) then [i] else []) := by
  unfold dn
  rw [List.range_succ, List.filter_append, ← List.append_assoc]
  congr 1
  by_cases h : l.getD i 0 = (n : Int)
  · rw [if_pos h]; simp only [List.filter_cons, List.filter_nil, h]; simp
  · rw [if_neg h]; simp only [List.filter_cons, List.filter_nil]; rw [if_neg (by rw [beq_iff_eq]; exact h)]
theorem dn_next (l : List Int) (n : Nat) (h : 1 ≤ n) : dn l (n + 1) 0 = dn l n l.length := by
  unfold dn
  rw [show n + 1 - 1 = (n - 1) + 1 by omega, List.range'_1_concat, List.flatMap_append]
  simp [show 1 + (n - 1) = n by omega]
theorem dn_last (l : List Int) : dn l 16 0 = ordS l := by unfold dn ordS; simp
theorem dn_sub (l : List Int) (n i : Nat) (h1 : 1 ≤ n) (h2 : n ≤ 15) (hi : i ≤ l.length) : (dn l n i).Sublist (ordS l) := by
  have e : List.range' 1 15 = List.range' 1 (n - 1) ++ (n :: List.range' (n + 1) (15 - n)) := by
    have h3 := List.range'_append_1 (s := 1) (m := n - 1) (n := 15 - (n - 1))
    rw [show n - 1 + (15 - (n - 1)) = 15 by omega] at h3
    rw [← h3, show 15 - (n - 1) = (15 - n) + 1 by omega, List.range'_succ, show 1 + (n - 1) = n by omega]
  unfold dn ordS
  rw [e, List.flatMap_append, List.flatMap_cons]
  refine List.Sublist.append_left ?_ _
  refine List.Sublist.trans ?_ (List.sublist_append_left _ _)
  exact (List.range_sublist.2 hi).filter _
theorem kd_sub (l : List Int) {a b : List Nat} (h : a.Sublist b) : kd l a ≤ kd l b := by
  unfold kd
  induction h with
  | slnil => exact Nat.le_refl _
  | cons x _ ih => rw [List.map_cons, List.sum_cons]; exact Nat.le_trans ih (Nat.le_add_left _ _)
  | cons_cons x _ ih => rw [List.map_cons, List.map_cons, List.sum_cons, List.sum_cons]; omega
theorem cst_zero (l : List Int) (done : List Nat) (hm : ∀ c ∈ done, 1 ≤ l.getD c 0) : (cst l done).2.2 = 0 → (cst l done).2.1 = 0 := by
  have key : ∀ (d : List Nat) (s : List (Int × Int) × (Nat × Nat)), (∀ c ∈ d, 1 ≤ l.getD c 0) → (s.2.2 = 0 → s.2.1 = 0) → (d.foldl (cstep l) s).2.2 = 0 → (d.foldl (cstep l) s).2.1 = 0 := by
    intro d
    induction d with
    | nil => intro s _ h; exact h
    | cons a t ih =>
      intro s hm h
      refine ih _ (fun c hc => hm c (List.mem_cons_of_mem _ hc)) fun h0 => ?_
      have h1 : (nx s.2 (l.getD a 0).toNat).2 = (l.getD a 0).toNat := by unfold nx; split <;> rfl
      have h2 : (nx s.2 (l.getD a 0).toNat).2 = 0 := h0
      have := hm a (by simp)
      omega
  exact key done _ hm (fun _ => rfl)

theorem may_range {l : List Int} (h : mayL l = true) : l.length = 65 ∧ ∀ x ∈ l, 0 ≤ x ∧ x ≤ 15 := by
  unfold mayL at h; rw [decide_eq_true_eq] at h; exact ⟨h.1, h.2.1⟩
theorem shl_pow (x d : Nat) (h : (x + 1) * 2 ^ d ≤ 32768) (hd : d ≤ 15) : shl .i64 (wrap64 ((x : Int) + 1)) (d : Int) = (((x + 1) * 2 ^ d : Nat) : Int) := by
  have h1 : 1 ≤ 2 ^ d := Nat.pow_pos (by decide)
  have h2 : (x + 1) * 1 ≤ (x + 1) * 2 ^ d := Nat.mul_le_mul_left _ h1
  rw [w64 (by omega) (by omega), show ((x : Int) + 1) = ((x + 1 : Nat) : Int) by omega, shl_nat (x + 1) d (by omega) (by omega)]
theorem map_set {α β : Type} (f : α → β) (l : List α) (i : Nat) (a : α) : (l.map f).set i (f a) = (l.set i a).map f := by rw [List.map_set]

/-- One length's round, from a place on. -/
theorem canon_l1 (l : List Int) (h65 : l.length = 65) (hm : mayL l = true) (n : Nat) (h1 : 1 ≤ n) (h15 : n ≤ 15) (R : List CodeS × Int)
    (hnext : Ev (fun k => wringerref7_Canon.l0 k l ((cst l (dn l (n + 1) 0)).1.map codeS) ((cst l (dn l (n + 1) 0)).2.1 : Int) ((cst l (dn l (n + 1) 0)).2.2 : Int) ((n + 1 : Nat) : Int)) R) :
    ∀ (d i : Nat), i + d = 65 → Ev (fun k => wringerref7_Canon.l1 k l ((cst l (dn l n i)).1.map codeS) ((cst l (dn l n i)).2.1 : Int) ((cst l (dn l n i)).2.2 : Int) (n : Int) (i : Int)) R := by
  intro d
  induction d with
  | zero =>
    intro i hi
    have e : i = 65 := by omega
    subst e
    rw [← h65, ← dn_next l n h1]
    refine Ev.step (f := fun k => wringerref7_Canon.l0 k l ((cst l (dn l (n + 1) 0)).1.map codeS) ((cst l (dn l (n + 1) 0)).2.1 : Int) ((cst l (dn l (n + 1) 0)).2.2 : Int) ((n + 1 : Nat) : Int)) (fun k => ?_) hnext
    simp only [wringerref7_Canon.l1]
    rw [if_neg (by omega), w64 (by omega) (by omega)]; rfl
  | succ d ih =>
    intro i hi
    have ih2 := ih (i + 1) (by omega)
    rw [dn_step] at ih2
    by_cases hn : l.getD i 0 = (n : Int)
    · rw [if_pos hn, cst_snoc] at ih2
      have hsub : (dn l n (i + 1)).Sublist (ordS l) := dn_sub l n (i + 1) h1 h15 (by omega)
      rw [dn_step, if_pos hn] at hsub
      have hso := (sorted_ordS l).sublist hsub
      have hmem : ∀ a ∈ dn l n i ++ [i], 1 ≤ l.getD a 0 ∧ l.getD a 0 ≤ 15 := fun a ha => (mem_ordS.1 (hsub.subset ha)).2
      have hso2 := List.pairwise_append.1 hso
      have hinv := cst_inv l (dn l n i) (hso2.1.imp fun {a b} h => by omega) (fun a ha => hmem a (List.mem_append_left _ ha))
      have hle := hinv.2 (n : Int) (fun a ha => by have := hso2.2.2 a ha i (by simp); omega)
      have hkd := kd_sub l hsub
      have hx15 : ∀ x ∈ l, x ≤ 15 := fun x hx => ((may_range hm).2 x hx).2
      rw [kd_all l hx15, kd_append] at hkd
      have hks := ks_le hm
      have hk1 : kd l [i] = 2 ^ (15 - n) := by unfold kd; rw [List.map_cons, List.map_nil, List.sum_cons, List.sum_nil, hn, Int.toNat_natCast, Nat.add_zero]
      have hinv2 := inv_nx (n := n) hinv.1 h1 h15 (by omega)
      have hz := cst_zero l (dn l n i) (fun c hc => (hmem c (List.mem_append_left _ hc)).1)
      obtain ⟨out, hout⟩ : ∃ out, out = (cst l (dn l n i)).1 := ⟨_, rfl⟩
      obtain ⟨st, hst⟩ : ∃ st, st = (cst l (dn l n i)).2 := ⟨_, rfl⟩
      have hol : out.length = 65 := by rw [hout]; exact length_cst l _
      have hcs : cstep l (cst l (dn l n i)) i = (out.set i (((nx st n).1 : Int), (n : Int)), nx st n) := by
        unfold cstep; rw [hn, Int.toNat_natCast, ← hst, ← hout]
        have : (nx st n).2 = n := by unfold nx; split <;> rfl
        rw [this]
      rw [hcs] at ih2
      rw [← hst, ← hout]
      rw [← hst] at hz hle hinv2
      simp only at ih2
      have hn2 : (nx st n).2 = n := by unfold nx; split <;> rfl
      refine Ev.step (f := fun k => wringerref7_Canon.l1 k l ((out.set i (((nx st n).1 : Int), (n : Int))).map codeS) ((nx st n).1 : Int) ((nx st n).2 : Int) (n : Int) ((i + 1 : Nat) : Int)) (fun k => ?_) ih2
      rw [hn2, ← map_set]
      have ew : wrap64 ((i : Int) + 1) = ((i + 1 : Nat) : Int) := by rw [w64 (by omega) (by omega)]; rfl
      simp only [wringerref7_Canon.l1, rd_nat, ew, Int.toNat_natCast, List.length_map]
      clear ih ih2 hsub hso hso2 hinv hmem hx15 ew hcs hnext
      rw [if_pos (by omega), if_pos (by omega), if_pos hn]
      by_cases hs0 : st.2 = 0
      · have hx : (nx st n).1 = 0 := by unfold nx; rw [if_pos hs0]
        rw [if_neg (by omega), if_pos (by omega), hz hs0, hx]; rfl
      · have hx : (nx st n).1 = (st.1 + 1) * 2 ^ (n - st.2) := by unfold nx; rw [if_neg hs0]
        have hb : (nx st n).1 + 1 ≤ 32768 := by
          rcases hinv2 with ⟨h0, _⟩ | ⟨_, _, h2⟩
          · omega
          · have h3 : 1 ≤ 2 ^ (15 - (nx st n).2) := Nat.pow_pos (by decide)
            have h4 : ((nx st n).1 + 1) * 1 ≤ ((nx st n).1 + 1) * 2 ^ (15 - (nx st n).2) := Nat.mul_le_mul_left _ h3
            omega
        have ed : wrap64 ((n : Int) - (st.2 : Int)) = ((n - st.2 : Nat) : Int) := by rw [w64 (by omega) (by omega)]; omega
        have es := shl_pow st.1 (n - st.2) (by rw [← hx]; omega) (by omega)
        rw [if_pos (by omega), ed, es, ← hx]
        rw [if_pos (by omega), if_pos (by omega)]; rfl
    · rw [if_neg hn, List.append_nil] at ih2
      refine Ev.step (f := fun k => wringerref7_Canon.l1 k l ((cst l (dn l n i)).1.map codeS) ((cst l (dn l n i)).2.1 : Int) ((cst l (dn l n i)).2.2 : Int) (n : Int) ((i + 1 : Nat) : Int)) (fun k => ?_) ih2
      simp only [wringerref7_Canon.l1, rd_nat]
      rw [if_pos (by omega), if_pos (by omega), if_neg hn, w64 (by omega) (by omega)]; rfl
theorem canon_l0 (l : List Int) (h65 : l.length = 65) (hm : mayL l = true) : ∀ (d n : Nat), n + d = 16 → 1 ≤ n →
    Ev (fun k => wringerref7_Canon.l0 k l ((cst l (dn l n 0)).1.map codeS) ((cst l (dn l n 0)).2.1 : Int) ((cst l (dn l n 0)).2.2 : Int) (n : Int)) ((codeL l).map codeS, 0) := by
  intro d
  induction d with
  | zero =>
    intro n hn _
    have e : n = 16 := by omega
    subst e
    refine Ev.step (f := fun _ => some ((codeL l).map codeS, 0)) (fun k => ?_) (Ev.now _)
    simp only [wringerref7_Canon.l0]
    rw [if_neg (by omega), dn_last]; rfl
  | succ d ih =>
    intro n hn h1
    refine Ev.step (f := fun k => wringerref7_Canon.l1 k l ((cst l (dn l n 0)).1.map codeS) ((cst l (dn l n 0)).2.1 : Int) ((cst l (dn l n 0)).2.2 : Int) (n : Int) ((0 : Nat) : Int)) (fun k => ?_)
      (canon_l1 l h65 hm n h1 (by omega) _ (ih (n + 1) (by omega) (by omega)) 65 0 (by omega))
    simp only [wringerref7_Canon.l0]
    rw [if_pos (by omega)]; rfl
theorem rcanon_is (l : List Int) : Ev (fun k => wringerref7_Canon.f k l) (codesE l) := by
  unfold wringerref7_Canon.f
  refine Ev.bind (rmay_is l) ?_
  unfold codesE
  cases hm : mayL l with
  | false => exact Ev.ite_neg (by simp) (Ev.ofSome (by rw [if_neg (by simp)]))
  | true =>
    refine Ev.ite_pos rfl (Ev.ite_pos (by decide) ?_)
    rw [if_pos rfl]
    have h65 := (may_range hm).1
    have := canon_l0 l h65 hm 15 1 (by omega) (by omega)
    rw [dn_first] at this
    exact this
theorem samec_l0 (a : List CodeS) (hb : a.length < 1000000) : ∀ (d i : Nat), i + d = a.length → Ev (fun k => wringerref7_SameCodes.l0 k a a (i : Int)) true := by
  intro d
  induction d with
  | zero =>
    intro i hi
    exact Ev.step (f := fun _ => some true) (fun k => by simp only [wringerref7_SameCodes.l0]; rw [if_neg (by omega)]) (Ev.now _)
  | succ d ih =>
    intro i hi
    refine Ev.step (f := fun k => wringerref7_SameCodes.l0 k a a ((i + 1 : Nat) : Int)) (fun k => ?_) (ih (i + 1) (by omega))
    simp only [wringerref7_SameCodes.l0]
    rw [if_pos (by omega), if_pos (by omega), if_pos (by omega), if_neg (by simp), w64 (by omega) (by omega)]; rfl
theorem samec_self (a : List CodeS) (hb : a.length < 1000000) : Ev (fun k => wringerref7_SameCodes.f k a a) true := by
  unfold wringerref7_SameCodes.f
  exact Ev.ite_pos rfl (samec_l0 a hb a.length 0 (by omega))
theorem codesE_len (l : List Int) : (codesE l).1.length ≤ 65 := by
  unfold codesE
  split
  · rw [List.length_map]; exact Nat.le_of_eq (length_cst l _)
  · simp
end Go.Proofs.Ytkdmamffbhlbgaa.PA
