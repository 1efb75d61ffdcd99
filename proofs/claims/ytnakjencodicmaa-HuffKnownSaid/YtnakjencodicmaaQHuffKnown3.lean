/- Part HuffKnown3 of what the layer's laws stand on: Jf, PAx21, PAx23, PAx52, PAx53, PureHuffKnown, LawHuffKnown. Written by a program (merge.py) out of this session's own texts and of what the kit's print wrote over stand-ins (sp.py). Conditions: those that each theorem names. -/
import Derived.Test.YtnakjencodicmaaQHuffKnown2
import Derived.Test.YtnakjencodicmaaQHuffKnown1
import Derived.Test.YtnakjencodicmaaRows
import Derived.WalkKit
import Derived.ProofKit
import Derived.OpenShut
import Derived.ShutString
import Derived.ChangeOld
import Derived.Below
import Derived.SizedLaws
-- ---- Jf
/- huff.Get: the parts of bytes: what the call answers. Conditions: those that each theorem names. -/
namespace Go.Proofs.Ytnakjencodicmaa
set_option maxRecDepth 100000
set_option linter.unusedSimpArgs false
set_option linter.unusedVariables false
open Go.RowKit Go.Proofs.YtnakjencodicmaaW.PrintWords Go.Proofs.YtnakjencodicmaaW.PrintLast Go.Proofs.YtnakjencodicmaaW.PrintMore Mix _root_.Go.Proofs.Ytnakjencodicmaa.Own Bits Hu Dp
attribute [local go_sem] max_int min_int

def flN (ps : List (Nat × Nat)) : List Value := ps.flatMap fun p => [.int .i64 (p.1 : Int), .int .u64 (p.2 : Int)]
theorem flN_snoc (ps : List (Nat × Nat)) (p : Nat × Nat) : flN (ps ++ [p]) = flN ps ++ [.int .i64 (p.1 : Int), .int .u64 (p.2 : Int)] := by simp [flN]
theorem infoPart : (Try.prog.info? 54).map (fun i => (i.zero, i.size, i.bytes)) = some (some (.agg #[.int .i64 0, .int .u64 0]), 2, 16) := by kernel_rfl
/-- What getting parts answers. -/
def GetPost (L : List Int) (s : ByteArray) (n : Int) (w : World) (e : Ending) (w' : World) : Prop :=
  ∃ v, e = .returned (.tuple #[v, .int .i64 (getE L s n).2]) ∧ OwnK w' 54 2 v (getE L s n).1.length (flN (getE L s n).1) ∧ (∀ g, v.ownBlock = some g → w.heap.size ≤ g) ∧ Below w.heap.size w w'
theorem IsMp.ne {w : World} {b : Nat} {F : List (Nat × Nat × Nat)} (h : IsMp w b F) {e : TypeId} {sz n : Nat} {v : Value} {cs : List Value} (k : OwnK w e sz v n cs) : v.ownBlock ≠ some b := by
  intro hv
  obtain ⟨cur, hc⟩ := k.blk b hv
  obtain ⟨es, clock, hb, _⟩ := h
  unfold Blk at hc
  rw [hc] at hb
  cases hb
theorem IsHr.later {w w' : World} {p q b : Nat} {s : ByteArray} {k : Nat} {F : List (Nat × Nat × Nat)} (h : IsHr w p q b s k F) (hb : Below w.heap.size w w') : IsHr w' p q b s k F :=
  ⟨(hb.block p (Blk.lt h.self)).trans h.self, h.rd.later hb, h.mp.later hb⟩

set_option maxHeartbeats 2000000 in
theorem hget_form (A0 : Option Addr) (c0 : Nat) (L : List Int) (s : ByteArray) (n : Int) (w : World) (hr0 : Kd.C (Kd.int .i64) w A0 L.length L) (hc0 : L.length ≤ c0) (hm : mayL L = false) :
    Calls Try.prog 12 #[.string s, .int .i64 n, .slice A0 L.length c0] w (GetPost L s n w) := by
  have HC := kept (CanonH.codes_bad A0 c0 L w hr0 hc0 hm)
  have hg : getE L s n = ([], 3) := by unfold getE; rw [hm]; rfl
  have HG := kept hg
  obtain ⟨l, hl⟩ : ∃ l, l = L.length := ⟨_, rfl⟩
  rw [← hl] at HC ⊢
  clear hr0 hc0 hm hg hl
  go_enter Try.func12, Try.ntmps12
  go_wp2_with fail
  refine HC.out.mono ?_
  rintro e w1 ⟨rfl, hb⟩
  have HB := kept hb
  clear hb
  go_wp2_with fail
  go_ret2
  unfold GetPost
  rw [HG.out]
  exact ⟨_, rfl, OwnK.nil _ _ _, fun g hg => by simp [Value.ownBlock] at hg, HB.out⟩
set_option maxHeartbeats 2000000 in
theorem hget_arg (A0 : Option Addr) (c0 : Nat) (L : List Int) (s : ByteArray) (n : Int) (w : World) (hr0 : Kd.C (Kd.int .i64) w A0 L.length L) (hc0 : L.length ≤ c0) (hm : mayL L = true) (hn : n < 0 ∨ 4096 < n) :
    Calls Try.prog 12 #[.string s, .int .i64 n, .slice A0 L.length c0] w (GetPost L s n w) := by
  have HC := kept (CanonH.codes_ok A0 c0 L w hr0 hc0 hm)
  have hg : getE L s n = ([], 1) := by unfold getE; rw [hm, if_pos rfl, if_pos hn]
  have HG := kept hg
  obtain ⟨l, hl⟩ : ∃ l, l = L.length := ⟨_, rfl⟩
  rw [← hl] at HC ⊢
  clear hr0 hc0 hm hg hl
  by_cases h0 : n < 0
  · have t1 : decide (n < 0) = true := decide_eq_true h0
    clear hn
    go_enter Try.func12, Try.ntmps12
    go_wp2_with fail
    refine HC.out.mono ?_
    rintro e w1 ⟨v, rfl, _, _, hb⟩
    have HB := kept hb
    clear hb
    go_wp2_with fail
    go_ret2
    unfold GetPost
    rw [HG.out]
    exact ⟨_, rfl, OwnK.nil _ _ _, fun g hg => by simp [Value.ownBlock] at hg, HB.out⟩
  · have t1 : decide (n < 0) = false := decide_eq_false h0
    have t2 : decide ((4096 : Int) < n) = true := decide_eq_true (by omega)
    clear hn
    go_enter Try.func12, Try.ntmps12
    go_wp2_with fail
    refine HC.out.mono ?_
    rintro e w1 ⟨v, rfl, _, _, hb⟩
    have HB := kept hb
    clear hb
    go_wp2_with fail
    go_ret2
    unfold GetPost
    rw [HG.out]
    exact ⟨_, rfl, OwnK.nil _ _ _, fun g hg => by simp [Value.ownBlock] at hg, HB.out⟩

set_option maxHeartbeats 16000000 in
theorem hget_code (A0 : Option Addr) (c0 : Nat) (L : List Int) (s : ByteArray) (N : Nat) (w : World) (hr0 : Kd.C (Kd.int .i64) w A0 L.length L) (hc0 : L.length ≤ c0) (hm : mayL L = true) (hN : N ≤ 4096) (hs : s.size ≤ 1000000000000) (hsm : ¬ sm L < 2) :
    Calls Try.prog 12 #[.string s, .int .i64 (N : Int), .slice A0 L.length c0] w (GetPost L s (N : Int) w) := by
  obtain ⟨i0, hi, hz0, hz1, hz2⟩ := CanonH.info_partsE infoPart
  have HC := kept (CanonH.codes_ok A0 c0 L w hr0 hc0 hm)
  have h65 := (Cd.may_range hm).1
  have HM := kept hm
  have HSm := kept hsm
  have t1 : decide ((N : Int) < 0) = false := decide_eq_false (by omega)
  have t2 : decide ((4096 : Int) < (N : Int)) = false := decide_eq_false (by omega)
  have hcl : (Cd.codeL L).length = 65 := Cd.length_cst L _
  have HCl := kept hcl
  have HLen := kept (length_entF h65)
  rw [h65] at HC ⊢
  have hmm := @run_makeMap Try.prog
  clear hr0 hc0 hm h65 hsm hcl
  go_enter Try.func12, Try.ntmps12
  go_wp2_with fail
  refine HC.out.mono ?_
  rintro e w1 ⟨vc, rfl, ho1, hnew1, hb1⟩
  obtain ⟨ac, cc, rfl, hac1, hac2, hac3⟩ := ho1.slice
  obtain ⟨gc, rfl⟩ := hac3 (by decide)
  have HO1 := kept ho1
  have HB1 := kept hb1
  clear ho1 hnew1 hb1 hac1 hac2 hac3
  go_wp2_with fail
  refine (from_calls s w1).mono ?_
  rintro e w2 ⟨q, rfl, hR2, hb2, hq2⟩
  have HO2 := kept (HO1.out.later hb2)
  have HB2 := kept (HB1.out.trans (hb2.mono HB1.out.size))
  have HR2 := kept hR2
  have HQ : Kept (w.heap.size ≤ q) := kept (Nat.le_trans HB1.out.size hq2)
  clear hR2 hb2 hq2
  go_upto_region 7 with fail
  obtain ⟨b, hbe⟩ : ∃ b, b = w2.heap.size := ⟨_, rfl⟩
  obtain ⟨p, hpe⟩ : ∃ p, p = w2.heap.size + 1 := ⟨_, rfl⟩
  generalize hw3 : World.alloc (World.alloc w2 _) _ = w3
  have hB3 : Below w2.heap.size w2 w3 := by rw [← hw3]; exact ((Below.refl _ _).alloc (Nat.le_refl _) _).alloc (by simp) _
  have HH3 : Kept (IsHr w3 p q b s 0 (entF L 0)) := kept (by
    refine ⟨?_, HR2.out.later hB3, ?_⟩
    · rw [← hw3, hpe, hbe]; exact Blk.fresh_at _ _ (by simp) _ _
    · rw [← hw3, hbe, entF_zero]; exact (IsMp.fresh w2).later ((Below.refl _ _).alloc (Nat.le_refl _) _))
  have HO3 := kept (HO2.out.later hB3)
  have HB3 := kept (HB2.out.trans (hB3.mono HB2.out.size))
  have HBp : Kept (w.heap.size ≤ p ∧ w.heap.size ≤ b) := kept (by have := HB2.out.size; omega)
  rw [← hpe, ← hbe]
  clear hbe hpe hw3 hB3 hmm
  go_wp2_with fail
  go_loopw [40] (fun s40 wr => ∃ c : Nat, c ≤ 65 ∧ s40 = .int .i64 (c : Int) ∧ IsHr wr p q b s 0 (entF L c) ∧ OwnK wr 69 2 (.slice (some ⟨gc, 0, none⟩) 65 cc) 65 (CanonH.fl (Cd.codeL L)) ∧ Below w.heap.size w wr) (fun s40 _ => 65 - (intOf s40).toNat)
  case atStart => exact ⟨0, by omega, rfl, HH3.out, HO3.out, HB3.out⟩
  case round =>
    obtain ⟨c, hc, rfl, hH, hO, hB⟩ := hrel
    obtain ⟨wq, rfl⟩ : ∃ wq, wq = wr := ⟨wr, rfl⟩
    have HH := kept hH
    have HO := kept hO
    have HB := kept hB
    clear hH hO hB
    by_cases hlt : c < 65
    · obtain ⟨cb, cn, hcode, hcb, hcn, hee⟩ : ∃ cb cn : Nat, (Cd.codeL L).getD c (0, 0) = ((cb : Int), (cn : Int)) ∧ cb < 32768 ∧ cn ≤ 15 ∧ (cb = cdB L c ∧ cn = cdN L c) := by
        obtain ⟨a1, a2, a3, a4, _⟩ := cd_all HM.out c hlt
        exact ⟨cdB L c, cdN L c, a4, Nat.lt_of_lt_of_le a2 (Nat.pow_le_pow_right (by decide) a1), a1, rfl, rfl⟩
      obtain ⟨f1, f2⟩ := CanonH.fl_at (Cd.codeL L) c (by rw [HCl.out]; exact hlt)
      have eat : Hp.at_ (Cd.codeL L) c = ((cb : Int), (cn : Int)) := hcode
      rw [eat] at f1 f2
      have k0 := HO.out.cell f1
      have k1 := HO.out.cell f2
      have HEe := kept hee
      clear f1 f2 eat hcode hee
      by_cases hpos : 0 < cn
      · have tpos : decide ((0 : Int) < (cn : Int)) = true := decide_eq_true (by omega)
        go_upto_region 11 with fail
        generalize hw4 : World.alloc wq _ = w4
        obtain ⟨gn, hgn⟩ : ∃ gn, gn = wq.heap.size := ⟨_, rfl⟩
        have hal : Below wq.heap.size wq w4 := by rw [← hw4]; exact (Below.refl _ _).alloc (Nat.le_refl _) _
        have hN4 : Blk w4 gn #[.int .i64 (cb : Int), .int .i64 (cn : Int)] 69 := by rw [hgn, ← hw4]; exact Blk.fresh _ _ _
        have HH4 := kept (HH.out.later hal)
        have HO4 := kept (HO.out.later hal)
        have HB4 := kept (HB.out.trans (hal.mono HB.out.size))
        rw [← hgn]
        have e0 := lat_cell (Blk.cell HH4.out.self (i := 1) rfl)
        have e1 := lat_cell (Blk.cell hN4 (i := 0) rfl)
        have e2 := lat_cell (Blk.cell hN4 (i := 1) rfl)
        have hM4 : IsMp w4.drew b (entF L c) := HH4.out.mp
        obtain ⟨w5, hput, hM5, hC5⟩ := hM4.put (fit_entF HM.out (by omega)) cb cn c (by omega) (by omega) (by rw [HEe.out.1, HEe.out.2]; exact new_entF HM.out hlt (by have := HEe.out; omega))
        have hput2 : (Instr.mapUpdate 83 (.map (some b)) (.agg #[.int .i64 (cb : Int), .int .i64 (cn : Int)]) (.int .i64 (c : Int))).run Try.prog w4.drew = .ok () w5 := hput
        have hC45 : Chg (fun x => x = b) w4 w5 := (Chg.drew (fun x => x = b) w4).trans hC5 (fun _ _ h => h)
        have HH5 : Kept (IsHr w5 p q b s 0 (entF L (c + 1))) := kept (by
          refine ⟨hC45.keep HH4.out.self ?_, hC45.keep HH4.out.rd (fun h => HH4.out.bq h.symm), ?_⟩
          · intro h
            obtain ⟨es, clock, hb, _⟩ := HH4.out.mp
            have h2 := HH4.out.self
            unfold Blk at h2
            rw [h, hb] at h2
            cases h2
          · rw [entF_succ, if_pos (by have := HEe.out; omega), ← HEe.out.1, ← HEe.out.2]; exact hM5)
        have HO5 := kept (HO4.out.chg hC45 (fun g hg h => IsMp.ne HH4.out.mp HO4.out (by rw [hg, h])))
        have HB5 := kept (HB4.out.trans (hC45.below HB4.out.size (fun x hx h => by have := HBp.out.2; omega)))
        clear hw4 hgn hal hN4 hM4 hput hM5 hC5 hC45 k0 k1
        refine wp_region_mixL [] [0,1,2,3,4,5] [6] (by kernel_rfl) (by kernel_rfl) ?_
        intro K hK
        simp only [pick, List.filterMap_cons, List.filterMap_nil, List.getElem?_cons_zero, List.getElem?_cons_succ]
        iterate 6 (show wpQuiet _ _ _ _ (_ :: _) _; go_big_quiet_step (fail))
        refine wpQuiet_nil ?_
        show wpList _ _ _ [_] _ _
        clear e0 e1 e2
        go_wp2_with fail
        refine hK _ _ ?_
        go_wp2_with fail
        go_roundw
        case rel => exact ⟨c + 1, by omega, by go_num, HH5.out, HO5.out, HB5.out⟩
        case measure => simp [intOf]; omega
      · have tpos : decide ((0 : Int) < (cn : Int)) = false := decide_eq_false (by omega)
        go_wp2_with fail
        go_roundw
        case rel =>
          have hal : Below wq.heap.size wq (wq.alloc (.cells #[.int .i64 (cb : Int), .int .i64 (cn : Int)] 69)) := (Below.refl _ _).alloc (Nat.le_refl _) _
          refine ⟨c + 1, by omega, by go_num, ?_, ?_, ?_⟩
          · rw [entF_succ, if_neg (by have := HEe.out; omega), List.append_nil]; exact HH.out.later hal
          · exact HO.out.later hal
          · exact HB.out.trans (hal.mono HB.out.size)
        case measure => simp [intOf]; omega
    · have hce : c = 65 := by omega
      subst hce
      rw [show ((65 : Nat) : Int) = 65 from rfl]
      have s1 : wq.cell? ⟨p, 1, none⟩ = some (.map (some b)) := Blk.cell HH.out.self rfl
      have hlen : ∀ ty, (Builtin.len_ #[83] ty #[.map (some b)]).run Try.prog wq = .ok (.int .i64 (sm L : Int)) wq := fun ty => by rw [← HLen.out]; exact HH.out.mp.len ty
      have tsm : decide ((sm L : Int) < 2) = false := decide_eq_false (by have := HSm.out; omega)
      go_wp2_with fail
      go_loopw [66, 14] (fun s66 s14 wr => ∃ (i k : Nat) (v : Value) (ps : List (Nat × Nat)), i ≤ N ∧ s66 = .int .i64 (i : Int) ∧ v = s14 ∧ ps.length = i ∧ OwnK wr 54 2 v i (flN ps) ∧ (∀ g, v.ownBlock = some g → w.heap.size ≤ g) ∧ IsHr wr p q b s k (entF L 65) ∧ k ≤ 8 * s.size ∧
        (getPs L N (bitsS s) = ((getPs L (N - i) ((bitsS s).drop k)).1, ps ++ (getPs L (N - i) ((bitsS s).drop k)).2.1, (getPs L (N - i) ((bitsS s).drop k)).2.2)) ∧ Below w.heap.size w wr) (fun s66 _ _ => N - (intOf s66).toNat)
      case atStart => exact ⟨0, 0, _, [], Nat.zero_le _, rfl, rfl, rfl, OwnK.nil _ _ _, fun g hg => by simp [Value.ownBlock] at hg, HH.out, Nat.zero_le _, by simp, HB.out⟩
      case round =>
        obtain ⟨i, k, v, ps, hiN, rfl, rfl, hpl, hO, hnew, hH, hk, hg, hB⟩ := hrel
        obtain ⟨wp, rfl⟩ : ∃ wp, wp = wr := ⟨wr, rfl⟩
        have HHr := kept hH
        have HOw := kept hO
        have HNw := kept hnew
        have HBl := kept hB
        have HGp := kept hg
        have HPl := kept hpl
        have HFit := kept (fit_entF HM.out (Nat.le_refl 65))
        have HTel := kept (tells_entF HM.out)
        clear hH hO hnew hB hg hpl s1 hlen tsm
        by_cases hlt : i < N
        · have HRead := kept (read_code L (entF L 65) p q b s k wp HHr.out hs hk (fun w1 h1 => code_calls L (entF L 65) p q b s k w1 HM.out (full_of HM.out HSm.out) HFit.out HTel.out h1 hs hk))
          obtain ⟨er, pc, pr, rst, hone⟩ : ∃ er pc pr rst, getOne L ((bitsS s).drop k) = (er, (pc, pr), rst) := ⟨_, _, _, _, rfl⟩
          obtain ⟨m, hme⟩ : ∃ m, N - i = m + 1 := ⟨N - i - 1, by omega⟩
          have HRead2 : Own.Kept (Calls Try.prog 35 #[.pointer (some ⟨p, 0, none⟩), .func (.func 33) #[.pointer (some ⟨p, 0, none⟩)] #[]] wp fun e w' => e = .returned (.tuple #[.agg #[.int .i64 (pc : Int), .int .u64 (pr : Int)], .int .i64 (er : Int)]) ∧ (er = 0 → ∃ k', k' ≤ 8 * s.size ∧ IsRd w' q s k' ∧ (bitsS s).drop k' = rst) ∧ Chg (fun x => x = q) wp w') :=
            kept (HRead.out.mono fun e w' h => by unfold PartPost at h; rw [hone] at h; exact h)
          have HOne := kept hone
          have HMe := kept hme
          clear hone hme
          go_wp2_with fail
          refine HRead2.out.mono ?_
          rintro e w2 ⟨rfl, hR2, hC2⟩
          have HC2 := kept hC2
          have hO2 : OwnK w2 54 2 v i (flN ps) := HOw.out.chg hC2 (fun g hg h => HOw.out.ne HHr.out.rd (by decide) (by rw [hg, h]))
          have HO2 := kept hO2
          have HB2 := kept (HBl.out.trans (hC2.below HBl.out.size (fun x hx h => by have := HQ.out; omega)))
          have HR2 := kept hR2
          clear hO2 hC2 hR2
          by_cases her : er = 0
          · subst her
            obtain ⟨k', hk', hRk, hdr⟩ := HR2.out rfl
            have hgp := getPs_ok L m ((bitsS s).drop k) (pc, pr) rst HOne.out
            have hg2 := HGp.out
            rw [HMe.out, hgp, ← hdr] at hg2
            have HG2 := kept hg2
            have HH2 := kept (HHr.out.chg HC2.out hRk)
            clear hdr hgp hg2 hRk
            go_upto_region 22 with fail
            generalize hw3 : World.alloc w2 _ = w3
            obtain ⟨gp, hgpe⟩ : ∃ gp, gp = w2.heap.size := ⟨_, rfl⟩
            have hal : Below w2.heap.size w2 w3 := by rw [← hw3]; exact (Below.refl _ _).alloc (Nat.le_refl _) _
            have hP3 : Blk w3 gp #[.int .i64 (pc : Int), .int .u64 (pr : Int)] 54 := by rw [hgpe, ← hw3]; exact Blk.fresh _ _ _
            have c0 : w3.cell? ⟨gp, 0, none⟩ = some (.int .i64 (pc : Int)) := Blk.cell hP3 rfl
            have c1 : w3.cell? ⟨gp, 1, none⟩ = some (.int .u64 (pr : Int)) := Blk.cell hP3 rfl
            have HO3 := kept (HO2.out.later hal)
            have HB3 := kept (HB2.out.trans (hal.mono HB2.out.size))
            have HH3 := kept (HH2.out.later hal)
            rw [← hgpe]
            clear hw3 hgpe hal hP3
            go_wp2_with (first | (at_builtin; refine wpList_appK1 (us := [.int .i64 (pc : Int), .int .u64 (pr : Int)]) rfl _ _ 22 rfl 54 i0 (.agg #[.int .i64 0, .int .u64 0]) 2 16 Try.underlying22 hi hz0 hz1 hz2 rfl (by decide) v i _ rfl HO3.out rfl ?_ rfl ?_ ?_ ?_) | fail)
            · intro u hu; simp at hu; rcases hu with rfl | rfl <;> rfl
            · simp [maxLen]; omega
            · omega
            intro v5 w5 O5 C5 F5
            rw [← flN_snoc ps (pc, pr)] at O5
            have HO5 := kept O5
            have HN5 : Own.Kept (∀ g, v5.ownBlock = some g → w.heap.size ≤ g) := kept (fun g hg => by
              rcases F5 g hg with h | h
              · exact HNw.out g h.symm
              · exact Nat.le_trans HB3.out.size h)
            have HB5 := kept (HB3.out.trans (C5.below HB3.out.size (fun x hx h => by have := HNw.out x h.symm; omega)))
            have HH5 : Own.Kept (IsHr w5 p q b s k' (entF L 65)) := kept ⟨C5.keep HH3.out.self (fun h => HO3.out.ne HH3.out.self (by decide) h.symm), C5.keep HH3.out.rd (fun h => HO3.out.ne HH3.out.rd (by decide) h.symm), HH3.out.mp.keep C5 (fun h => IsMp.ne HH3.out.mp HO3.out h.symm)⟩
            clear O5 C5 F5 c0 c1
            go_wp2_with fail
            go_roundw
            case rel => exact ⟨i + 1, k', v5, ps ++ [(pc, pr)], by omega, by go_num, rfl, by rw [List.length_append, HPl.out]; rfl, HO5.out, HN5.out, HH5.out, hk', by rw [HG2.out, show N - (i + 1) = m by have := HMe.out; omega, List.append_assoc]; rfl, HB5.out⟩
            case measure => simp [intOf]; omega
          · have ter : ((er : Int) != 0) = true := by rw [bne_iff_ne]; omega
            have hge : getE L s (N : Int) = ([], (er : Int)) := by
              have h1 : (getPs L N (bitsS s)).1 = er := by rw [HGp.out, HMe.out]; exact getPs_err L m _ er her (by rw [HOne.out])
              unfold getE
              rw [if_pos HM.out, if_neg (by omega), Int.toNat_natCast, h1, if_pos her]
            have HGe := kept hge
            clear hge
            go_wp2_with fail
            go_ret2
            unfold GetPost
            rw [HGe.out]
            exact ⟨_, rfl, OwnK.nil _ _ _, fun g hg => by simp [Value.ownBlock] at hg, HB2.out.trans (((Below.refl _ _).alloc (Nat.le_refl _) _).mono HB2.out.size)⟩
        · have hie : i = N := by omega
          subst hie
          have s0 : wp.cell? ⟨p, 0, none⟩ = some (.pointer (some ⟨q, 0, none⟩)) := Blk.cell HHr.out.self rfl
          have HRest := kept (rest_calls q s k wp HHr.out.rd hs hk)
          rw [restS_drop s k hk] at HRest
          have hg2 := HGp.out
          rw [Nat.sub_self] at hg2
          simp only [getPs, List.append_nil] at hg2
          obtain ⟨rb, hrb⟩ : ∃ rb, rb = restL ((bitsS s).drop k) := ⟨_, rfl⟩
          rw [← hrb] at HRest
          have hge : getE L s (i : Int) = if rb = true then (ps, 0) else ([], 3) := by
            unfold getE
            rw [if_pos HM.out, if_neg (by omega), Int.toNat_natCast, hg2, if_neg (by simp), ← hrb]
          clear hg2 hrb
          cases rb with
          | true =>
            have HGe : Own.Kept (getE L s (i : Int) = (ps, 0)) := kept (by rw [hge]; rfl)
            clear hge
            go_wp2_with (first | (go_at_call 36; refine HRest.out.mono ?_; rintro e w2 ⟨rfl, hb2⟩; have HB2 := kept hb2; clear hb2))
            go_ret2
            unfold GetPost
            rw [HGe.out]
            exact ⟨_, rfl, by rw [HPl.out]; exact HOw.out.later HB2.out, HNw.out, HBl.out.trans (HB2.out.mono HBl.out.size)⟩
          | false =>
            have HGe : Own.Kept (getE L s (i : Int) = ([], 3)) := kept (by rw [hge]; rfl)
            clear hge
            go_wp2_with (first | (go_at_call 36; refine HRest.out.mono ?_; rintro e w2 ⟨rfl, hb2⟩; have HB2 := kept hb2; clear hb2))
            go_ret2
            unfold GetPost
            rw [HGe.out]
            exact ⟨_, rfl, OwnK.nil _ _ _, fun g hg => by simp [Value.ownBlock] at hg, HBl.out.trans (HB2.out.mono HBl.out.size)⟩
set_option maxHeartbeats 16000000 in
theorem hget_only (A0 : Option Addr) (c0 : Nat) (L : List Int) (s : ByteArray) (N : Nat) (w : World) (hr0 : Kd.C (Kd.int .i64) w A0 L.length L) (hc0 : L.length ≤ c0) (hm : mayL L = true) (hN : N ≤ 4096) (hs : s.size ≤ 1000000000000) (hsm : sm L < 2) :
    Calls Try.prog 12 #[.string s, .int .i64 (N : Int), .slice A0 L.length c0] w (GetPost L s (N : Int) w) := by
  obtain ⟨i0, hi, hz0, hz1, hz2⟩ := CanonH.info_partsE infoPart
  have HC := kept (CanonH.codes_ok A0 c0 L w hr0 hc0 hm)
  have h65 := (Cd.may_range hm).1
  have HM := kept hm
  have HSm := kept hsm
  have t1 : decide ((N : Int) < 0) = false := decide_eq_false (by omega)
  have t2 : decide ((4096 : Int) < (N : Int)) = false := decide_eq_false (by omega)
  have hcl : (Cd.codeL L).length = 65 := Cd.length_cst L _
  have HCl := kept hcl
  have HLen := kept (length_entF h65)
  rw [h65] at HC ⊢
  have hmm := @run_makeMap Try.prog
  clear hr0 hc0 hm h65 hsm hcl
  go_enter Try.func12, Try.ntmps12
  go_wp2_with fail
  refine HC.out.mono ?_
  rintro e w1 ⟨vc, rfl, ho1, hnew1, hb1⟩
  obtain ⟨ac, cc, rfl, hac1, hac2, hac3⟩ := ho1.slice
  obtain ⟨gc, rfl⟩ := hac3 (by decide)
  have HO1 := kept ho1
  have HB1 := kept hb1
  clear ho1 hnew1 hb1 hac1 hac2 hac3
  go_wp2_with fail
  refine (from_calls s w1).mono ?_
  rintro e w2 ⟨q, rfl, hR2, hb2, hq2⟩
  have HO2 := kept (HO1.out.later hb2)
  have HB2 := kept (HB1.out.trans (hb2.mono HB1.out.size))
  have HR2 := kept hR2
  have HQ : Kept (w.heap.size ≤ q) := kept (Nat.le_trans HB1.out.size hq2)
  clear hR2 hb2 hq2
  go_upto_region 7 with fail
  obtain ⟨b, hbe⟩ : ∃ b, b = w2.heap.size := ⟨_, rfl⟩
  obtain ⟨p, hpe⟩ : ∃ p, p = w2.heap.size + 1 := ⟨_, rfl⟩
  generalize hw3 : World.alloc (World.alloc w2 _) _ = w3
  have hB3 : Below w2.heap.size w2 w3 := by rw [← hw3]; exact ((Below.refl _ _).alloc (Nat.le_refl _) _).alloc (by simp) _
  have HH3 : Kept (IsHr w3 p q b s 0 (entF L 0)) := kept (by
    refine ⟨?_, HR2.out.later hB3, ?_⟩
    · rw [← hw3, hpe, hbe]; exact Blk.fresh_at _ _ (by simp) _ _
    · rw [← hw3, hbe, entF_zero]; exact (IsMp.fresh w2).later ((Below.refl _ _).alloc (Nat.le_refl _) _))
  have HO3 := kept (HO2.out.later hB3)
  have HB3 := kept (HB2.out.trans (hB3.mono HB2.out.size))
  have HBp : Kept (w.heap.size ≤ p ∧ w.heap.size ≤ b) := kept (by have := HB2.out.size; omega)
  rw [← hpe, ← hbe]
  clear hbe hpe hw3 hB3 hmm
  go_wp2_with fail
  go_loopw [40] (fun s40 wr => ∃ c : Nat, c ≤ 65 ∧ s40 = .int .i64 (c : Int) ∧ IsHr wr p q b s 0 (entF L c) ∧ OwnK wr 69 2 (.slice (some ⟨gc, 0, none⟩) 65 cc) 65 (CanonH.fl (Cd.codeL L)) ∧ Below w.heap.size w wr) (fun s40 _ => 65 - (intOf s40).toNat)
  case atStart => exact ⟨0, by omega, rfl, HH3.out, HO3.out, HB3.out⟩
  case round =>
    obtain ⟨c, hc, rfl, hH, hO, hB⟩ := hrel
    obtain ⟨wq, rfl⟩ : ∃ wq, wq = wr := ⟨wr, rfl⟩
    have HH := kept hH
    have HO := kept hO
    have HB := kept hB
    clear hH hO hB
    by_cases hlt : c < 65
    · obtain ⟨cb, cn, hcode, hcb, hcn, hee⟩ : ∃ cb cn : Nat, (Cd.codeL L).getD c (0, 0) = ((cb : Int), (cn : Int)) ∧ cb < 32768 ∧ cn ≤ 15 ∧ (cb = cdB L c ∧ cn = cdN L c) := by
        obtain ⟨a1, a2, a3, a4, _⟩ := cd_all HM.out c hlt
        exact ⟨cdB L c, cdN L c, a4, Nat.lt_of_lt_of_le a2 (Nat.pow_le_pow_right (by decide) a1), a1, rfl, rfl⟩
      obtain ⟨f1, f2⟩ := CanonH.fl_at (Cd.codeL L) c (by rw [HCl.out]; exact hlt)
      have eat : Hp.at_ (Cd.codeL L) c = ((cb : Int), (cn : Int)) := hcode
      rw [eat] at f1 f2
      have k0 := HO.out.cell f1
      have k1 := HO.out.cell f2
      have HEe := kept hee
      clear f1 f2 eat hcode hee
      by_cases hpos : 0 < cn
      · have tpos : decide ((0 : Int) < (cn : Int)) = true := decide_eq_true (by omega)
        go_upto_region 11 with fail
        generalize hw4 : World.alloc wq _ = w4
        obtain ⟨gn, hgn⟩ : ∃ gn, gn = wq.heap.size := ⟨_, rfl⟩
        have hal : Below wq.heap.size wq w4 := by rw [← hw4]; exact (Below.refl _ _).alloc (Nat.le_refl _) _
        have hN4 : Blk w4 gn #[.int .i64 (cb : Int), .int .i64 (cn : Int)] 69 := by rw [hgn, ← hw4]; exact Blk.fresh _ _ _
        have HH4 := kept (HH.out.later hal)
        have HO4 := kept (HO.out.later hal)
        have HB4 := kept (HB.out.trans (hal.mono HB.out.size))
        rw [← hgn]
        have e0 := lat_cell (Blk.cell HH4.out.self (i := 1) rfl)
        have e1 := lat_cell (Blk.cell hN4 (i := 0) rfl)
        have e2 := lat_cell (Blk.cell hN4 (i := 1) rfl)
        have hM4 : IsMp w4.drew b (entF L c) := HH4.out.mp
        obtain ⟨w5, hput, hM5, hC5⟩ := hM4.put (fit_entF HM.out (by omega)) cb cn c (by omega) (by omega) (by rw [HEe.out.1, HEe.out.2]; exact new_entF HM.out hlt (by have := HEe.out; omega))
        have hput2 : (Instr.mapUpdate 83 (.map (some b)) (.agg #[.int .i64 (cb : Int), .int .i64 (cn : Int)]) (.int .i64 (c : Int))).run Try.prog w4.drew = .ok () w5 := hput
        have hC45 : Chg (fun x => x = b) w4 w5 := (Chg.drew (fun x => x = b) w4).trans hC5 (fun _ _ h => h)
        have HH5 : Kept (IsHr w5 p q b s 0 (entF L (c + 1))) := kept (by
          refine ⟨hC45.keep HH4.out.self ?_, hC45.keep HH4.out.rd (fun h => HH4.out.bq h.symm), ?_⟩
          · intro h
            obtain ⟨es, clock, hb, _⟩ := HH4.out.mp
            have h2 := HH4.out.self
            unfold Blk at h2
            rw [h, hb] at h2
            cases h2
          · rw [entF_succ, if_pos (by have := HEe.out; omega), ← HEe.out.1, ← HEe.out.2]; exact hM5)
        have HO5 := kept (HO4.out.chg hC45 (fun g hg h => IsMp.ne HH4.out.mp HO4.out (by rw [hg, h])))
        have HB5 := kept (HB4.out.trans (hC45.below HB4.out.size (fun x hx h => by have := HBp.out.2; omega)))
        clear hw4 hgn hal hN4 hM4 hput hM5 hC5 hC45 k0 k1
        refine wp_region_mixL [] [0,1,2,3,4,5] [6] (by kernel_rfl) (by kernel_rfl) ?_
        intro K hK
        simp only [pick, List.filterMap_cons, List.filterMap_nil, List.getElem?_cons_zero, List.getElem?_cons_succ]
        iterate 6 (show wpQuiet _ _ _ _ (_ :: _) _; go_big_quiet_step (fail))
        refine wpQuiet_nil ?_
        show wpList _ _ _ [_] _ _
        clear e0 e1 e2
        go_wp2_with fail
        refine hK _ _ ?_
        go_wp2_with fail
        go_roundw
        case rel => exact ⟨c + 1, by omega, by go_num, HH5.out, HO5.out, HB5.out⟩
        case measure => simp [intOf]; omega
      · have tpos : decide ((0 : Int) < (cn : Int)) = false := decide_eq_false (by omega)
        go_wp2_with fail
        go_roundw
        case rel =>
          have hal : Below wq.heap.size wq (wq.alloc (.cells #[.int .i64 (cb : Int), .int .i64 (cn : Int)] 69)) := (Below.refl _ _).alloc (Nat.le_refl _) _
          refine ⟨c + 1, by omega, by go_num, ?_, ?_, ?_⟩
          · rw [entF_succ, if_neg (by have := HEe.out; omega), List.append_nil]; exact HH.out.later hal
          · exact HO.out.later hal
          · exact HB.out.trans (hal.mono HB.out.size)
        case measure => simp [intOf]; omega
    · have hce : c = 65 := by omega
      subst hce
      rw [show ((65 : Nat) : Int) = 65 from rfl]
      have s1 : wq.cell? ⟨p, 1, none⟩ = some (.map (some b)) := Blk.cell HH.out.self rfl
      have hlen : ∀ ty, (Builtin.len_ #[83] ty #[.map (some b)]).run Try.prog wq = .ok (.int .i64 (sm L : Int)) wq := fun ty => by rw [← HLen.out]; exact HH.out.mp.len ty
      have tsm : decide ((sm L : Int) < 2) = true := decide_eq_true (by have := HSm.out; omega)
      go_wp2_with fail
      go_loopw [66, 14] (fun s66 s14 wr => ∃ (i k : Nat) (v : Value) (ps : List (Nat × Nat)), i ≤ N ∧ s66 = .int .i64 (i : Int) ∧ v = s14 ∧ ps.length = i ∧ OwnK wr 54 2 v i (flN ps) ∧ (∀ g, v.ownBlock = some g → w.heap.size ≤ g) ∧ IsHr wr p q b s k (entF L 65) ∧ k ≤ 8 * s.size ∧
        (getPs L N (bitsS s) = ((getPs L (N - i) ((bitsS s).drop k)).1, ps ++ (getPs L (N - i) ((bitsS s).drop k)).2.1, (getPs L (N - i) ((bitsS s).drop k)).2.2)) ∧ Below w.heap.size w wr) (fun s66 _ _ => N - (intOf s66).toNat)
      case atStart => exact ⟨0, 0, _, [], Nat.zero_le _, rfl, rfl, rfl, OwnK.nil _ _ _, fun g hg => by simp [Value.ownBlock] at hg, HH.out, Nat.zero_le _, by simp, HB.out⟩
      case round =>
        obtain ⟨i, k, v, ps, hiN, rfl, rfl, hpl, hO, hnew, hH, hk, hg, hB⟩ := hrel
        obtain ⟨wp, rfl⟩ : ∃ wp, wp = wr := ⟨wr, rfl⟩
        have HHr := kept hH
        have HOw := kept hO
        have HNw := kept hnew
        have HBl := kept hB
        have HGp := kept hg
        have HPl := kept hpl
        have HFit := kept (fit_entF HM.out (Nat.le_refl 65))
        have HTel := kept (tells_entF HM.out)
        clear hH hO hnew hB hg hpl s1 hlen tsm
        by_cases hlt : i < N
        · have HRead := kept (read_only L (entF L 65) p q b s k wp HHr.out hs hk (fun w1 h1 => only_calls L (entF L 65) p q b s k w1 HM.out HSm.out HFit.out HTel.out h1 hs hk))
          obtain ⟨er, pc, pr, rst, hone⟩ : ∃ er pc pr rst, getOne L ((bitsS s).drop k) = (er, (pc, pr), rst) := ⟨_, _, _, _, rfl⟩
          obtain ⟨m, hme⟩ : ∃ m, N - i = m + 1 := ⟨N - i - 1, by omega⟩
          have HRead2 : Own.Kept (Calls Try.prog 35 #[.pointer (some ⟨p, 0, none⟩), .func (.func 34) #[.pointer (some ⟨p, 0, none⟩)] #[]] wp fun e w' => e = .returned (.tuple #[.agg #[.int .i64 (pc : Int), .int .u64 (pr : Int)], .int .i64 (er : Int)]) ∧ (er = 0 → ∃ k', k' ≤ 8 * s.size ∧ IsRd w' q s k' ∧ (bitsS s).drop k' = rst) ∧ Chg (fun x => x = q) wp w') :=
            kept (HRead.out.mono fun e w' h => by unfold PartPost at h; rw [hone] at h; exact h)
          have HOne := kept hone
          have HMe := kept hme
          clear hone hme
          go_wp2_with fail
          refine HRead2.out.mono ?_
          rintro e w2 ⟨rfl, hR2, hC2⟩
          have HC2 := kept hC2
          have hO2 : OwnK w2 54 2 v i (flN ps) := HOw.out.chg hC2 (fun g hg h => HOw.out.ne HHr.out.rd (by decide) (by rw [hg, h]))
          have HO2 := kept hO2
          have HB2 := kept (HBl.out.trans (hC2.below HBl.out.size (fun x hx h => by have := HQ.out; omega)))
          have HR2 := kept hR2
          clear hO2 hC2 hR2
          by_cases her : er = 0
          · subst her
            obtain ⟨k', hk', hRk, hdr⟩ := HR2.out rfl
            have hgp := getPs_ok L m ((bitsS s).drop k) (pc, pr) rst HOne.out
            have hg2 := HGp.out
            rw [HMe.out, hgp, ← hdr] at hg2
            have HG2 := kept hg2
            have HH2 := kept (HHr.out.chg HC2.out hRk)
            clear hdr hgp hg2 hRk
            go_upto_region 22 with fail
            generalize hw3 : World.alloc w2 _ = w3
            obtain ⟨gp, hgpe⟩ : ∃ gp, gp = w2.heap.size := ⟨_, rfl⟩
            have hal : Below w2.heap.size w2 w3 := by rw [← hw3]; exact (Below.refl _ _).alloc (Nat.le_refl _) _
            have hP3 : Blk w3 gp #[.int .i64 (pc : Int), .int .u64 (pr : Int)] 54 := by rw [hgpe, ← hw3]; exact Blk.fresh _ _ _
            have c0 : w3.cell? ⟨gp, 0, none⟩ = some (.int .i64 (pc : Int)) := Blk.cell hP3 rfl
            have c1 : w3.cell? ⟨gp, 1, none⟩ = some (.int .u64 (pr : Int)) := Blk.cell hP3 rfl
            have HO3 := kept (HO2.out.later hal)
            have HB3 := kept (HB2.out.trans (hal.mono HB2.out.size))
            have HH3 := kept (HH2.out.later hal)
            rw [← hgpe]
            clear hw3 hgpe hal hP3
            go_wp2_with (first | (at_builtin; refine wpList_appK1 (us := [.int .i64 (pc : Int), .int .u64 (pr : Int)]) rfl _ _ 22 rfl 54 i0 (.agg #[.int .i64 0, .int .u64 0]) 2 16 Try.underlying22 hi hz0 hz1 hz2 rfl (by decide) v i _ rfl HO3.out rfl ?_ rfl ?_ ?_ ?_) | fail)
            · intro u hu; simp at hu; rcases hu with rfl | rfl <;> rfl
            · simp [maxLen]; omega
            · omega
            intro v5 w5 O5 C5 F5
            rw [← flN_snoc ps (pc, pr)] at O5
            have HO5 := kept O5
            have HN5 : Own.Kept (∀ g, v5.ownBlock = some g → w.heap.size ≤ g) := kept (fun g hg => by
              rcases F5 g hg with h | h
              · exact HNw.out g h.symm
              · exact Nat.le_trans HB3.out.size h)
            have HB5 := kept (HB3.out.trans (C5.below HB3.out.size (fun x hx h => by have := HNw.out x h.symm; omega)))
            have HH5 : Own.Kept (IsHr w5 p q b s k' (entF L 65)) := kept ⟨C5.keep HH3.out.self (fun h => HO3.out.ne HH3.out.self (by decide) h.symm), C5.keep HH3.out.rd (fun h => HO3.out.ne HH3.out.rd (by decide) h.symm), HH3.out.mp.keep C5 (fun h => IsMp.ne HH3.out.mp HO3.out h.symm)⟩
            clear O5 C5 F5 c0 c1
            go_wp2_with fail
            go_roundw
            case rel => exact ⟨i + 1, k', v5, ps ++ [(pc, pr)], by omega, by go_num, rfl, by rw [List.length_append, HPl.out]; rfl, HO5.out, HN5.out, HH5.out, hk', by rw [HG2.out, show N - (i + 1) = m by have := HMe.out; omega, List.append_assoc]; rfl, HB5.out⟩
            case measure => simp [intOf]; omega
          · have ter : ((er : Int) != 0) = true := by rw [bne_iff_ne]; omega
            have hge : getE L s (N : Int) = ([], (er : Int)) := by
              have h1 : (getPs L N (bitsS s)).1 = er := by rw [HGp.out, HMe.out]; exact getPs_err L m _ er her (by rw [HOne.out])
              unfold getE
              rw [if_pos HM.out, if_neg (by omega), Int.toNat_natCast, h1, if_pos her]
            have HGe := kept hge
            clear hge
            go_wp2_with fail
            go_ret2
            unfold GetPost
            rw [HGe.out]
            exact ⟨_, rfl, OwnK.nil _ _ _, fun g hg => by simp [Value.ownBlock] at hg, HB2.out.trans (((Below.refl _ _).alloc (Nat.le_refl _) _).mono HB2.out.size)⟩
        · have hie : i = N := by omega
          subst hie
          have s0 : wp.cell? ⟨p, 0, none⟩ = some (.pointer (some ⟨q, 0, none⟩)) := Blk.cell HHr.out.self rfl
          have HRest := kept (rest_calls q s k wp HHr.out.rd hs hk)
          rw [restS_drop s k hk] at HRest
          have hg2 := HGp.out
          rw [Nat.sub_self] at hg2
          simp only [getPs, List.append_nil] at hg2
          obtain ⟨rb, hrb⟩ : ∃ rb, rb = restL ((bitsS s).drop k) := ⟨_, rfl⟩
          rw [← hrb] at HRest
          have hge : getE L s (i : Int) = if rb = true then (ps, 0) else ([], 3) := by
            unfold getE
            rw [if_pos HM.out, if_neg (by omega), Int.toNat_natCast, hg2, if_neg (by simp), ← hrb]
          clear hg2 hrb
          cases rb with
          | true =>
            have HGe : Own.Kept (getE L s (i : Int) = (ps, 0)) := kept (by rw [hge]; rfl)
            clear hge
            go_wp2_with (first | (go_at_call 36; refine HRest.out.mono ?_; rintro e w2 ⟨rfl, hb2⟩; have HB2 := kept hb2; clear hb2))
            go_ret2
            unfold GetPost
            rw [HGe.out]
            exact ⟨_, rfl, by rw [HPl.out]; exact HOw.out.later HB2.out, HNw.out, HBl.out.trans (HB2.out.mono HBl.out.size)⟩
          | false =>
            have HGe : Own.Kept (getE L s (i : Int) = ([], 3)) := kept (by rw [hge]; rfl)
            clear hge
            go_wp2_with (first | (go_at_call 36; refine HRest.out.mono ?_; rintro e w2 ⟨rfl, hb2⟩; have HB2 := kept hb2; clear hb2))
            go_ret2
            unfold GetPost
            rw [HGe.out]
            exact ⟨_, rfl, OwnK.nil _ _ _, fun g hg => by simp [Value.ownBlock] at hg, HBl.out.trans (HB2.out.mono HBl.out.size)⟩
end Go.Proofs.Ytnakjencodicmaa

-- ---- PAx21
/- huff.Get: what the call answers. Conditions: the text is not longer than a thousand million bytes. -/
namespace Go.Proofs.Ytnakjencodicmaa.PA
set_option maxRecDepth 100000
open Go.RowKit Go.Proofs.YtnakjencodicmaaW.PrintWords Go.Proofs.YtnakjencodicmaaW.PrintLast Go.Proofs.YtnakjencodicmaaW.PrintMore
set_option linter.unusedVariables false
set_option linter.unusedSimpArgs false

def partS (p : Nat × Nat) : S54 := ⟨(p.1 : Int), (p.2 : Int)⟩
def getPE (s : ByteArray) (n : Int) (l : List Int) : List (S54) × Int := ((getE l s n).1.map partS, (getE l s n).2)
def huff_Get.f (a0 : ByteArray) (a1 : Int) (l2 : List Int) : Option ((List (S54)) × Int) := if a0.size ≤ 1000000000 then some (getPE a0 a1 l2) else none
theorem huff_Get.calls (a0 : ByteArray) (a1 : Int) (A2 : Option Addr) (c2 : Nat) (l2 : List Int) (r1 : List (S54)) (r2 : Int) (w : World) (hr2 : Kd.C (Kd.int .i64) w A2 l2.length l2) (hc2 : l2.length ≤ c2) (h : huff_Get.f a0 a1 l2 = some (r1, r2)) :
    Calls Try.prog 12 #[.string a0, .int .i64 a1, .slice A2 l2.length c2] w fun e w' => ∃ v0_ : Value, e = .returned (.tuple #[v0_, .int .i64 r2]) ∧ Kd.R k54 54 w' w.heap.size (fun _ => True) v0_ r1 ∧ Below w.heap.size w w' := by
  unfold huff_Get.f at h
  split at h
  · rename_i hs
    have h := Option.some.inj h
    unfold getPE at h
    obtain ⟨rfl, rfl⟩ := Prod.mk.inj h
    have key : Calls Try.prog 12 #[.string a0, .int .i64 a1, .slice A2 l2.length c2] w (GetPost l2 a0 a1 w) := by
      cases hm : Dp.mayL l2 with
      | false => exact hget_form A2 c2 l2 a0 a1 w hr2 hc2 hm
      | true =>
        by_cases hn : a1 < 0 ∨ 4096 < a1
        · exact hget_arg A2 c2 l2 a0 a1 w hr2 hc2 hm hn
        · obtain ⟨N, rfl⟩ := Int.eq_ofNat_of_zero_le (show 0 ≤ a1 by omega)
          by_cases hsm : Dp.sm l2 < 2
          · exact hget_only A2 c2 l2 a0 N w hr2 hc2 hm (by omega) (by omega) hsm
          · exact hget_code A2 c2 l2 a0 N w hr2 hc2 hm (by omega) (by omega) hsm
    refine key.mono ?_
    rintro e w' ⟨v, rfl, ho, hnew, hb⟩
    refine ⟨v, rfl, ?_, hb⟩
    refine Own.R_of_flat k54 (fun x => [.int .i64 x.f0, .int .u64 x.f1]) (fun ok x => k54_mkM w' w.heap.size ok x) (fun _ => rfl) ?_ hnew
    rw [List.length_map]
    have e : ((getE l2 a0 a1).1.map partS).flatMap (fun x => [Value.int .i64 x.f0, .int .u64 x.f1]) = flN (getE l2 a0 a1).1 := by
      generalize (getE l2 a0 a1).1 = ps
      unfold flN
      induction ps with
      | nil => rfl
      | cons a t ih => simp only [List.map_cons, List.flatMap_cons, ih]; rfl
    rw [e]; exact ho
  · cases h
end Go.Proofs.Ytnakjencodicmaa.PA

-- ---- PAx23

namespace Go.Proofs.Ytnakjencodicmaa.PA
open Go.RowKit Go.Proofs.YtnakjencodicmaaW.PrintWords Go.Proofs.YtnakjencodicmaaW.PrintLast Go.Proofs.YtnakjencodicmaaW.PrintMore
attribute [local go_sem] max2_int min2_int max_two min_two max_three min_three max_four min_four   -- for this text's walks alone
set_option linter.unusedVariables false
set_option linter.unusedSimpArgs false

/-! ### wringerlaw11_awake: function 9 -/
def wringerlaw11_awake.f (k : Nat)  : Option (Bool) := if 65 ≤ 35184372088832 then ((some (List.replicate 65 0 : List Int)).bind fun y128 => (if 0 < (y128.length : Int) then ((some (y128.set (0 : Int).toNat 1 : List Int)).bind fun y131 => ((huff_Put.f k ([] : List (S54)) y131).bind fun bt132 => ((huff_Put.f k (([(⟨0, 0⟩ : S54), (⟨0, 0⟩ : S54)] : List (S54))) y131).bind fun bt137 => ((huff_Get.f bt137.1 2 y131).bind fun bt139 => (if bt132.1.toList = ([] : List UInt8) then ((wringerlaw1_Err.f bt132.2).bind fun t143 => ((wringerlaw1_Err.f bt137.2).bind fun t144 => ((wringerlaw1_Err.f bt139.2).bind fun t145 => (if (wrap64 ((wrap64 (t143 + t144)) + t145)) = 0 then (if (bt137.1.size : Int) = 1 then (some ((bt139.1.length : Int) == 2)) else (some false)) else (some false))))) else (some false)))))) else (none))) else (none)
theorem wringerlaw11_awake.mono : ∀ k, LeO (wringerlaw11_awake.f k ) (wringerlaw11_awake.f (k + 1) ) := by
  intro  k
  unfold wringerlaw11_awake.f
  repeat' first
      | (with_reducible exact huff_Put.mono _ _ _)
      | (with_reducible exact LeO.refl _)
      | (with_reducible exact LeO.none _)
      | (with_reducible refine LeO.ite ?_ ?_)
      | (with_reducible refine LeO.bind ?_ (fun _ => ?_))
      | exact huff_Put.mono _ _ _
      | exact LeO.none _
      | refine LeO.ite ?_ ?_
      | refine LeO.bind ?_ (fun _ => ?_)
set_option maxHeartbeats 8000000 in
set_option maxRecDepth 100000 in
theorem wringerlaw11_awake.calls (k : Nat)  (r : Bool) (w : World) (h : wringerlaw11_awake.f k  = some r) :
    Calls Try.prog 9 #[] w fun e w' => e = .returned (.bool r) ∧ Below w.heap.size w w' := by
  have hu54 := Try.underlying54
  have HB := Aside0.mk (Below.refl w.heap.size w)
  have H : (if 65 ≤ 35184372088832 then ((some (List.replicate 65 0 : List Int)).bind fun y128 => (if 0 < (y128.length : Int) then ((some (y128.set (0 : Int).toNat 1 : List Int)).bind fun y131 => ((huff_Put.f k ([] : List (S54)) y131).bind fun bt132 => ((huff_Put.f k (([(⟨0, 0⟩ : S54), (⟨0, 0⟩ : S54)] : List (S54))) y131).bind fun bt137 => ((huff_Get.f bt137.1 2 y131).bind fun bt139 => (if bt132.1.toList = ([] : List UInt8) then ((wringerlaw1_Err.f bt132.2).bind fun t143 => ((wringerlaw1_Err.f bt137.2).bind fun t144 => ((wringerlaw1_Err.f bt139.2).bind fun t145 => (if (wrap64 ((wrap64 (t143 + t144)) + t145)) = 0 then (if (bt137.1.size : Int) = 1 then (some ((bt139.1.length : Int) == 2)) else (some false)) else (some false))))) else (some false)))))) else (none))) else (none)) = some r := h
  clear h
  by_cases c1 : 65 ≤ 35184372088832
  · rw [if_pos c1] at H
    have c1b0 := eq_true c1
    have c1b1 : decide (65 ≤ 35184372088832) = true := decide_eq_true c1
    clear c1
    obtain ⟨y128, hy128⟩ : ∃ y_ : List Int, y_ = (List.replicate 65 0) := ⟨_, rfl⟩
    replace H : (if 0 < (y128.length : Int) then ((some (y128.set (0 : Int).toNat 1 : List Int)).bind fun y131 => ((huff_Put.f k ([] : List (S54)) y131).bind fun bt132 => ((huff_Put.f k (([(⟨0, 0⟩ : S54), (⟨0, 0⟩ : S54)] : List (S54))) y131).bind fun bt137 => ((huff_Get.f bt137.1 2 y131).bind fun bt139 => (if bt132.1.toList = ([] : List UInt8) then ((wringerlaw1_Err.f bt132.2).bind fun t143 => ((wringerlaw1_Err.f bt137.2).bind fun t144 => ((wringerlaw1_Err.f bt139.2).bind fun t145 => (if (wrap64 ((wrap64 (t143 + t144)) + t145)) = 0 then (if (bt137.1.size : Int) = 1 then (some ((bt139.1.length : Int) == 2)) else (some false)) else (some false))))) else (some false)))))) else (none)) = some r := by first | (rw [hy128]; with_reducible exact H) | (have H2_ := (Option.bind_some _ _).symm.trans H; rw [hy128]; with_reducible exact H2_) | (have H2_ := (Option.bind_some _ _).symm.trans H; with_reducible exact H2_) | with_reducible exact H | (rw [hy128]; exact H) | exact H
    have Ny128 := Aside0.mk hy128
    clear hy128
    by_cases c2 : 0 < (y128.length : Int)
    · rw [if_pos c2] at H
      have c2b0 : decide (0 < (y128.length : Int)) = true := decide_eq_true c2
      have c2b1 : decide (0 < y128.length) = true := decide_eq_true (by omega)
      clear c2
      obtain ⟨y131, hy131⟩ : ∃ y_ : List Int, y_ = (y128.set (0 : Int).toNat 1) := ⟨_, rfl⟩
      replace H : ((huff_Put.f k ([] : List (S54)) y131).bind fun bt132 => ((huff_Put.f k (([(⟨0, 0⟩ : S54), (⟨0, 0⟩ : S54)] : List (S54))) y131).bind fun bt137 => ((huff_Get.f bt137.1 2 y131).bind fun bt139 => (if bt132.1.toList = ([] : List UInt8) then ((wringerlaw1_Err.f bt132.2).bind fun t143 => ((wringerlaw1_Err.f bt137.2).bind fun t144 => ((wringerlaw1_Err.f bt139.2).bind fun t145 => (if (wrap64 ((wrap64 (t143 + t144)) + t145)) = 0 then (if (bt137.1.size : Int) = 1 then (some ((bt139.1.length : Int) == 2)) else (some false)) else (some false))))) else (some false))))) = some r := by first | (rw [hy131]; with_reducible exact H) | (have H2_ := (Option.bind_some _ _).symm.trans H; rw [hy131]; with_reducible exact H2_) | (have H2_ := (Option.bind_some _ _).symm.trans H; with_reducible exact H2_) | with_reducible exact H | (rw [hy131]; exact H) | exact H
      have Ny131 := Aside0.mk hy131
      clear hy131
      replace H := Option.bind_eq_some_iff.mp H
      obtain ⟨⟨t132, t133⟩, A40, H⟩ := H
      replace H : ((huff_Put.f k (([(⟨0, 0⟩ : S54), (⟨0, 0⟩ : S54)] : List (S54))) y131).bind fun bt137 => ((huff_Get.f bt137.1 2 y131).bind fun bt139 => (if t132.toList = ([] : List UInt8) then ((wringerlaw1_Err.f t133).bind fun t143 => ((wringerlaw1_Err.f bt137.2).bind fun t144 => ((wringerlaw1_Err.f bt139.2).bind fun t145 => (if (wrap64 ((wrap64 (t143 + t144)) + t145)) = 0 then (if (bt137.1.size : Int) = 1 then (some ((bt139.1.length : Int) == 2)) else (some false)) else (some false))))) else (some false)))) = some r := H
      have A4 := Aside0.mk A40
      clear A40
      obtain ⟨y134, hy134⟩ : ∃ y_ : List (S54), y_ = (([(⟨0, 0⟩ : S54), (⟨0, 0⟩ : S54)] : List (S54))) := ⟨_, rfl⟩
      replace H : ((huff_Put.f k y134 y131).bind fun bt137 => ((huff_Get.f bt137.1 2 y131).bind fun bt139 => (if t132.toList = ([] : List UInt8) then ((wringerlaw1_Err.f t133).bind fun t143 => ((wringerlaw1_Err.f bt137.2).bind fun t144 => ((wringerlaw1_Err.f bt139.2).bind fun t145 => (if (wrap64 ((wrap64 (t143 + t144)) + t145)) = 0 then (if (bt137.1.size : Int) = 1 then (some ((bt139.1.length : Int) == 2)) else (some false)) else (some false))))) else (some false)))) = some r := by first | (rw [hy134]; with_reducible exact H) | (have H2_ := (Option.bind_some _ _).symm.trans H; rw [hy134]; with_reducible exact H2_) | (have H2_ := (Option.bind_some _ _).symm.trans H; with_reducible exact H2_) | with_reducible exact H | (rw [hy134]; exact H) | exact H
      have Ny134 := Aside0.mk hy134
      clear hy134
      replace H := Option.bind_eq_some_iff.mp H
      obtain ⟨⟨t137, t138⟩, A50, H⟩ := H
      replace H : ((huff_Get.f t137 2 y131).bind fun bt139 => (if t132.toList = ([] : List UInt8) then ((wringerlaw1_Err.f t133).bind fun t143 => ((wringerlaw1_Err.f t138).bind fun t144 => ((wringerlaw1_Err.f bt139.2).bind fun t145 => (if (wrap64 ((wrap64 (t143 + t144)) + t145)) = 0 then (if (t137.size : Int) = 1 then (some ((bt139.1.length : Int) == 2)) else (some false)) else (some false))))) else (some false))) = some r := H
      have A5 := Aside0.mk A50
      clear A50
      replace H := Option.bind_eq_some_iff.mp H
      obtain ⟨⟨t139, t140⟩, A60, H⟩ := H
      replace H : (if t132.toList = ([] : List UInt8) then ((wringerlaw1_Err.f t133).bind fun t143 => ((wringerlaw1_Err.f t138).bind fun t144 => ((wringerlaw1_Err.f t140).bind fun t145 => (if (wrap64 ((wrap64 (t143 + t144)) + t145)) = 0 then (if (t137.size : Int) = 1 then (some ((t139.length : Int) == 2)) else (some false)) else (some false))))) else (some false)) = some r := H
      have A6 := Aside0.mk A60
      clear A60
      by_cases c7 : t132.toList = ([] : List UInt8)
      · rw [if_pos c7] at H
        have c7b0 : (t132.toList == ([] : List UInt8)) = true := beq_iff_eq.mpr c7
        have c7b1 : (t132.toList != ([] : List UInt8)) = false := bne_eq_false_iff_eq.mpr c7
        clear c7
        replace H := Option.bind_eq_some_iff.mp H
        obtain ⟨t143, A80, H⟩ := H
        replace H : ((wringerlaw1_Err.f t138).bind fun t144 => ((wringerlaw1_Err.f t140).bind fun t145 => (if (wrap64 ((wrap64 (t143 + t144)) + t145)) = 0 then (if (t137.size : Int) = 1 then (some ((t139.length : Int) == 2)) else (some false)) else (some false)))) = some r := H
        have A8 := Aside0.mk A80
        clear A80
        replace H := Option.bind_eq_some_iff.mp H
        obtain ⟨t144, A90, H⟩ := H
        replace H : ((wringerlaw1_Err.f t140).bind fun t145 => (if (wrap64 ((wrap64 (t143 + t144)) + t145)) = 0 then (if (t137.size : Int) = 1 then (some ((t139.length : Int) == 2)) else (some false)) else (some false))) = some r := H
        have A9 := Aside0.mk A90
        clear A90
        replace H := Option.bind_eq_some_iff.mp H
        obtain ⟨t145, A100, H⟩ := H
        replace H : (if (wrap64 ((wrap64 (t143 + t144)) + t145)) = 0 then (if (t137.size : Int) = 1 then (some ((t139.length : Int) == 2)) else (some false)) else (some false)) = some r := H
        have A10 := Aside0.mk A100
        clear A100
        by_cases c11 : (wrap64 ((wrap64 (t143 + t144)) + t145)) = 0
        · rw [if_pos c11] at H
          have c11b0 : ((wrap64 ((wrap64 (t143 + t144)) + t145)) == 0) = true := beq_iff_eq.mpr c11
          have c11b1 : ((wrap64 ((wrap64 (t143 + t144)) + t145)) != 0) = false := bne_eq_false_iff_eq.mpr c11
          clear c11
          by_cases c12 : (t137.size : Int) = 1
          · rw [if_pos c12] at H
            have c12b0 : ((t137.size : Int) == 1) = true := beq_iff_eq.mpr c12
            have c12b1 : ((t137.size : Int) != 1) = false := bne_eq_false_iff_eq.mpr c12
            clear c12
            obtain rfl := Option.some.inj H
            go_enter Try.func9, Try.ntmps9
            go_wp2_with (first | ((with_reducible refine gate_dst (N := 8) rfl ?_); (try (refine gate_guard (by rfl) ?_; dsimp only)); refine Kd.R_make (Kd.int .i64) _ 3 rfl (N := 8) rfl 23 _ _ rfl 65 rfl rfl Try.underlying23 (.int .i64 0) 8 info3 rfl (by decide) (by omega) 0 (ok := fun _ => True) (okp := fun _ => True) rfl (fun _ hk => hk) trivial (by omega) (by omega) (Below.refl _ _) (Nat.le_refl _) ?_; intro v129 w13 ho14 hb hg_ hnew_; clear hg_ hnew_; (first | rw [← Ny128.out] at ho14 | (simp only [Int.reduceToNat] at ho14; rw [← Ny128.out] at ho14)); have n0_ := Aside0.mk (Kd.R_lower ho14 (below_size (by repeat (first | (with_reducible first | exact HB.out | apply below_alloc | apply pw_below_drewN | apply below_drew1) | exact HB.out)))); have n1_ := Aside0.mk (below_step (by repeat (first | (with_reducible first | exact HB.out | apply below_alloc | apply pw_below_drewN | apply below_drew1) | exact HB.out)) hb); clear HB; have HO130 := n0_; have HB := n1_; clear n0_ n1_; clear hb ho14; have p3 : 0 ≤ (0 : Int) := (by omega); have q3 : (0 : Int) < ((y128.length : Int) : Int) := of_decide_eq_true (by first | (with_reducible assumption) | assumption); have qi3 : (0 < y128.length) = True := eq_true (by omega); obtain ⟨go3, co3, eo3, gb3, gl3, cl3, HG3⟩ := Kd.R_form HO130.out (by omega); (first | cases eo3 | (injection eo3 with ea_ en_ ec_; (first | subst ea_ | (injection ea_ with ea_; subst ea_)); subst ec_; clear en_)); have GB3 := Aside0.mk gb3; have GG3 := Aside0.mk HG3; clear gb3 gl3 HG3; obtain ⟨hx3_0, hf3_0⟩ := Kd.R_celln 0 HO130.out (0 : Int) p3 q3; (try rw [show ((0 : Int)).toNat = 0 from rfl] at hx3_0); (try simp only [Nat.reduceMul, Nat.zero_mul, Nat.zero_add, Nat.reduceAdd] at hx3_0); (try rw [show ((0 : Int)).toNat = 0 from rfl] at hf3_0); (try simp only [Nat.reduceMul, Nat.zero_mul, Nat.zero_add, Nat.reduceAdd] at hf3_0); replace p3 := eq_true p3; replace q3 := eq_true q3; obtain ⟨hy15_, hz15_⟩ := Kd.R_celln 0 HO130.out (0 : Int) (by omega) (of_decide_eq_true (by first | (with_reducible assumption) | assumption)); (try simp only [Int.reduceToNat, Int.toNat_zero, Int.toNat_ofNat, Nat.reduceMul, Nat.zero_mul, Nat.zero_add] at hy15_ hz15_); (try rw [show ((0 : Int)).toNat = 0 from rfl] at hy15_); (try rw [show ((0 : Int)).toNat = 0 from rfl] at hz15_); have HP15 := Kd.R_putg HO130.out (0 : Int) 1) | ((with_reducible refine gate_store (t := 3) (p := 10) rfl ?_); refine store_event (t := 3) (p := 10) (v := ?vo_w16) (w1 := (w13.setCell ⟨go3, (0 : Int).toNat, none⟩ (.int .i64 1))) ?hg ?ho ?hn ?hr ?_; (case ho => rfl); (case hg => rfl); (case hn => rfl); (case hr => first | (go_simp; done) | (go_simp; rfl)); intro w16 hw; have hg : w13.grownBy w16 (some go3) := (by rw [hw]; exact HP15.2); have hp_ : Kd.R (Kd.int .i64) 3 w16 w.heap.size (fun _ => True) (.slice (some ⟨go3, 0, none⟩) y128.length co3) y131 := (by rw [hw, Ny131.out]; exact HP15.1); clear HP15; have n0_ := Aside0.mk (hp_); have n1_ := Aside0.mk ((by rw [hw]; exact below_set (HB.out) GB3.out : Below w.heap.size w w16)); clear HO130; clear HB; have HO130 := n0_; have HB := n1_; clear n0_ n1_; clear hg hw hp_) | ((with_reducible refine gate_callee (f := 10) rfl ?_); refine goesL_ (some 13) rfl rfl Try.func10 (by kernel_rfl) rfl #[.slice none 0 0, .slice (some ⟨go3, 0, none⟩) y131.length co3] rfl (by (try simp only [List.map_toArray, List.map_cons, List.map_nil]); first | done | (rw [show y131.length = y128.length from (Kd.R_reads' HO130.out).1.symm] <;> rfl) | rfl | (simp only [List.length_drop, List.length_take]; rfl)) ?_; (refine (huff_Put.calls k _ _ ([] : List (S54)) _ _ y131 t132 t133 _ ?side1 ?side2 ?side3 ?side4 A4.out).mono ?_); (case side1 => exact Kd.C_nil _ _); (case side2 => exact Nat.le_refl _); (case side3 => repeat (first | exact (Kd.R_reads' HO130.out).2.2 | (with_reducible refine Kd.C_alloc ?_ _) | (with_reducible refine Kd.C_drewN ?_ _) | (with_reducible refine Kd.C_drew ?_))); (case side4 => rw [show y131.length = y128.length from (Kd.R_reads' HO130.out).1.symm]; exact (Kd.R_reads' HO130.out).2.1); rintro e w17 ⟨rfl, hb⟩; refine ⟨_, rfl, ?_⟩; have n0_ := Aside0.mk (Kd.R_below (by (with_reducible repeat (first | apply Kd.R_alloc | apply Kd.R_drewN | apply Kd.R_drew)); exact HO130.out) hb); have n1_ := Aside0.mk (below_step (by repeat (first | (with_reducible first | exact HB.out | apply below_alloc | apply pw_below_drewN | apply below_drew1) | exact HB.out)) hb); clear HO130; clear HB; have HO130 := n0_; have HB := n1_; clear n0_ n1_; (try clear hb); (try clear hb2); (try clear hk); (try clear hi)) | ((with_reducible refine gate_dst (N := 19) rfl ?_); (try (refine gate_guard (by rfl) ?_; dsimp only)); refine Kd.R_lit k54 _ 54 ?hg (N := 19) ?hd (xs := ([(⟨0, 0⟩ : S54), (⟨0, 0⟩ : S54)] : List (S54))) (inner := [.int .i64 0, .int .u64 0, .int .i64 0, .int .u64 0]) (ok := fun _ => True) (okp := fun _ => True) ?hr ?hp (fun _ hk => hk) trivial (Below.refl _ _) (Nat.le_refl _) (by simp) ?_; (case hd => rfl); (case hg => rfl); (case hr => first | (go_simp; done) | (go_simp; rfl)); (case hp => exact (Reps.c2 (show Kd.M k54 _ _ _ (⟨0, 0⟩ : S54) [.int .i64 0, .int .u64 0] from (k54_mkM _ _ _ (⟨0, 0⟩ : S54) )) (Reps.c2 (show Kd.M k54 _ _ _ (⟨0, 0⟩ : S54) [.int .i64 0, .int .u64 0] from (k54_mkM _ _ _ (⟨0, 0⟩ : S54) )) (Reps.none _ _)))); intro v135 w18 ho19 hb hg_ hnew_; clear hg_ hnew_; (first | rw [← Ny134.out] at ho19 | (simp only [Int.reduceToNat] at ho19; rw [← Ny134.out] at ho19)); have n0_ := Aside0.mk (Kd.R_below (by (with_reducible repeat (first | apply Kd.R_alloc | apply Kd.R_drewN | apply Kd.R_drew)); exact HO130.out) hb); have n1_ := Aside0.mk (Kd.R_lower ho19 (below_size (by repeat (first | (with_reducible first | exact HB.out | apply below_alloc | apply pw_below_drewN | apply below_drew1) | exact HB.out)))); have n2_ := Aside0.mk (below_step (by repeat (first | (with_reducible first | exact HB.out | apply below_alloc | apply pw_below_drewN | apply below_drew1) | exact HB.out)) hb); clear HO130; clear HB; have HO130 := n0_; have HO136 := n1_; have HB := n2_; clear n0_ n1_ n2_; clear hb ho19; obtain ⟨Ao20, co20, eo20⟩ := Kd.R_slice HO136.out; subst eo20) | ((with_reducible refine gate_callee (f := 10) rfl ?_); refine goesL_ (some 21) rfl rfl Try.func10 (by kernel_rfl) rfl #[.slice Ao20 y134.length co20, .slice (some ⟨go3, 0, none⟩) y131.length co3] rfl (by (try simp only [List.map_toArray, List.map_cons, List.map_nil]); first | done | (rw [show y131.length = y128.length from (Kd.R_reads' HO130.out).1.symm] <;> rfl) | rfl | (simp only [List.length_drop, List.length_take]; rfl)) ?_; (with_reducible refine (huff_Put.calls k _ _ y134 _ _ y131 t137 t138 _ ?side1 ?side2 ?side3 ?side4 A5.out).mono ?_); (case side1 => repeat (first | exact (Kd.R_reads' HO136.out).2.2 | (with_reducible refine Kd.C_alloc ?_ _) | (with_reducible refine Kd.C_drewN ?_ _) | (with_reducible refine Kd.C_drew ?_))); (case side2 => exact (Kd.R_reads' HO136.out).2.1); (case side3 => repeat (first | exact (Kd.R_reads' HO130.out).2.2 | (with_reducible refine Kd.C_alloc ?_ _) | (with_reducible refine Kd.C_drewN ?_ _) | (with_reducible refine Kd.C_drew ?_))); (case side4 => rw [show y131.length = y128.length from (Kd.R_reads' HO130.out).1.symm]; exact (Kd.R_reads' HO130.out).2.1); rintro e w21 ⟨rfl, hb⟩; refine ⟨_, rfl, ?_⟩; have n0_ := Aside0.mk (Kd.R_below (by (with_reducible repeat (first | apply Kd.R_alloc | apply Kd.R_drewN | apply Kd.R_drew)); exact HO130.out) hb); have n1_ := Aside0.mk (Kd.R_below (by (with_reducible repeat (first | apply Kd.R_alloc | apply Kd.R_drewN | apply Kd.R_drew)); exact HO136.out) hb); have n2_ := Aside0.mk (below_step (by repeat (first | (with_reducible first | exact HB.out | apply below_alloc | apply pw_below_drewN | apply below_drew1) | exact HB.out)) hb); clear HO130; clear HO136; clear HB; have HO130 := n0_; have HO136 := n1_; have HB := n2_; clear n0_ n1_ n2_; (try clear hb); (try clear hb2); (try clear hk); (try clear hi)) | ((with_reducible refine gate_callee (f := 12) rfl ?_); refine goesL_ (some 27) rfl rfl Try.func12 (by kernel_rfl) rfl #[.string t137, .int .i64 2, .slice (some ⟨go3, 0, none⟩) y131.length co3] rfl (by (try simp only [List.map_toArray, List.map_cons, List.map_nil]); first | done | (rw [show y131.length = y128.length from (Kd.R_reads' HO130.out).1.symm] <;> rfl) | rfl | (simp only [List.length_drop, List.length_take]; rfl)) ?_; (with_reducible refine (huff_Get.calls t137 2 _ _ y131 t139 t140 _ ?side1 ?side2 A6.out).mono ?_); (case side1 => repeat (first | exact (Kd.R_reads' HO130.out).2.2 | (with_reducible refine Kd.C_alloc ?_ _) | (with_reducible refine Kd.C_drewN ?_ _) | (with_reducible refine Kd.C_drew ?_))); (case side2 => rw [show y131.length = y128.length from (Kd.R_reads' HO130.out).1.symm]; exact (Kd.R_reads' HO130.out).2.1); rintro e w22 ⟨v141, rfl, ho0, hb⟩; refine ⟨_, rfl, ?_⟩; have n0_ := Aside0.mk (Kd.R_below (by (with_reducible repeat (first | apply Kd.R_alloc | apply Kd.R_drewN | apply Kd.R_drew)); exact HO130.out) hb); have n1_ := Aside0.mk (Kd.R_elder' (by (with_reducible repeat (first | apply Kd.R_alloc | apply Kd.R_drewN | apply Kd.R_drew)); exact HO136.out) (Kd.R_base ho0) hb); have n2_ := Aside0.mk (Kd.R_lower (Kd.R_new' ho0 (Kd.R_lt (by (with_reducible repeat (first | apply Kd.R_alloc | apply Kd.R_drewN | apply Kd.R_drew)); exact HO136.out))) (below_size (by repeat (first | (with_reducible first | exact HB.out | apply below_alloc | apply pw_below_drewN | apply below_drew1) | exact HB.out)))); have n3_ := Aside0.mk (below_step (by repeat (first | (with_reducible first | exact HB.out | apply below_alloc | apply pw_below_drewN | apply below_drew1) | exact HB.out)) hb); clear HO130; clear HO136; clear HB; have HO130 := n0_; have HO136 := n1_; have HO142 := n2_; have HB := n3_; clear n0_ n1_ n2_ n3_; (try clear hb); (try clear hb2); (try clear hk); (try clear hi); (try clear ho0)) | (go_at_call 14; (with_reducible refine (wringerlaw1_Err.calls t133 t143 _ A8.out).mono ?_); rintro e w' ⟨rfl, ⟨nd, rfl⟩⟩) | (go_at_call 14; (with_reducible refine (wringerlaw1_Err.calls t138 t144 _ A9.out).mono ?_); rintro e w' ⟨rfl, ⟨nd, rfl⟩⟩) | (go_at_call 14; (with_reducible refine (wringerlaw1_Err.calls t140 t145 _ A10.out).mono ?_); rintro e w' ⟨rfl, ⟨nd, rfl⟩⟩; obtain ⟨Ao23, co23, eo23⟩ := Kd.R_slice HO142.out; subst eo23))
            go_ret
            exact ⟨by first | rfl | (simp [errW_none, errW_some] <;> rfl) | (simp [*, errW_none, errW_some] <;> rfl), by repeat (first | (with_reducible first | exact HB.out | apply below_alloc | apply pw_below_drewN | apply below_drew1) | exact HB.out)⟩
          · rw [if_neg c12] at H
            have c12b0 : ((t137.size : Int) == 1) = false := beq_eq_false_iff_ne.mpr c12
            have c12b1 : ((t137.size : Int) != 1) = true := bne_iff_ne.mpr c12
            obtain rfl := Option.some.inj H
            go_enter Try.func9, Try.ntmps9
            go_wp2_with (first | ((with_reducible refine gate_dst (N := 8) rfl ?_); (try (refine gate_guard (by rfl) ?_; dsimp only)); refine Kd.R_make (Kd.int .i64) _ 3 rfl (N := 8) rfl 23 _ _ rfl 65 rfl rfl Try.underlying23 (.int .i64 0) 8 info3 rfl (by decide) (by omega) 0 (ok := fun _ => True) (okp := fun _ => True) rfl (fun _ hk => hk) trivial (by omega) (by omega) (Below.refl _ _) (Nat.le_refl _) ?_; intro v129 w24 ho25 hb hg_ hnew_; clear hg_ hnew_; (first | rw [← Ny128.out] at ho25 | (simp only [Int.reduceToNat] at ho25; rw [← Ny128.out] at ho25)); have n0_ := Aside0.mk (Kd.R_lower ho25 (below_size (by repeat (first | (with_reducible first | exact HB.out | apply below_alloc | apply pw_below_drewN | apply below_drew1) | exact HB.out)))); have n1_ := Aside0.mk (below_step (by repeat (first | (with_reducible first | exact HB.out | apply below_alloc | apply pw_below_drewN | apply below_drew1) | exact HB.out)) hb); clear HB; have HO130 := n0_; have HB := n1_; clear n0_ n1_; clear hb ho25; have p3 : 0 ≤ (0 : Int) := (by omega); have q3 : (0 : Int) < ((y128.length : Int) : Int) := of_decide_eq_true (by first | (with_reducible assumption) | assumption); have qi3 : (0 < y128.length) = True := eq_true (by omega); obtain ⟨go3, co3, eo3, gb3, gl3, cl3, HG3⟩ := Kd.R_form HO130.out (by omega); (first | cases eo3 | (injection eo3 with ea_ en_ ec_; (first | subst ea_ | (injection ea_ with ea_; subst ea_)); subst ec_; clear en_)); have GB3 := Aside0.mk gb3; have GG3 := Aside0.mk HG3; clear gb3 gl3 HG3; obtain ⟨hx3_0, hf3_0⟩ := Kd.R_celln 0 HO130.out (0 : Int) p3 q3; (try rw [show ((0 : Int)).toNat = 0 from rfl] at hx3_0); (try simp only [Nat.reduceMul, Nat.zero_mul, Nat.zero_add, Nat.reduceAdd] at hx3_0); (try rw [show ((0 : Int)).toNat = 0 from rfl] at hf3_0); (try simp only [Nat.reduceMul, Nat.zero_mul, Nat.zero_add, Nat.reduceAdd] at hf3_0); replace p3 := eq_true p3; replace q3 := eq_true q3; obtain ⟨hy26_, hz26_⟩ := Kd.R_celln 0 HO130.out (0 : Int) (by omega) (of_decide_eq_true (by first | (with_reducible assumption) | assumption)); (try simp only [Int.reduceToNat, Int.toNat_zero, Int.toNat_ofNat, Nat.reduceMul, Nat.zero_mul, Nat.zero_add] at hy26_ hz26_); (try rw [show ((0 : Int)).toNat = 0 from rfl] at hy26_); (try rw [show ((0 : Int)).toNat = 0 from rfl] at hz26_); have HP26 := Kd.R_putg HO130.out (0 : Int) 1) | ((with_reducible refine gate_store (t := 3) (p := 10) rfl ?_); refine store_event (t := 3) (p := 10) (v := ?vo_w27) (w1 := (w24.setCell ⟨go3, (0 : Int).toNat, none⟩ (.int .i64 1))) ?hg ?ho ?hn ?hr ?_; (case ho => rfl); (case hg => rfl); (case hn => rfl); (case hr => first | (go_simp; done) | (go_simp; rfl)); intro w27 hw; have hg : w24.grownBy w27 (some go3) := (by rw [hw]; exact HP26.2); have hp_ : Kd.R (Kd.int .i64) 3 w27 w.heap.size (fun _ => True) (.slice (some ⟨go3, 0, none⟩) y128.length co3) y131 := (by rw [hw, Ny131.out]; exact HP26.1); clear HP26; have n0_ := Aside0.mk (hp_); have n1_ := Aside0.mk ((by rw [hw]; exact below_set (HB.out) GB3.out : Below w.heap.size w w27)); clear HO130; clear HB; have HO130 := n0_; have HB := n1_; clear n0_ n1_; clear hg hw hp_) | ((with_reducible refine gate_callee (f := 10) rfl ?_); refine goesL_ (some 13) rfl rfl Try.func10 (by kernel_rfl) rfl #[.slice none 0 0, .slice (some ⟨go3, 0, none⟩) y131.length co3] rfl (by (try simp only [List.map_toArray, List.map_cons, List.map_nil]); first | done | (rw [show y131.length = y128.length from (Kd.R_reads' HO130.out).1.symm] <;> rfl) | rfl | (simp only [List.length_drop, List.length_take]; rfl)) ?_; (refine (huff_Put.calls k _ _ ([] : List (S54)) _ _ y131 t132 t133 _ ?side1 ?side2 ?side3 ?side4 A4.out).mono ?_); (case side1 => exact Kd.C_nil _ _); (case side2 => exact Nat.le_refl _); (case side3 => repeat (first | exact (Kd.R_reads' HO130.out).2.2 | (with_reducible refine Kd.C_alloc ?_ _) | (with_reducible refine Kd.C_drewN ?_ _) | (with_reducible refine Kd.C_drew ?_))); (case side4 => rw [show y131.length = y128.length from (Kd.R_reads' HO130.out).1.symm]; exact (Kd.R_reads' HO130.out).2.1); rintro e w28 ⟨rfl, hb⟩; refine ⟨_, rfl, ?_⟩; have n0_ := Aside0.mk (Kd.R_below (by (with_reducible repeat (first | apply Kd.R_alloc | apply Kd.R_drewN | apply Kd.R_drew)); exact HO130.out) hb); have n1_ := Aside0.mk (below_step (by repeat (first | (with_reducible first | exact HB.out | apply below_alloc | apply pw_below_drewN | apply below_drew1) | exact HB.out)) hb); clear HO130; clear HB; have HO130 := n0_; have HB := n1_; clear n0_ n1_; (try clear hb); (try clear hb2); (try clear hk); (try clear hi)) | ((with_reducible refine gate_dst (N := 19) rfl ?_); (try (refine gate_guard (by rfl) ?_; dsimp only)); refine Kd.R_lit k54 _ 54 ?hg (N := 19) ?hd (xs := ([(⟨0, 0⟩ : S54), (⟨0, 0⟩ : S54)] : List (S54))) (inner := [.int .i64 0, .int .u64 0, .int .i64 0, .int .u64 0]) (ok := fun _ => True) (okp := fun _ => True) ?hr ?hp (fun _ hk => hk) trivial (Below.refl _ _) (Nat.le_refl _) (by simp) ?_; (case hd => rfl); (case hg => rfl); (case hr => first | (go_simp; done) | (go_simp; rfl)); (case hp => exact (Reps.c2 (show Kd.M k54 _ _ _ (⟨0, 0⟩ : S54) [.int .i64 0, .int .u64 0] from (k54_mkM _ _ _ (⟨0, 0⟩ : S54) )) (Reps.c2 (show Kd.M k54 _ _ _ (⟨0, 0⟩ : S54) [.int .i64 0, .int .u64 0] from (k54_mkM _ _ _ (⟨0, 0⟩ : S54) )) (Reps.none _ _)))); intro v135 w29 ho30 hb hg_ hnew_; clear hg_ hnew_; (first | rw [← Ny134.out] at ho30 | (simp only [Int.reduceToNat] at ho30; rw [← Ny134.out] at ho30)); have n0_ := Aside0.mk (Kd.R_below (by (with_reducible repeat (first | apply Kd.R_alloc | apply Kd.R_drewN | apply Kd.R_drew)); exact HO130.out) hb); have n1_ := Aside0.mk (Kd.R_lower ho30 (below_size (by repeat (first | (with_reducible first | exact HB.out | apply below_alloc | apply pw_below_drewN | apply below_drew1) | exact HB.out)))); have n2_ := Aside0.mk (below_step (by repeat (first | (with_reducible first | exact HB.out | apply below_alloc | apply pw_below_drewN | apply below_drew1) | exact HB.out)) hb); clear HO130; clear HB; have HO130 := n0_; have HO136 := n1_; have HB := n2_; clear n0_ n1_ n2_; clear hb ho30; obtain ⟨Ao31, co31, eo31⟩ := Kd.R_slice HO136.out; subst eo31) | ((with_reducible refine gate_callee (f := 10) rfl ?_); refine goesL_ (some 21) rfl rfl Try.func10 (by kernel_rfl) rfl #[.slice Ao31 y134.length co31, .slice (some ⟨go3, 0, none⟩) y131.length co3] rfl (by (try simp only [List.map_toArray, List.map_cons, List.map_nil]); first | done | (rw [show y131.length = y128.length from (Kd.R_reads' HO130.out).1.symm] <;> rfl) | rfl | (simp only [List.length_drop, List.length_take]; rfl)) ?_; (with_reducible refine (huff_Put.calls k _ _ y134 _ _ y131 t137 t138 _ ?side1 ?side2 ?side3 ?side4 A5.out).mono ?_); (case side1 => repeat (first | exact (Kd.R_reads' HO136.out).2.2 | (with_reducible refine Kd.C_alloc ?_ _) | (with_reducible refine Kd.C_drewN ?_ _) | (with_reducible refine Kd.C_drew ?_))); (case side2 => exact (Kd.R_reads' HO136.out).2.1); (case side3 => repeat (first | exact (Kd.R_reads' HO130.out).2.2 | (with_reducible refine Kd.C_alloc ?_ _) | (with_reducible refine Kd.C_drewN ?_ _) | (with_reducible refine Kd.C_drew ?_))); (case side4 => rw [show y131.length = y128.length from (Kd.R_reads' HO130.out).1.symm]; exact (Kd.R_reads' HO130.out).2.1); rintro e w32 ⟨rfl, hb⟩; refine ⟨_, rfl, ?_⟩; have n0_ := Aside0.mk (Kd.R_below (by (with_reducible repeat (first | apply Kd.R_alloc | apply Kd.R_drewN | apply Kd.R_drew)); exact HO130.out) hb); have n1_ := Aside0.mk (Kd.R_below (by (with_reducible repeat (first | apply Kd.R_alloc | apply Kd.R_drewN | apply Kd.R_drew)); exact HO136.out) hb); have n2_ := Aside0.mk (below_step (by repeat (first | (with_reducible first | exact HB.out | apply below_alloc | apply pw_below_drewN | apply below_drew1) | exact HB.out)) hb); clear HO130; clear HO136; clear HB; have HO130 := n0_; have HO136 := n1_; have HB := n2_; clear n0_ n1_ n2_; (try clear hb); (try clear hb2); (try clear hk); (try clear hi)) | ((with_reducible refine gate_callee (f := 12) rfl ?_); refine goesL_ (some 27) rfl rfl Try.func12 (by kernel_rfl) rfl #[.string t137, .int .i64 2, .slice (some ⟨go3, 0, none⟩) y131.length co3] rfl (by (try simp only [List.map_toArray, List.map_cons, List.map_nil]); first | done | (rw [show y131.length = y128.length from (Kd.R_reads' HO130.out).1.symm] <;> rfl) | rfl | (simp only [List.length_drop, List.length_take]; rfl)) ?_; (with_reducible refine (huff_Get.calls t137 2 _ _ y131 t139 t140 _ ?side1 ?side2 A6.out).mono ?_); (case side1 => repeat (first | exact (Kd.R_reads' HO130.out).2.2 | (with_reducible refine Kd.C_alloc ?_ _) | (with_reducible refine Kd.C_drewN ?_ _) | (with_reducible refine Kd.C_drew ?_))); (case side2 => rw [show y131.length = y128.length from (Kd.R_reads' HO130.out).1.symm]; exact (Kd.R_reads' HO130.out).2.1); rintro e w33 ⟨v141, rfl, ho0, hb⟩; refine ⟨_, rfl, ?_⟩; have n0_ := Aside0.mk (Kd.R_below (by (with_reducible repeat (first | apply Kd.R_alloc | apply Kd.R_drewN | apply Kd.R_drew)); exact HO130.out) hb); have n1_ := Aside0.mk (Kd.R_elder' (by (with_reducible repeat (first | apply Kd.R_alloc | apply Kd.R_drewN | apply Kd.R_drew)); exact HO136.out) (Kd.R_base ho0) hb); have n2_ := Aside0.mk (Kd.R_lower (Kd.R_new' ho0 (Kd.R_lt (by (with_reducible repeat (first | apply Kd.R_alloc | apply Kd.R_drewN | apply Kd.R_drew)); exact HO136.out))) (below_size (by repeat (first | (with_reducible first | exact HB.out | apply below_alloc | apply pw_below_drewN | apply below_drew1) | exact HB.out)))); have n3_ := Aside0.mk (below_step (by repeat (first | (with_reducible first | exact HB.out | apply below_alloc | apply pw_below_drewN | apply below_drew1) | exact HB.out)) hb); clear HO130; clear HO136; clear HB; have HO130 := n0_; have HO136 := n1_; have HO142 := n2_; have HB := n3_; clear n0_ n1_ n2_ n3_; (try clear hb); (try clear hb2); (try clear hk); (try clear hi); (try clear ho0)) | (go_at_call 14; (with_reducible refine (wringerlaw1_Err.calls t133 t143 _ A8.out).mono ?_); rintro e w' ⟨rfl, ⟨nd, rfl⟩⟩) | (go_at_call 14; (with_reducible refine (wringerlaw1_Err.calls t138 t144 _ A9.out).mono ?_); rintro e w' ⟨rfl, ⟨nd, rfl⟩⟩) | (go_at_call 14; (with_reducible refine (wringerlaw1_Err.calls t140 t145 _ A10.out).mono ?_); rintro e w' ⟨rfl, ⟨nd, rfl⟩⟩))
            go_ret
            exact ⟨by first | rfl | (simp [errW_none, errW_some] <;> rfl) | (simp [*, errW_none, errW_some] <;> rfl), by repeat (first | (with_reducible first | exact HB.out | apply below_alloc | apply pw_below_drewN | apply below_drew1) | exact HB.out)⟩
        · rw [if_neg c11] at H
          have c11b0 : ((wrap64 ((wrap64 (t143 + t144)) + t145)) == 0) = false := beq_eq_false_iff_ne.mpr c11
          have c11b1 : ((wrap64 ((wrap64 (t143 + t144)) + t145)) != 0) = true := bne_iff_ne.mpr c11
          obtain rfl := Option.some.inj H
          go_enter Try.func9, Try.ntmps9
          go_wp2_with (first | ((with_reducible refine gate_dst (N := 8) rfl ?_); (try (refine gate_guard (by rfl) ?_; dsimp only)); refine Kd.R_make (Kd.int .i64) _ 3 rfl (N := 8) rfl 23 _ _ rfl 65 rfl rfl Try.underlying23 (.int .i64 0) 8 info3 rfl (by decide) (by omega) 0 (ok := fun _ => True) (okp := fun _ => True) rfl (fun _ hk => hk) trivial (by omega) (by omega) (Below.refl _ _) (Nat.le_refl _) ?_; intro v129 w34 ho35 hb hg_ hnew_; clear hg_ hnew_; (first | rw [← Ny128.out] at ho35 | (simp only [Int.reduceToNat] at ho35; rw [← Ny128.out] at ho35)); have n0_ := Aside0.mk (Kd.R_lower ho35 (below_size (by repeat (first | (with_reducible first | exact HB.out | apply below_alloc | apply pw_below_drewN | apply below_drew1) | exact HB.out)))); have n1_ := Aside0.mk (below_step (by repeat (first | (with_reducible first | exact HB.out | apply below_alloc | apply pw_below_drewN | apply below_drew1) | exact HB.out)) hb); clear HB; have HO130 := n0_; have HB := n1_; clear n0_ n1_; clear hb ho35; have p3 : 0 ≤ (0 : Int) := (by omega); have q3 : (0 : Int) < ((y128.length : Int) : Int) := of_decide_eq_true (by first | (with_reducible assumption) | assumption); have qi3 : (0 < y128.length) = True := eq_true (by omega); obtain ⟨go3, co3, eo3, gb3, gl3, cl3, HG3⟩ := Kd.R_form HO130.out (by omega); (first | cases eo3 | (injection eo3 with ea_ en_ ec_; (first | subst ea_ | (injection ea_ with ea_; subst ea_)); subst ec_; clear en_)); have GB3 := Aside0.mk gb3; have GG3 := Aside0.mk HG3; clear gb3 gl3 HG3; obtain ⟨hx3_0, hf3_0⟩ := Kd.R_celln 0 HO130.out (0 : Int) p3 q3; (try rw [show ((0 : Int)).toNat = 0 from rfl] at hx3_0); (try simp only [Nat.reduceMul, Nat.zero_mul, Nat.zero_add, Nat.reduceAdd] at hx3_0); (try rw [show ((0 : Int)).toNat = 0 from rfl] at hf3_0); (try simp only [Nat.reduceMul, Nat.zero_mul, Nat.zero_add, Nat.reduceAdd] at hf3_0); replace p3 := eq_true p3; replace q3 := eq_true q3; obtain ⟨hy36_, hz36_⟩ := Kd.R_celln 0 HO130.out (0 : Int) (by omega) (of_decide_eq_true (by first | (with_reducible assumption) | assumption)); (try simp only [Int.reduceToNat, Int.toNat_zero, Int.toNat_ofNat, Nat.reduceMul, Nat.zero_mul, Nat.zero_add] at hy36_ hz36_); (try rw [show ((0 : Int)).toNat = 0 from rfl] at hy36_); (try rw [show ((0 : Int)).toNat = 0 from rfl] at hz36_); have HP36 := Kd.R_putg HO130.out (0 : Int) 1) | ((with_reducible refine gate_store (t := 3) (p := 10) rfl ?_); refine store_event (t := 3) (p := 10) (v := ?vo_w37) (w1 := (w34.setCell ⟨go3, (0 : Int).toNat, none⟩ (.int .i64 1))) ?hg ?ho ?hn ?hr ?_; (case ho => rfl); (case hg => rfl); (case hn => rfl); (case hr => first | (go_simp; done) | (go_simp; rfl)); intro w37 hw; have hg : w34.grownBy w37 (some go3) := (by rw [hw]; exact HP36.2); have hp_ : Kd.R (Kd.int .i64) 3 w37 w.heap.size (fun _ => True) (.slice (some ⟨go3, 0, none⟩) y128.length co3) y131 := (by rw [hw, Ny131.out]; exact HP36.1); clear HP36; have n0_ := Aside0.mk (hp_); have n1_ := Aside0.mk ((by rw [hw]; exact below_set (HB.out) GB3.out : Below w.heap.size w w37)); clear HO130; clear HB; have HO130 := n0_; have HB := n1_; clear n0_ n1_; clear hg hw hp_) | ((with_reducible refine gate_callee (f := 10) rfl ?_); refine goesL_ (some 13) rfl rfl Try.func10 (by kernel_rfl) rfl #[.slice none 0 0, .slice (some ⟨go3, 0, none⟩) y131.length co3] rfl (by (try simp only [List.map_toArray, List.map_cons, List.map_nil]); first | done | (rw [show y131.length = y128.length from (Kd.R_reads' HO130.out).1.symm] <;> rfl) | rfl | (simp only [List.length_drop, List.length_take]; rfl)) ?_; (refine (huff_Put.calls k _ _ ([] : List (S54)) _ _ y131 t132 t133 _ ?side1 ?side2 ?side3 ?side4 A4.out).mono ?_); (case side1 => exact Kd.C_nil _ _); (case side2 => exact Nat.le_refl _); (case side3 => repeat (first | exact (Kd.R_reads' HO130.out).2.2 | (with_reducible refine Kd.C_alloc ?_ _) | (with_reducible refine Kd.C_drewN ?_ _) | (with_reducible refine Kd.C_drew ?_))); (case side4 => rw [show y131.length = y128.length from (Kd.R_reads' HO130.out).1.symm]; exact (Kd.R_reads' HO130.out).2.1); rintro e w38 ⟨rfl, hb⟩; refine ⟨_, rfl, ?_⟩; have n0_ := Aside0.mk (Kd.R_below (by (with_reducible repeat (first | apply Kd.R_alloc | apply Kd.R_drewN | apply Kd.R_drew)); exact HO130.out) hb); have n1_ := Aside0.mk (below_step (by repeat (first | (with_reducible first | exact HB.out | apply below_alloc | apply pw_below_drewN | apply below_drew1) | exact HB.out)) hb); clear HO130; clear HB; have HO130 := n0_; have HB := n1_; clear n0_ n1_; (try clear hb); (try clear hb2); (try clear hk); (try clear hi)) | ((with_reducible refine gate_dst (N := 19) rfl ?_); (try (refine gate_guard (by rfl) ?_; dsimp only)); refine Kd.R_lit k54 _ 54 ?hg (N := 19) ?hd (xs := ([(⟨0, 0⟩ : S54), (⟨0, 0⟩ : S54)] : List (S54))) (inner := [.int .i64 0, .int .u64 0, .int .i64 0, .int .u64 0]) (ok := fun _ => True) (okp := fun _ => True) ?hr ?hp (fun _ hk => hk) trivial (Below.refl _ _) (Nat.le_refl _) (by simp) ?_; (case hd => rfl); (case hg => rfl); (case hr => first | (go_simp; done) | (go_simp; rfl)); (case hp => exact (Reps.c2 (show Kd.M k54 _ _ _ (⟨0, 0⟩ : S54) [.int .i64 0, .int .u64 0] from (k54_mkM _ _ _ (⟨0, 0⟩ : S54) )) (Reps.c2 (show Kd.M k54 _ _ _ (⟨0, 0⟩ : S54) [.int .i64 0, .int .u64 0] from (k54_mkM _ _ _ (⟨0, 0⟩ : S54) )) (Reps.none _ _)))); intro v135 w39 ho40 hb hg_ hnew_; clear hg_ hnew_; (first | rw [← Ny134.out] at ho40 | (simp only [Int.reduceToNat] at ho40; rw [← Ny134.out] at ho40)); have n0_ := Aside0.mk (Kd.R_below (by (with_reducible repeat (first | apply Kd.R_alloc | apply Kd.R_drewN | apply Kd.R_drew)); exact HO130.out) hb); have n1_ := Aside0.mk (Kd.R_lower ho40 (below_size (by repeat (first | (with_reducible first | exact HB.out | apply below_alloc | apply pw_below_drewN | apply below_drew1) | exact HB.out)))); have n2_ := Aside0.mk (below_step (by repeat (first | (with_reducible first | exact HB.out | apply below_alloc | apply pw_below_drewN | apply below_drew1) | exact HB.out)) hb); clear HO130; clear HB; have HO130 := n0_; have HO136 := n1_; have HB := n2_; clear n0_ n1_ n2_; clear hb ho40; obtain ⟨Ao41, co41, eo41⟩ := Kd.R_slice HO136.out; subst eo41) | ((with_reducible refine gate_callee (f := 10) rfl ?_); refine goesL_ (some 21) rfl rfl Try.func10 (by kernel_rfl) rfl #[.slice Ao41 y134.length co41, .slice (some ⟨go3, 0, none⟩) y131.length co3] rfl (by (try simp only [List.map_toArray, List.map_cons, List.map_nil]); first | done | (rw [show y131.length = y128.length from (Kd.R_reads' HO130.out).1.symm] <;> rfl) | rfl | (simp only [List.length_drop, List.length_take]; rfl)) ?_; (with_reducible refine (huff_Put.calls k _ _ y134 _ _ y131 t137 t138 _ ?side1 ?side2 ?side3 ?side4 A5.out).mono ?_); (case side1 => repeat (first | exact (Kd.R_reads' HO136.out).2.2 | (with_reducible refine Kd.C_alloc ?_ _) | (with_reducible refine Kd.C_drewN ?_ _) | (with_reducible refine Kd.C_drew ?_))); (case side2 => exact (Kd.R_reads' HO136.out).2.1); (case side3 => repeat (first | exact (Kd.R_reads' HO130.out).2.2 | (with_reducible refine Kd.C_alloc ?_ _) | (with_reducible refine Kd.C_drewN ?_ _) | (with_reducible refine Kd.C_drew ?_))); (case side4 => rw [show y131.length = y128.length from (Kd.R_reads' HO130.out).1.symm]; exact (Kd.R_reads' HO130.out).2.1); rintro e w42 ⟨rfl, hb⟩; refine ⟨_, rfl, ?_⟩; have n0_ := Aside0.mk (Kd.R_below (by (with_reducible repeat (first | apply Kd.R_alloc | apply Kd.R_drewN | apply Kd.R_drew)); exact HO130.out) hb); have n1_ := Aside0.mk (Kd.R_below (by (with_reducible repeat (first | apply Kd.R_alloc | apply Kd.R_drewN | apply Kd.R_drew)); exact HO136.out) hb); have n2_ := Aside0.mk (below_step (by repeat (first | (with_reducible first | exact HB.out | apply below_alloc | apply pw_below_drewN | apply below_drew1) | exact HB.out)) hb); clear HO130; clear HO136; clear HB; have HO130 := n0_; have HO136 := n1_; have HB := n2_; clear n0_ n1_ n2_; (try clear hb); (try clear hb2); (try clear hk); (try clear hi)) | ((with_reducible refine gate_callee (f := 12) rfl ?_); refine goesL_ (some 27) rfl rfl Try.func12 (by kernel_rfl) rfl #[.string t137, .int .i64 2, .slice (some ⟨go3, 0, none⟩) y131.length co3] rfl (by (try simp only [List.map_toArray, List.map_cons, List.map_nil]); first | done | (rw [show y131.length = y128.length from (Kd.R_reads' HO130.out).1.symm] <;> rfl) | rfl | (simp only [List.length_drop, List.length_take]; rfl)) ?_; (with_reducible refine (huff_Get.calls t137 2 _ _ y131 t139 t140 _ ?side1 ?side2 A6.out).mono ?_); (case side1 => repeat (first | exact (Kd.R_reads' HO130.out).2.2 | (with_reducible refine Kd.C_alloc ?_ _) | (with_reducible refine Kd.C_drewN ?_ _) | (with_reducible refine Kd.C_drew ?_))); (case side2 => rw [show y131.length = y128.length from (Kd.R_reads' HO130.out).1.symm]; exact (Kd.R_reads' HO130.out).2.1); rintro e w43 ⟨v141, rfl, ho0, hb⟩; refine ⟨_, rfl, ?_⟩; have n0_ := Aside0.mk (Kd.R_below (by (with_reducible repeat (first | apply Kd.R_alloc | apply Kd.R_drewN | apply Kd.R_drew)); exact HO130.out) hb); have n1_ := Aside0.mk (Kd.R_elder' (by (with_reducible repeat (first | apply Kd.R_alloc | apply Kd.R_drewN | apply Kd.R_drew)); exact HO136.out) (Kd.R_base ho0) hb); have n2_ := Aside0.mk (Kd.R_lower (Kd.R_new' ho0 (Kd.R_lt (by (with_reducible repeat (first | apply Kd.R_alloc | apply Kd.R_drewN | apply Kd.R_drew)); exact HO136.out))) (below_size (by repeat (first | (with_reducible first | exact HB.out | apply below_alloc | apply pw_below_drewN | apply below_drew1) | exact HB.out)))); have n3_ := Aside0.mk (below_step (by repeat (first | (with_reducible first | exact HB.out | apply below_alloc | apply pw_below_drewN | apply below_drew1) | exact HB.out)) hb); clear HO130; clear HO136; clear HB; have HO130 := n0_; have HO136 := n1_; have HO142 := n2_; have HB := n3_; clear n0_ n1_ n2_ n3_; (try clear hb); (try clear hb2); (try clear hk); (try clear hi); (try clear ho0)) | (go_at_call 14; (with_reducible refine (wringerlaw1_Err.calls t133 t143 _ A8.out).mono ?_); rintro e w' ⟨rfl, ⟨nd, rfl⟩⟩) | (go_at_call 14; (with_reducible refine (wringerlaw1_Err.calls t138 t144 _ A9.out).mono ?_); rintro e w' ⟨rfl, ⟨nd, rfl⟩⟩) | (go_at_call 14; (with_reducible refine (wringerlaw1_Err.calls t140 t145 _ A10.out).mono ?_); rintro e w' ⟨rfl, ⟨nd, rfl⟩⟩))
          go_ret
          exact ⟨by first | rfl | (simp [errW_none, errW_some] <;> rfl) | (simp [*, errW_none, errW_some] <;> rfl), by repeat (first | (with_reducible first | exact HB.out | apply below_alloc | apply pw_below_drewN | apply below_drew1) | exact HB.out)⟩
      · rw [if_neg c7] at H
        have c7b0 : (t132.toList == ([] : List UInt8)) = false := beq_eq_false_iff_ne.mpr c7
        have c7b1 : (t132.toList != ([] : List UInt8)) = true := bne_iff_ne.mpr c7
        obtain rfl := Option.some.inj H
        go_enter Try.func9, Try.ntmps9
        go_wp2_with (first | ((with_reducible refine gate_dst (N := 8) rfl ?_); (try (refine gate_guard (by rfl) ?_; dsimp only)); refine Kd.R_make (Kd.int .i64) _ 3 rfl (N := 8) rfl 23 _ _ rfl 65 rfl rfl Try.underlying23 (.int .i64 0) 8 info3 rfl (by decide) (by omega) 0 (ok := fun _ => True) (okp := fun _ => True) rfl (fun _ hk => hk) trivial (by omega) (by omega) (Below.refl _ _) (Nat.le_refl _) ?_; intro v129 w44 ho45 hb hg_ hnew_; clear hg_ hnew_; (first | rw [← Ny128.out] at ho45 | (simp only [Int.reduceToNat] at ho45; rw [← Ny128.out] at ho45)); have n0_ := Aside0.mk (Kd.R_lower ho45 (below_size (by repeat (first | (with_reducible first | exact HB.out | apply below_alloc | apply pw_below_drewN | apply below_drew1) | exact HB.out)))); have n1_ := Aside0.mk (below_step (by repeat (first | (with_reducible first | exact HB.out | apply below_alloc | apply pw_below_drewN | apply below_drew1) | exact HB.out)) hb); clear HB; have HO130 := n0_; have HB := n1_; clear n0_ n1_; clear hb ho45; have p3 : 0 ≤ (0 : Int) := (by omega); have q3 : (0 : Int) < ((y128.length : Int) : Int) := of_decide_eq_true (by first | (with_reducible assumption) | assumption); have qi3 : (0 < y128.length) = True := eq_true (by omega); obtain ⟨go3, co3, eo3, gb3, gl3, cl3, HG3⟩ := Kd.R_form HO130.out (by omega); (first | cases eo3 | (injection eo3 with ea_ en_ ec_; (first | subst ea_ | (injection ea_ with ea_; subst ea_)); subst ec_; clear en_)); have GB3 := Aside0.mk gb3; have GG3 := Aside0.mk HG3; clear gb3 gl3 HG3; obtain ⟨hx3_0, hf3_0⟩ := Kd.R_celln 0 HO130.out (0 : Int) p3 q3; (try rw [show ((0 : Int)).toNat = 0 from rfl] at hx3_0); (try simp only [Nat.reduceMul, Nat.zero_mul, Nat.zero_add, Nat.reduceAdd] at hx3_0); (try rw [show ((0 : Int)).toNat = 0 from rfl] at hf3_0); (try simp only [Nat.reduceMul, Nat.zero_mul, Nat.zero_add, Nat.reduceAdd] at hf3_0); replace p3 := eq_true p3; replace q3 := eq_true q3; obtain ⟨hy46_, hz46_⟩ := Kd.R_celln 0 HO130.out (0 : Int) (by omega) (of_decide_eq_true (by first | (with_reducible assumption) | assumption)); (try simp only [Int.reduceToNat, Int.toNat_zero, Int.toNat_ofNat, Nat.reduceMul, Nat.zero_mul, Nat.zero_add] at hy46_ hz46_); (try rw [show ((0 : Int)).toNat = 0 from rfl] at hy46_); (try rw [show ((0 : Int)).toNat = 0 from rfl] at hz46_); have HP46 := Kd.R_putg HO130.out (0 : Int) 1) | ((with_reducible refine gate_store (t := 3) (p := 10) rfl ?_); refine store_event (t := 3) (p := 10) (v := ?vo_w47) (w1 := (w44.setCell ⟨go3, (0 : Int).toNat, none⟩ (.int .i64 1))) ?hg ?ho ?hn ?hr ?_; (case ho => rfl); (case hg => rfl); (case hn => rfl); (case hr => first | (go_simp; done) | (go_simp; rfl)); intro w47 hw; have hg : w44.grownBy w47 (some go3) := (by rw [hw]; exact HP46.2); have hp_ : Kd.R (Kd.int .i64) 3 w47 w.heap.size (fun _ => True) (.slice (some ⟨go3, 0, none⟩) y128.length co3) y131 := (by rw [hw, Ny131.out]; exact HP46.1); clear HP46; have n0_ := Aside0.mk (hp_); have n1_ := Aside0.mk ((by rw [hw]; exact below_set (HB.out) GB3.out : Below w.heap.size w w47)); clear HO130; clear HB; have HO130 := n0_; have HB := n1_; clear n0_ n1_; clear hg hw hp_) | ((with_reducible refine gate_callee (f := 10) rfl ?_); refine goesL_ (some 13) rfl rfl Try.func10 (by kernel_rfl) rfl #[.slice none 0 0, .slice (some ⟨go3, 0, none⟩) y131.length co3] rfl (by (try simp only [List.map_toArray, List.map_cons, List.map_nil]); first | done | (rw [show y131.length = y128.length from (Kd.R_reads' HO130.out).1.symm] <;> rfl) | rfl | (simp only [List.length_drop, List.length_take]; rfl)) ?_; (refine (huff_Put.calls k _ _ ([] : List (S54)) _ _ y131 t132 t133 _ ?side1 ?side2 ?side3 ?side4 A4.out).mono ?_); (case side1 => exact Kd.C_nil _ _); (case side2 => exact Nat.le_refl _); (case side3 => repeat (first | exact (Kd.R_reads' HO130.out).2.2 | (with_reducible refine Kd.C_alloc ?_ _) | (with_reducible refine Kd.C_drewN ?_ _) | (with_reducible refine Kd.C_drew ?_))); (case side4 => rw [show y131.length = y128.length from (Kd.R_reads' HO130.out).1.symm]; exact (Kd.R_reads' HO130.out).2.1); rintro e w48 ⟨rfl, hb⟩; refine ⟨_, rfl, ?_⟩; have n0_ := Aside0.mk (Kd.R_below (by (with_reducible repeat (first | apply Kd.R_alloc | apply Kd.R_drewN | apply Kd.R_drew)); exact HO130.out) hb); have n1_ := Aside0.mk (below_step (by repeat (first | (with_reducible first | exact HB.out | apply below_alloc | apply pw_below_drewN | apply below_drew1) | exact HB.out)) hb); clear HO130; clear HB; have HO130 := n0_; have HB := n1_; clear n0_ n1_; (try clear hb); (try clear hb2); (try clear hk); (try clear hi)) | ((with_reducible refine gate_dst (N := 19) rfl ?_); (try (refine gate_guard (by rfl) ?_; dsimp only)); refine Kd.R_lit k54 _ 54 ?hg (N := 19) ?hd (xs := ([(⟨0, 0⟩ : S54), (⟨0, 0⟩ : S54)] : List (S54))) (inner := [.int .i64 0, .int .u64 0, .int .i64 0, .int .u64 0]) (ok := fun _ => True) (okp := fun _ => True) ?hr ?hp (fun _ hk => hk) trivial (Below.refl _ _) (Nat.le_refl _) (by simp) ?_; (case hd => rfl); (case hg => rfl); (case hr => first | (go_simp; done) | (go_simp; rfl)); (case hp => exact (Reps.c2 (show Kd.M k54 _ _ _ (⟨0, 0⟩ : S54) [.int .i64 0, .int .u64 0] from (k54_mkM _ _ _ (⟨0, 0⟩ : S54) )) (Reps.c2 (show Kd.M k54 _ _ _ (⟨0, 0⟩ : S54) [.int .i64 0, .int .u64 0] from (k54_mkM _ _ _ (⟨0, 0⟩ : S54) )) (Reps.none _ _)))); intro v135 w49 ho50 hb hg_ hnew_; clear hg_ hnew_; (first | rw [← Ny134.out] at ho50 | (simp only [Int.reduceToNat] at ho50; rw [← Ny134.out] at ho50)); have n0_ := Aside0.mk (Kd.R_below (by (with_reducible repeat (first | apply Kd.R_alloc | apply Kd.R_drewN | apply Kd.R_drew)); exact HO130.out) hb); have n1_ := Aside0.mk (Kd.R_lower ho50 (below_size (by repeat (first | (with_reducible first | exact HB.out | apply below_alloc | apply pw_below_drewN | apply below_drew1) | exact HB.out)))); have n2_ := Aside0.mk (below_step (by repeat (first | (with_reducible first | exact HB.out | apply below_alloc | apply pw_below_drewN | apply below_drew1) | exact HB.out)) hb); clear HO130; clear HB; have HO130 := n0_; have HO136 := n1_; have HB := n2_; clear n0_ n1_ n2_; clear hb ho50; obtain ⟨Ao51, co51, eo51⟩ := Kd.R_slice HO136.out; subst eo51) | ((with_reducible refine gate_callee (f := 10) rfl ?_); refine goesL_ (some 21) rfl rfl Try.func10 (by kernel_rfl) rfl #[.slice Ao51 y134.length co51, .slice (some ⟨go3, 0, none⟩) y131.length co3] rfl (by (try simp only [List.map_toArray, List.map_cons, List.map_nil]); first | done | (rw [show y131.length = y128.length from (Kd.R_reads' HO130.out).1.symm] <;> rfl) | rfl | (simp only [List.length_drop, List.length_take]; rfl)) ?_; (with_reducible refine (huff_Put.calls k _ _ y134 _ _ y131 t137 t138 _ ?side1 ?side2 ?side3 ?side4 A5.out).mono ?_); (case side1 => repeat (first | exact (Kd.R_reads' HO136.out).2.2 | (with_reducible refine Kd.C_alloc ?_ _) | (with_reducible refine Kd.C_drewN ?_ _) | (with_reducible refine Kd.C_drew ?_))); (case side2 => exact (Kd.R_reads' HO136.out).2.1); (case side3 => repeat (first | exact (Kd.R_reads' HO130.out).2.2 | (with_reducible refine Kd.C_alloc ?_ _) | (with_reducible refine Kd.C_drewN ?_ _) | (with_reducible refine Kd.C_drew ?_))); (case side4 => rw [show y131.length = y128.length from (Kd.R_reads' HO130.out).1.symm]; exact (Kd.R_reads' HO130.out).2.1); rintro e w52 ⟨rfl, hb⟩; refine ⟨_, rfl, ?_⟩; have n0_ := Aside0.mk (Kd.R_below (by (with_reducible repeat (first | apply Kd.R_alloc | apply Kd.R_drewN | apply Kd.R_drew)); exact HO130.out) hb); have n1_ := Aside0.mk (Kd.R_below (by (with_reducible repeat (first | apply Kd.R_alloc | apply Kd.R_drewN | apply Kd.R_drew)); exact HO136.out) hb); have n2_ := Aside0.mk (below_step (by repeat (first | (with_reducible first | exact HB.out | apply below_alloc | apply pw_below_drewN | apply below_drew1) | exact HB.out)) hb); clear HO130; clear HO136; clear HB; have HO130 := n0_; have HO136 := n1_; have HB := n2_; clear n0_ n1_ n2_; (try clear hb); (try clear hb2); (try clear hk); (try clear hi)) | ((with_reducible refine gate_callee (f := 12) rfl ?_); refine goesL_ (some 27) rfl rfl Try.func12 (by kernel_rfl) rfl #[.string t137, .int .i64 2, .slice (some ⟨go3, 0, none⟩) y131.length co3] rfl (by (try simp only [List.map_toArray, List.map_cons, List.map_nil]); first | done | (rw [show y131.length = y128.length from (Kd.R_reads' HO130.out).1.symm] <;> rfl) | rfl | (simp only [List.length_drop, List.length_take]; rfl)) ?_; (with_reducible refine (huff_Get.calls t137 2 _ _ y131 t139 t140 _ ?side1 ?side2 A6.out).mono ?_); (case side1 => repeat (first | exact (Kd.R_reads' HO130.out).2.2 | (with_reducible refine Kd.C_alloc ?_ _) | (with_reducible refine Kd.C_drewN ?_ _) | (with_reducible refine Kd.C_drew ?_))); (case side2 => rw [show y131.length = y128.length from (Kd.R_reads' HO130.out).1.symm]; exact (Kd.R_reads' HO130.out).2.1); rintro e w53 ⟨v141, rfl, ho0, hb⟩; refine ⟨_, rfl, ?_⟩; have n0_ := Aside0.mk (Kd.R_below (by (with_reducible repeat (first | apply Kd.R_alloc | apply Kd.R_drewN | apply Kd.R_drew)); exact HO130.out) hb); have n1_ := Aside0.mk (Kd.R_elder' (by (with_reducible repeat (first | apply Kd.R_alloc | apply Kd.R_drewN | apply Kd.R_drew)); exact HO136.out) (Kd.R_base ho0) hb); have n2_ := Aside0.mk (Kd.R_lower (Kd.R_new' ho0 (Kd.R_lt (by (with_reducible repeat (first | apply Kd.R_alloc | apply Kd.R_drewN | apply Kd.R_drew)); exact HO136.out))) (below_size (by repeat (first | (with_reducible first | exact HB.out | apply below_alloc | apply pw_below_drewN | apply below_drew1) | exact HB.out)))); have n3_ := Aside0.mk (below_step (by repeat (first | (with_reducible first | exact HB.out | apply below_alloc | apply pw_below_drewN | apply below_drew1) | exact HB.out)) hb); clear HO130; clear HO136; clear HB; have HO130 := n0_; have HO136 := n1_; have HO142 := n2_; have HB := n3_; clear n0_ n1_ n2_ n3_; (try clear hb); (try clear hb2); (try clear hk); (try clear hi); (try clear ho0)))
        go_ret
        exact ⟨by first | rfl | (simp [errW_none, errW_some] <;> rfl) | (simp [*, errW_none, errW_some] <;> rfl), by repeat (first | (with_reducible first | exact HB.out | apply below_alloc | apply pw_below_drewN | apply below_drew1) | exact HB.out)⟩
    · rw [if_neg c2] at H
      exact absurd H (by simp)
  · rw [if_neg c1] at H
    exact absurd H (by simp)

end Go.Proofs.Ytnakjencodicmaa.PA

-- ---- PAx52

namespace Go.Proofs.Ytnakjencodicmaa.PA
open Go.RowKit Go.Proofs.YtnakjencodicmaaW.PrintWords Go.Proofs.YtnakjencodicmaaW.PrintLast Go.Proofs.YtnakjencodicmaaW.PrintMore
attribute [local go_sem] max2_int min2_int max_two min_two max_three min_three max_four min_four   -- for this text's walks alone
set_option linter.unusedVariables false
set_option linter.unusedSimpArgs false

/-! ### wringerlaw11_known: function 21 -/
def wringerlaw11_known.f  : Option (List Int) := if 65 ≤ 35184372088832 then ((some (List.replicate 65 0 : List Int)).bind fun y331 => (if 0 < (y331.length : Int) then (if 1 < (y331.length : Int) then (if 3 < (y331.length : Int) then (some (((y331.set (0 : Int).toNat 1).set (1 : Int).toNat 2).set (3 : Int).toNat 2)) else (none)) else (none)) else (none))) else (none)
set_option maxHeartbeats 8000000 in
set_option maxRecDepth 100000 in
theorem wringerlaw11_known.calls  (r : List Int) (w : World) (h : wringerlaw11_known.f  = some r) :
    Calls Try.prog 21 #[] w fun e w' => ∃ v0_ : Value, e = .returned (v0_) ∧ Kd.R (Kd.int .i64) 3 w' w.heap.size (fun _ => True) v0_ r ∧ Below w.heap.size w w' := by
  have HB := Aside0.mk (Below.refl w.heap.size w)
  have H : (if 65 ≤ 35184372088832 then ((some (List.replicate 65 0 : List Int)).bind fun y331 => (if 0 < (y331.length : Int) then (if 1 < (y331.length : Int) then (if 3 < (y331.length : Int) then (some (((y331.set (0 : Int).toNat 1).set (1 : Int).toNat 2).set (3 : Int).toNat 2)) else (none)) else (none)) else (none))) else (none)) = some r := h
  clear h
  by_cases c1 : 65 ≤ 35184372088832
  · rw [if_pos c1] at H
    have c1b0 := eq_true c1
    have c1b1 : decide (65 ≤ 35184372088832) = true := decide_eq_true c1
    clear c1
    obtain ⟨y331, hy331⟩ : ∃ y_ : List Int, y_ = (List.replicate 65 0) := ⟨_, rfl⟩
    replace H : (if 0 < (y331.length : Int) then (if 1 < (y331.length : Int) then (if 3 < (y331.length : Int) then (some (((y331.set (0 : Int).toNat 1).set (1 : Int).toNat 2).set (3 : Int).toNat 2)) else (none)) else (none)) else (none)) = some r := by first | (rw [hy331]; with_reducible exact H) | (have H2_ := (Option.bind_some _ _).symm.trans H; rw [hy331]; with_reducible exact H2_) | (have H2_ := (Option.bind_some _ _).symm.trans H; with_reducible exact H2_) | with_reducible exact H | (rw [hy331]; exact H) | exact H
    have Ny331 := Aside0.mk hy331
    clear hy331
    by_cases c2 : 0 < (y331.length : Int)
    · rw [if_pos c2] at H
      have c2b0 : decide (0 < (y331.length : Int)) = true := decide_eq_true c2
      have c2b1 : decide (0 < y331.length) = true := decide_eq_true (by omega)
      clear c2
      obtain ⟨y334, hy334⟩ : ∃ y_ : List Int, y_ = (y331.set (0 : Int).toNat 1) := ⟨_, rfl⟩
      replace H : (if 1 < (y331.length : Int) then (if 3 < (y331.length : Int) then (some ((y334.set (1 : Int).toNat 2).set (3 : Int).toNat 2)) else (none)) else (none)) = some r := by first | (rw [hy334]; with_reducible exact H) | (have H2_ := (Option.bind_some _ _).symm.trans H; rw [hy334]; with_reducible exact H2_) | (have H2_ := (Option.bind_some _ _).symm.trans H; with_reducible exact H2_) | with_reducible exact H | (rw [hy334]; exact H) | exact H
      have Ny334 := Aside0.mk hy334
      clear hy334
      by_cases c4 : 1 < (y331.length : Int)
      · rw [if_pos c4] at H
        have c4b0 : decide (1 < (y331.length : Int)) = true := decide_eq_true c4
        have c4b1 : decide (1 < y331.length) = true := decide_eq_true (by omega)
        clear c4
        obtain ⟨y335, hy335⟩ : ∃ y_ : List Int, y_ = (y334.set (1 : Int).toNat 2) := ⟨_, rfl⟩
        replace H : (if 3 < (y331.length : Int) then (some (y335.set (3 : Int).toNat 2)) else (none)) = some r := by first | (rw [hy335]; with_reducible exact H) | (have H2_ := (Option.bind_some _ _).symm.trans H; rw [hy335]; with_reducible exact H2_) | (have H2_ := (Option.bind_some _ _).symm.trans H; with_reducible exact H2_) | with_reducible exact H | (rw [hy335]; exact H) | exact H
        have Ny335 := Aside0.mk hy335
        clear hy335
        by_cases c6 : 3 < (y331.length : Int)
        · rw [if_pos c6] at H
          have c6b0 : decide (3 < (y331.length : Int)) = true := decide_eq_true c6
          have c6b1 : decide (3 < y331.length) = true := decide_eq_true (by omega)
          clear c6
          obtain ⟨y336, hy336⟩ : ∃ y_ : List Int, y_ = (y335.set (3 : Int).toNat 2) := ⟨_, rfl⟩
          replace H : (some y336) = some r := by first | (rw [hy336]; with_reducible exact H) | (have H2_ := (Option.bind_some _ _).symm.trans H; rw [hy336]; with_reducible exact H2_) | (have H2_ := (Option.bind_some _ _).symm.trans H; with_reducible exact H2_) | with_reducible exact H | (rw [hy336]; exact H) | exact H
          have Ny336 := Aside0.mk hy336
          clear hy336
          obtain rfl := Option.some.inj H
          go_enter Try.func21, Try.ntmps21
          go_wp2_with (first | ((with_reducible refine gate_dst (N := 2) rfl ?_); refine Kd.R_make (Kd.int .i64) _ 3 rfl (N := 2) rfl 23 _ _ rfl 65 rfl rfl Try.underlying23 (.int .i64 0) 8 info3 rfl (by decide) (by omega) 0 (ok := fun _ => True) (okp := fun _ => True) rfl (fun _ hk => hk) trivial (by omega) (by omega) (Below.refl _ _) (Nat.le_refl _) ?_; intro v332 w8 ho9 hb hg_ hnew_; clear hg_ hnew_; (first | rw [← Ny331.out] at ho9 | (simp only [Int.reduceToNat] at ho9; rw [← Ny331.out] at ho9)); have n0_ := Aside0.mk (Kd.R_lower ho9 (below_size (by repeat (first | (with_reducible first | exact HB.out | apply below_alloc | apply pw_below_drewN | apply below_drew1) | exact HB.out)))); have n1_ := Aside0.mk (below_step (by repeat (first | (with_reducible first | exact HB.out | apply below_alloc | apply pw_below_drewN | apply below_drew1) | exact HB.out)) hb); clear HB; have HO333 := n0_; have HB := n1_; clear n0_ n1_; clear hb ho9; have p3 : 0 ≤ (0 : Int) := (by omega); have q3 : (0 : Int) < ((y331.length : Int) : Int) := of_decide_eq_true (by first | (with_reducible assumption) | assumption); have qi3 : (0 < y331.length) = True := eq_true (by omega); obtain ⟨go3, co3, eo3, gb3, gl3, cl3, HG3⟩ := Kd.R_form HO333.out (by omega); (first | cases eo3 | (injection eo3 with ea_ en_ ec_; (first | subst ea_ | (injection ea_ with ea_; subst ea_)); subst ec_; clear en_)); have GB3 := Aside0.mk gb3; have GG3 := Aside0.mk HG3; clear gb3 gl3 HG3; obtain ⟨hx3_0, hf3_0⟩ := Kd.R_celln 0 HO333.out (0 : Int) p3 q3; (try rw [show ((0 : Int)).toNat = 0 from rfl] at hx3_0); (try simp only [Nat.reduceMul, Nat.zero_mul, Nat.zero_add, Nat.reduceAdd] at hx3_0); (try rw [show ((0 : Int)).toNat = 0 from rfl] at hf3_0); (try simp only [Nat.reduceMul, Nat.zero_mul, Nat.zero_add, Nat.reduceAdd] at hf3_0); replace p3 := eq_true p3; replace q3 := eq_true q3; obtain ⟨hy10_, hz10_⟩ := Kd.R_celln 0 HO333.out (0 : Int) (by omega) (of_decide_eq_true (by first | (with_reducible assumption) | assumption)); (try simp only [Int.reduceToNat, Int.toNat_zero, Int.toNat_ofNat, Nat.reduceMul, Nat.zero_mul, Nat.zero_add] at hy10_ hz10_); (try rw [show ((0 : Int)).toNat = 0 from rfl] at hy10_); (try rw [show ((0 : Int)).toNat = 0 from rfl] at hz10_); have HP10 := Kd.R_putg HO333.out (0 : Int) 1) | ((with_reducible refine gate_store (t := 3) (p := 4) rfl ?_); refine store_event (t := 3) (p := 4) (v := ?vo_w11) (w1 := (w8.setCell ⟨go3, (0 : Int).toNat, none⟩ (.int .i64 1))) ?hg ?ho ?hn ?hr ?_; (case ho => rfl); (case hg => rfl); (case hn => rfl); (case hr => first | (go_simp; done) | (go_simp; rfl)); intro w11 hw; have hg : w8.grownBy w11 (some go3) := (by rw [hw]; exact HP10.2); have hp_ : Kd.R (Kd.int .i64) 3 w11 w.heap.size (fun _ => True) (.slice (some ⟨go3, 0, none⟩) y331.length co3) y334 := (by rw [hw, Ny334.out]; exact HP10.1); clear HP10; have n0_ := Aside0.mk (hp_); have n1_ := Aside0.mk ((by rw [hw]; exact below_set (HB.out) GB3.out : Below w.heap.size w w11)); clear HO333; clear HB; have HO333 := n0_; have HB := n1_; clear n0_ n1_; clear hg hw hp_; have p5 : 0 ≤ (1 : Int) := (by omega); have q5 : (1 : Int) < ((y331.length : Int) : Int) := of_decide_eq_true (by first | (with_reducible assumption) | assumption); have qi5 : (1 < y331.length) = True := eq_true (by omega); obtain ⟨hx5_0, hf5_0⟩ := Kd.R_celln 0 HO333.out (1 : Int) p5 q5; (try rw [show ((1 : Int)).toNat = 1 from rfl] at hx5_0); (try simp only [Nat.reduceMul, Nat.zero_mul, Nat.zero_add, Nat.reduceAdd] at hx5_0); (try rw [show ((1 : Int)).toNat = 1 from rfl] at hf5_0); (try simp only [Nat.reduceMul, Nat.zero_mul, Nat.zero_add, Nat.reduceAdd] at hf5_0); replace p5 := eq_true p5; replace q5 := eq_true q5; obtain ⟨hy12_, hz12_⟩ := Kd.R_celln 0 HO333.out (1 : Int) (by omega) (of_decide_eq_true (by first | (with_reducible assumption) | assumption)); (try simp only [Int.reduceToNat, Int.toNat_zero, Int.toNat_ofNat, Nat.reduceMul, Nat.zero_mul, Nat.zero_add] at hy12_ hz12_); (try rw [show ((1 : Int)).toNat = 1 from rfl] at hy12_); (try rw [show ((1 : Int)).toNat = 1 from rfl] at hz12_); have HP12 := Kd.R_putg HO333.out (1 : Int) 2) | ((with_reducible refine gate_store (t := 3) (p := 6) rfl ?_); refine store_event (t := 3) (p := 6) (v := ?vo_w13) (w1 := (w11.setCell ⟨go3, (1 : Int).toNat, none⟩ (.int .i64 2))) ?hg ?ho ?hn ?hr ?_; (case ho => rfl); (case hg => rfl); (case hn => rfl); (case hr => first | (go_simp; done) | (go_simp; rfl)); intro w13 hw; have hg : w11.grownBy w13 (some go3) := (by rw [hw]; exact HP12.2); have hp_ : Kd.R (Kd.int .i64) 3 w13 w.heap.size (fun _ => True) (.slice (some ⟨go3, 0, none⟩) y331.length co3) y335 := (by rw [hw, Ny335.out]; exact HP12.1); clear HP12; have n0_ := Aside0.mk (hp_); have n1_ := Aside0.mk ((by rw [hw]; exact below_set (HB.out) GB3.out : Below w.heap.size w w13)); clear HO333; clear HB; have HO333 := n0_; have HB := n1_; clear n0_ n1_; clear hg hw hp_; have p7 : 0 ≤ (3 : Int) := (by omega); have q7 : (3 : Int) < ((y331.length : Int) : Int) := of_decide_eq_true (by first | (with_reducible assumption) | assumption); have qi7 : (3 < y331.length) = True := eq_true (by omega); obtain ⟨hx7_0, hf7_0⟩ := Kd.R_celln 0 HO333.out (3 : Int) p7 q7; (try rw [show ((3 : Int)).toNat = 3 from rfl] at hx7_0); (try simp only [Nat.reduceMul, Nat.zero_mul, Nat.zero_add, Nat.reduceAdd] at hx7_0); (try rw [show ((3 : Int)).toNat = 3 from rfl] at hf7_0); (try simp only [Nat.reduceMul, Nat.zero_mul, Nat.zero_add, Nat.reduceAdd] at hf7_0); replace p7 := eq_true p7; replace q7 := eq_true q7; obtain ⟨hy14_, hz14_⟩ := Kd.R_celln 0 HO333.out (3 : Int) (by omega) (of_decide_eq_true (by first | (with_reducible assumption) | assumption)); (try simp only [Int.reduceToNat, Int.toNat_zero, Int.toNat_ofNat, Nat.reduceMul, Nat.zero_mul, Nat.zero_add] at hy14_ hz14_); (try rw [show ((3 : Int)).toNat = 3 from rfl] at hy14_); (try rw [show ((3 : Int)).toNat = 3 from rfl] at hz14_); have HP14 := Kd.R_putg HO333.out (3 : Int) 2) | ((with_reducible refine gate_store (t := 3) (p := 8) rfl ?_); refine store_event (t := 3) (p := 8) (v := ?vo_w15) (w1 := (w13.setCell ⟨go3, (3 : Int).toNat, none⟩ (.int .i64 2))) ?hg ?ho ?hn ?hr ?_; (case ho => rfl); (case hg => rfl); (case hn => rfl); (case hr => first | (go_simp; done) | (go_simp; rfl)); intro w15 hw; have hg : w13.grownBy w15 (some go3) := (by rw [hw]; exact HP14.2); have hp_ : Kd.R (Kd.int .i64) 3 w15 w.heap.size (fun _ => True) (.slice (some ⟨go3, 0, none⟩) y331.length co3) y336 := (by rw [hw, Ny336.out]; exact HP14.1); clear HP14; have n0_ := Aside0.mk (hp_); have n1_ := Aside0.mk ((by rw [hw]; exact below_set (HB.out) GB3.out : Below w.heap.size w w15)); clear HO333; clear HB; have HO333 := n0_; have HB := n1_; clear n0_ n1_; clear hg hw hp_))
          go_ret
          exact ⟨_, by first | rfl | (simp [errW_none, errW_some] <;> rfl) | (simp [*, errW_none, errW_some] <;> rfl), by (with_reducible repeat (first | apply Kd.R_alloc | apply Kd.R_drewN | apply Kd.R_drew)); exact HO333.out, by repeat (first | (with_reducible first | exact HB.out | apply below_alloc | apply pw_below_drewN | apply below_drew1) | exact HB.out)⟩
        · rw [if_neg c6] at H
          exact absurd H (by simp)
      · rw [if_neg c4] at H
        exact absurd H (by simp)
    · rw [if_neg c2] at H
      exact absurd H (by simp)
  · rw [if_neg c1] at H
    exact absurd H (by simp)

end Go.Proofs.Ytnakjencodicmaa.PA

-- ---- PAx53

namespace Go.Proofs.Ytnakjencodicmaa.PA
open Go.RowKit Go.Proofs.YtnakjencodicmaaW.PrintWords Go.Proofs.YtnakjencodicmaaW.PrintLast Go.Proofs.YtnakjencodicmaaW.PrintMore
attribute [local go_sem] max2_int min2_int max_two min_two max_three min_three max_four min_four   -- for this text's walks alone
set_option linter.unusedVariables false
set_option linter.unusedSimpArgs false

/-! ### wringerlaw11_HuffKnown: function 6 -/
def wringerlaw11_HuffKnown.f (k : Nat) (a0 : Int) : Option (Bool) := (wringerlaw11_known.f).bind fun t340 => ((huff_Put.f k (([(⟨0, 0⟩ : S54), (⟨1, 0⟩ : S54), (⟨3, IntKind.u64.wrap (Int.tmod a0 4)⟩ : S54), (⟨0, 0⟩ : S54)] : List (S54))) t340).bind fun bt343 => ((wringerlaw1_Err.f bt343.2).bind fun t345 => (if t345 = 0 then (if bt343.1.toList = (strOfNums (([Go.bits .or .u8 (Go.bits .or .u8 26 ((((IntKind.u64.wrap (Int.tmod a0 4)) % 256) * 32) % 256)) 0] : List Int))).toList then ((wringerlaw11_awake.f k).bind fun t349 => (some t349)) else (some false)) else (some false))))
theorem wringerlaw11_HuffKnown.mono : ∀ a0 k, LeO (wringerlaw11_HuffKnown.f k a0) (wringerlaw11_HuffKnown.f (k + 1) a0) := by
  intro a0 k
  unfold wringerlaw11_HuffKnown.f
  repeat' first
      | (with_reducible exact huff_Put.mono _ _ _)
      | (with_reducible exact wringerlaw11_awake.mono _)
      | (with_reducible exact LeO.refl _)
      | (with_reducible exact LeO.none _)
      | (with_reducible refine LeO.ite ?_ ?_)
      | (with_reducible refine LeO.bind ?_ (fun _ => ?_))
      | exact huff_Put.mono _ _ _
      | exact wringerlaw11_awake.mono _
      | exact LeO.none _
      | refine LeO.ite ?_ ?_
      | refine LeO.bind ?_ (fun _ => ?_)
set_option maxHeartbeats 8000000 in
set_option maxRecDepth 100000 in
theorem wringerlaw11_HuffKnown.calls (k : Nat) (a0 : Int) (r : Bool) (w : World) (h : wringerlaw11_HuffKnown.f k a0 = some r) :
    Calls Try.prog 6 #[.int .u8 a0] w fun e w' => e = .returned (.bool r) ∧ Below w.heap.size w w' := by
  have hu54 := Try.underlying54
  have HB := Aside0.mk (Below.refl w.heap.size w)
  have H : ((wringerlaw11_known.f).bind fun t340 => ((huff_Put.f k (([(⟨0, 0⟩ : S54), (⟨1, 0⟩ : S54), (⟨3, IntKind.u64.wrap (Int.tmod a0 4)⟩ : S54), (⟨0, 0⟩ : S54)] : List (S54))) t340).bind fun bt343 => ((wringerlaw1_Err.f bt343.2).bind fun t345 => (if t345 = 0 then (if bt343.1.toList = (strOfNums (([Go.bits .or .u8 (Go.bits .or .u8 26 ((((IntKind.u64.wrap (Int.tmod a0 4)) % 256) * 32) % 256)) 0] : List Int))).toList then ((wringerlaw11_awake.f k).bind fun t349 => (some t349)) else (some false)) else (some false))))) = some r := h
  clear h
  obtain ⟨y337, hy337⟩ : ∃ y_ : List (S54), y_ = (([(⟨0, 0⟩ : S54), (⟨1, 0⟩ : S54), (⟨3, IntKind.u64.wrap (Int.tmod a0 4)⟩ : S54), (⟨0, 0⟩ : S54)] : List (S54))) := ⟨_, rfl⟩
  replace H : ((wringerlaw11_known.f).bind fun t340 => ((huff_Put.f k y337 t340).bind fun bt343 => ((wringerlaw1_Err.f bt343.2).bind fun t345 => (if t345 = 0 then (if bt343.1.toList = (strOfNums (([Go.bits .or .u8 (Go.bits .or .u8 26 ((((IntKind.u64.wrap (Int.tmod a0 4)) % 256) * 32) % 256)) 0] : List Int))).toList then ((wringerlaw11_awake.f k).bind fun t349 => (some t349)) else (some false)) else (some false))))) = some r := by first | (rw [hy337]; with_reducible exact H) | (have H2_ := (Option.bind_some _ _).symm.trans H; rw [hy337]; with_reducible exact H2_) | (have H2_ := (Option.bind_some _ _).symm.trans H; with_reducible exact H2_) | with_reducible exact H | (rw [hy337]; exact H) | exact H
  have Ny337 := Aside0.mk hy337
  clear hy337
  replace H := Option.bind_eq_some_iff.mp H
  obtain ⟨t340, A20, H⟩ := H
  replace H : ((huff_Put.f k y337 t340).bind fun bt343 => ((wringerlaw1_Err.f bt343.2).bind fun t345 => (if t345 = 0 then (if bt343.1.toList = (strOfNums (([Go.bits .or .u8 (Go.bits .or .u8 26 ((((IntKind.u64.wrap (Int.tmod a0 4)) % 256) * 32) % 256)) 0] : List Int))).toList then ((wringerlaw11_awake.f k).bind fun t349 => (some t349)) else (some false)) else (some false)))) = some r := H
  have A2 := Aside0.mk A20
  clear A20
  replace H := Option.bind_eq_some_iff.mp H
  obtain ⟨⟨t343, t344⟩, A30, H⟩ := H
  replace H : ((wringerlaw1_Err.f t344).bind fun t345 => (if t345 = 0 then (if t343.toList = (strOfNums (([Go.bits .or .u8 (Go.bits .or .u8 26 ((((IntKind.u64.wrap (Int.tmod a0 4)) % 256) * 32) % 256)) 0] : List Int))).toList then ((wringerlaw11_awake.f k).bind fun t349 => (some t349)) else (some false)) else (some false))) = some r := H
  have A3 := Aside0.mk A30
  clear A30
  replace H := Option.bind_eq_some_iff.mp H
  obtain ⟨t345, A40, H⟩ := H
  replace H : (if t345 = 0 then (if t343.toList = (strOfNums (([Go.bits .or .u8 (Go.bits .or .u8 26 ((((IntKind.u64.wrap (Int.tmod a0 4)) % 256) * 32) % 256)) 0] : List Int))).toList then ((wringerlaw11_awake.f k).bind fun t349 => (some t349)) else (some false)) else (some false)) = some r := H
  have A4 := Aside0.mk A40
  clear A40
  by_cases c5 : t345 = 0
  · rw [if_pos c5] at H
    have c5b0 : (t345 == 0) = true := beq_iff_eq.mpr c5
    have c5b1 : (t345 != 0) = false := bne_eq_false_iff_eq.mpr c5
    clear c5
    obtain ⟨y346, hy346⟩ : ∃ y_ : List Int, y_ = (([Go.bits .or .u8 (Go.bits .or .u8 26 ((((IntKind.u64.wrap (Int.tmod a0 4)) % 256) * 32) % 256)) 0] : List Int)) := ⟨_, rfl⟩
    replace H : (if t343.toList = (strOfNums y346).toList then ((wringerlaw11_awake.f k).bind fun t349 => (some t349)) else (some false)) = some r := by first | (rw [hy346]; with_reducible exact H) | (have H2_ := (Option.bind_some _ _).symm.trans H; rw [hy346]; with_reducible exact H2_) | (have H2_ := (Option.bind_some _ _).symm.trans H; with_reducible exact H2_) | with_reducible exact H | (rw [hy346]; exact H) | exact H
    have Ny346 := Aside0.mk hy346
    clear hy346
    by_cases c6 : t343.toList = (strOfNums y346).toList
    · rw [if_pos c6] at H
      have c6b0 : (t343.toList == (strOfNums y346).toList) = true := beq_iff_eq.mpr c6
      have c6b1 : (t343.toList != (strOfNums y346).toList) = false := bne_eq_false_iff_eq.mpr c6
      clear c6
      replace H := Option.bind_eq_some_iff.mp H
      obtain ⟨t349, A70, H⟩ := H
      replace H : (some t349) = some r := H
      have A7 := Aside0.mk A70
      clear A70
      obtain rfl := Option.some.inj H
      go_enter Try.func6, Try.ntmps6
      go_wp2_with (first | ((with_reducible refine gate_dst (N := 16) rfl ?_); (try (refine gate_guard (by rfl) ?_; dsimp only)); refine Kd.R_lit k54 _ 54 ?hg (N := 16) ?hd (xs := ([(⟨0, 0⟩ : S54), (⟨1, 0⟩ : S54), (⟨3, IntKind.u64.wrap (Int.tmod a0 4)⟩ : S54), (⟨0, 0⟩ : S54)] : List (S54))) (inner := [.int .i64 0, .int .u64 0, .int .i64 1, .int .u64 0, .int .i64 3, .int .u64 (IntKind.u64.wrap (Int.tmod a0 4)), .int .i64 0, .int .u64 0]) (ok := fun _ => True) (okp := fun _ => True) ?hr ?hp (fun _ hk => hk) trivial (Below.refl _ _) (Nat.le_refl _) (by simp) ?_; (case hd => rfl); (case hg => rfl); (case hr => first | (go_simp; done) | (go_simp; rfl)); (case hp => exact (Reps.c2 (show Kd.M k54 _ _ _ (⟨0, 0⟩ : S54) [.int .i64 0, .int .u64 0] from (k54_mkM _ _ _ (⟨0, 0⟩ : S54) )) (Reps.c2 (show Kd.M k54 _ _ _ (⟨1, 0⟩ : S54) [.int .i64 1, .int .u64 0] from (k54_mkM _ _ _ (⟨1, 0⟩ : S54) )) (Reps.c2 (show Kd.M k54 _ _ _ (⟨3, IntKind.u64.wrap (Int.tmod a0 4)⟩ : S54) [.int .i64 3, .int .u64 (IntKind.u64.wrap (Int.tmod a0 4))] from (k54_mkM _ _ _ (⟨3, IntKind.u64.wrap (Int.tmod a0 4)⟩ : S54) )) (Reps.c2 (show Kd.M k54 _ _ _ (⟨0, 0⟩ : S54) [.int .i64 0, .int .u64 0] from (k54_mkM _ _ _ (⟨0, 0⟩ : S54) )) (Reps.none _ _)))))); intro v338 w8 ho9 hb hg_ hnew_; clear hg_ hnew_; (first | rw [← Ny337.out] at ho9 | (simp only [Int.reduceToNat] at ho9; rw [← Ny337.out] at ho9)); have n0_ := Aside0.mk (Kd.R_lower ho9 (below_size (by repeat (first | (with_reducible first | exact HB.out | apply below_alloc | apply pw_below_drewN | apply below_drew1) | exact HB.out)))); have n1_ := Aside0.mk (below_step (by repeat (first | (with_reducible first | exact HB.out | apply below_alloc | apply pw_below_drewN | apply below_drew1) | exact HB.out)) hb); clear HB; have HO339 := n0_; have HB := n1_; clear n0_ n1_; clear hb ho9) | ((with_reducible refine gate_callee (f := 21) rfl ?_); refine goesL_ (some 17) rfl rfl Try.func21 (by kernel_rfl) rfl #[] rfl (by (try simp only [List.map_toArray, List.map_cons, List.map_nil]); first | done | rfl | (simp only [List.length_drop, List.length_take]; rfl)) ?_; (with_reducible refine (wringerlaw11_known.calls  t340 _ A2.out).mono ?_); rintro e w10 ⟨v341, rfl, ho0, hb⟩; refine ⟨_, rfl, ?_⟩; have n0_ := Aside0.mk (Kd.R_below (by (with_reducible repeat (first | apply Kd.R_alloc | apply Kd.R_drewN | apply Kd.R_drew)); exact HO339.out) hb); have n1_ := Aside0.mk (Kd.R_lower ho0 (below_size (by repeat (first | (with_reducible first | exact HB.out | apply below_alloc | apply pw_below_drewN | apply below_drew1) | exact HB.out)))); have n2_ := Aside0.mk (below_step (by repeat (first | (with_reducible first | exact HB.out | apply below_alloc | apply pw_below_drewN | apply below_drew1) | exact HB.out)) hb); clear HO339; clear HB; have HO339 := n0_; have HO342 := n1_; have HB := n2_; clear n0_ n1_ n2_; (try clear hb); (try clear hb2); (try clear hk); (try clear hi); (try clear ho0); obtain ⟨Ao11, co11, eo11⟩ := Kd.R_slice HO339.out; subst eo11; obtain ⟨Ao12, co12, eo12⟩ := Kd.R_slice HO342.out; subst eo12) | ((with_reducible refine gate_callee (f := 10) rfl ?_); refine goesL_ (some 18) rfl rfl Try.func10 (by kernel_rfl) rfl #[.slice Ao11 y337.length co11, .slice Ao12 t340.length co12] rfl (by (try simp only [List.map_toArray, List.map_cons, List.map_nil]); first | done | rfl | (simp only [List.length_drop, List.length_take]; rfl)) ?_; (with_reducible refine (huff_Put.calls k _ _ y337 _ _ t340 t343 t344 _ ?side1 ?side2 ?side3 ?side4 A3.out).mono ?_); (case side1 => repeat (first | exact (Kd.R_reads' HO339.out).2.2 | (with_reducible refine Kd.C_alloc ?_ _) | (with_reducible refine Kd.C_drewN ?_ _) | (with_reducible refine Kd.C_drew ?_))); (case side2 => exact (Kd.R_reads' HO339.out).2.1); (case side3 => repeat (first | exact (Kd.R_reads' HO342.out).2.2 | (with_reducible refine Kd.C_alloc ?_ _) | (with_reducible refine Kd.C_drewN ?_ _) | (with_reducible refine Kd.C_drew ?_))); (case side4 => exact (Kd.R_reads' HO342.out).2.1); rintro e w13 ⟨rfl, hb⟩; refine ⟨_, rfl, ?_⟩; have n0_ := Aside0.mk (Kd.R_below (by (with_reducible repeat (first | apply Kd.R_alloc | apply Kd.R_drewN | apply Kd.R_drew)); exact HO339.out) hb); have n1_ := Aside0.mk (Kd.R_below (by (with_reducible repeat (first | apply Kd.R_alloc | apply Kd.R_drewN | apply Kd.R_drew)); exact HO342.out) hb); have n2_ := Aside0.mk (below_step (by repeat (first | (with_reducible first | exact HB.out | apply below_alloc | apply pw_below_drewN | apply below_drew1) | exact HB.out)) hb); clear HO339; clear HO342; clear HB; have HO339 := n0_; have HO342 := n1_; have HB := n2_; clear n0_ n1_ n2_; (try clear hb); (try clear hb2); (try clear hk); (try clear hi)) | ((with_reducible refine gate_callee (f := 14) rfl ?_); refine goesL_ (some 27) rfl rfl Try.func14 (by kernel_rfl) rfl #[.int .i64 t344] rfl (by (try simp only [List.map_toArray, List.map_cons, List.map_nil]); first | done | rfl | (simp only [List.length_drop, List.length_take]; rfl)) ?_; (with_reducible refine (wringerlaw1_Err.calls t344 t345 _ A4.out).mono ?_); rintro e w' ⟨rfl, ⟨nd, rfl⟩⟩; refine ⟨_, rfl, ?_⟩) | ((with_reducible refine gate_dst (N := 32) rfl ?_); (try (refine gate_guard (by rfl) ?_; dsimp only)); refine Kd.R_lit (Kd.int .u8) _ 5 ?hg (N := 32) ?hd (xs := ([Go.bits .or .u8 (Go.bits .or .u8 26 ((((IntKind.u64.wrap (Int.tmod a0 4)) % 256) * 32) % 256)) 0] : List Int)) (inner := [.int .u8 (Go.bits .or .u8 (Go.bits .or .u8 26 ((((IntKind.u64.wrap (Int.tmod a0 4)) % 256) * 32) % 256)) 0)]) (ok := fun _ => True) (okp := fun _ => True) ?hr ?hp (fun _ hk => hk) trivial (Below.refl _ _) (Nat.le_refl _) (by simp) ?_; (case hd => rfl); (case hg => rfl); (case hr => first | (go_simp; done) | (go_simp; rfl)); (case hp => exact (Reps.one (show Kd.M (Kd.int .u8) _ _ _ (Go.bits .or .u8 (Go.bits .or .u8 26 ((((IntKind.u64.wrap (Int.tmod a0 4)) % 256) * 32) % 256)) 0) [.int .u8 (Go.bits .or .u8 (Go.bits .or .u8 26 ((((IntKind.u64.wrap (Int.tmod a0 4)) % 256) * 32) % 256)) 0)] from rfl) (Reps.none _ _))); intro v347 w14 ho15 hb hg_ hnew_; clear hg_ hnew_; (first | rw [← Ny346.out] at ho15 | (simp only [Int.reduceToNat] at ho15; rw [← Ny346.out] at ho15)); have n0_ := Aside0.mk (Kd.R_below (by (with_reducible repeat (first | apply Kd.R_alloc | apply Kd.R_drewN | apply Kd.R_drew)); exact HO339.out) hb); have n1_ := Aside0.mk (Kd.R_below (by (with_reducible repeat (first | apply Kd.R_alloc | apply Kd.R_drewN | apply Kd.R_drew)); exact HO342.out) hb); have n2_ := Aside0.mk (Kd.R_lower ho15 (below_size (by repeat (first | (with_reducible first | exact HB.out | apply below_alloc | apply pw_below_drewN | apply below_drew1) | exact HB.out)))); have n3_ := Aside0.mk (below_step (by repeat (first | (with_reducible first | exact HB.out | apply below_alloc | apply pw_below_drewN | apply below_drew1) | exact HB.out)) hb); clear HO339; clear HO342; clear HB; have HO339 := n0_; have HO342 := n1_; have HO348 := n2_; have HB := n3_; clear n0_ n1_ n2_ n3_; clear hb ho15; have hcv16 := own_string (P := Try.prog) Try.underlying48 Try.underlying5 Try.underlying9 (Kd.own_of_R HO348.out)) | (go_at_call 9; (with_reducible refine (wringerlaw11_awake.calls k  t349 _ A7.out).mono ?_); rintro e w17 ⟨rfl, hb⟩; have n0_ := Aside0.mk (Kd.R_below (by (with_reducible repeat (first | apply Kd.R_alloc | apply Kd.R_drewN | apply Kd.R_drew)); exact HO339.out) hb); have n1_ := Aside0.mk (Kd.R_below (by (with_reducible repeat (first | apply Kd.R_alloc | apply Kd.R_drewN | apply Kd.R_drew)); exact HO342.out) hb); have n2_ := Aside0.mk (Kd.R_below (by (with_reducible repeat (first | apply Kd.R_alloc | apply Kd.R_drewN | apply Kd.R_drew)); exact HO348.out) hb); have n3_ := Aside0.mk (below_step (by repeat (first | (with_reducible first | exact HB.out | apply below_alloc | apply pw_below_drewN | apply below_drew1) | exact HB.out)) hb); clear HO339; clear HO342; clear HO348; clear HB; have HO339 := n0_; have HO342 := n1_; have HO348 := n2_; have HB := n3_; clear n0_ n1_ n2_ n3_; (try clear hb); (try clear hb2); (try clear hk); (try clear hi)))
      go_ret
      exact ⟨by first | rfl | (simp [errW_none, errW_some] <;> rfl) | (simp [*, errW_none, errW_some] <;> rfl), by repeat (first | (with_reducible first | exact HB.out | apply below_alloc | apply pw_below_drewN | apply below_drew1) | exact HB.out)⟩
    · rw [if_neg c6] at H
      have c6b0 : (t343.toList == (strOfNums y346).toList) = false := beq_eq_false_iff_ne.mpr c6
      have c6b1 : (t343.toList != (strOfNums y346).toList) = true := bne_iff_ne.mpr c6
      obtain rfl := Option.some.inj H
      go_enter Try.func6, Try.ntmps6
      go_wp2_with (first | ((with_reducible refine gate_dst (N := 16) rfl ?_); (try (refine gate_guard (by rfl) ?_; dsimp only)); refine Kd.R_lit k54 _ 54 ?hg (N := 16) ?hd (xs := ([(⟨0, 0⟩ : S54), (⟨1, 0⟩ : S54), (⟨3, IntKind.u64.wrap (Int.tmod a0 4)⟩ : S54), (⟨0, 0⟩ : S54)] : List (S54))) (inner := [.int .i64 0, .int .u64 0, .int .i64 1, .int .u64 0, .int .i64 3, .int .u64 (IntKind.u64.wrap (Int.tmod a0 4)), .int .i64 0, .int .u64 0]) (ok := fun _ => True) (okp := fun _ => True) ?hr ?hp (fun _ hk => hk) trivial (Below.refl _ _) (Nat.le_refl _) (by simp) ?_; (case hd => rfl); (case hg => rfl); (case hr => first | (go_simp; done) | (go_simp; rfl)); (case hp => exact (Reps.c2 (show Kd.M k54 _ _ _ (⟨0, 0⟩ : S54) [.int .i64 0, .int .u64 0] from (k54_mkM _ _ _ (⟨0, 0⟩ : S54) )) (Reps.c2 (show Kd.M k54 _ _ _ (⟨1, 0⟩ : S54) [.int .i64 1, .int .u64 0] from (k54_mkM _ _ _ (⟨1, 0⟩ : S54) )) (Reps.c2 (show Kd.M k54 _ _ _ (⟨3, IntKind.u64.wrap (Int.tmod a0 4)⟩ : S54) [.int .i64 3, .int .u64 (IntKind.u64.wrap (Int.tmod a0 4))] from (k54_mkM _ _ _ (⟨3, IntKind.u64.wrap (Int.tmod a0 4)⟩ : S54) )) (Reps.c2 (show Kd.M k54 _ _ _ (⟨0, 0⟩ : S54) [.int .i64 0, .int .u64 0] from (k54_mkM _ _ _ (⟨0, 0⟩ : S54) )) (Reps.none _ _)))))); intro v338 w18 ho19 hb hg_ hnew_; clear hg_ hnew_; (first | rw [← Ny337.out] at ho19 | (simp only [Int.reduceToNat] at ho19; rw [← Ny337.out] at ho19)); have n0_ := Aside0.mk (Kd.R_lower ho19 (below_size (by repeat (first | (with_reducible first | exact HB.out | apply below_alloc | apply pw_below_drewN | apply below_drew1) | exact HB.out)))); have n1_ := Aside0.mk (below_step (by repeat (first | (with_reducible first | exact HB.out | apply below_alloc | apply pw_below_drewN | apply below_drew1) | exact HB.out)) hb); clear HB; have HO339 := n0_; have HB := n1_; clear n0_ n1_; clear hb ho19) | ((with_reducible refine gate_callee (f := 21) rfl ?_); refine goesL_ (some 17) rfl rfl Try.func21 (by kernel_rfl) rfl #[] rfl (by (try simp only [List.map_toArray, List.map_cons, List.map_nil]); first | done | rfl | (simp only [List.length_drop, List.length_take]; rfl)) ?_; (with_reducible refine (wringerlaw11_known.calls  t340 _ A2.out).mono ?_); rintro e w20 ⟨v341, rfl, ho0, hb⟩; refine ⟨_, rfl, ?_⟩; have n0_ := Aside0.mk (Kd.R_below (by (with_reducible repeat (first | apply Kd.R_alloc | apply Kd.R_drewN | apply Kd.R_drew)); exact HO339.out) hb); have n1_ := Aside0.mk (Kd.R_lower ho0 (below_size (by repeat (first | (with_reducible first | exact HB.out | apply below_alloc | apply pw_below_drewN | apply below_drew1) | exact HB.out)))); have n2_ := Aside0.mk (below_step (by repeat (first | (with_reducible first | exact HB.out | apply below_alloc | apply pw_below_drewN | apply below_drew1) | exact HB.out)) hb); clear HO339; clear HB; have HO339 := n0_; have HO342 := n1_; have HB := n2_; clear n0_ n1_ n2_; (try clear hb); (try clear hb2); (try clear hk); (try clear hi); (try clear ho0); obtain ⟨Ao21, co21, eo21⟩ := Kd.R_slice HO339.out; subst eo21; obtain ⟨Ao22, co22, eo22⟩ := Kd.R_slice HO342.out; subst eo22) | ((with_reducible refine gate_callee (f := 10) rfl ?_); refine goesL_ (some 18) rfl rfl Try.func10 (by kernel_rfl) rfl #[.slice Ao21 y337.length co21, .slice Ao22 t340.length co22] rfl (by (try simp only [List.map_toArray, List.map_cons, List.map_nil]); first | done | rfl | (simp only [List.length_drop, List.length_take]; rfl)) ?_; (with_reducible refine (huff_Put.calls k _ _ y337 _ _ t340 t343 t344 _ ?side1 ?side2 ?side3 ?side4 A3.out).mono ?_); (case side1 => repeat (first | exact (Kd.R_reads' HO339.out).2.2 | (with_reducible refine Kd.C_alloc ?_ _) | (with_reducible refine Kd.C_drewN ?_ _) | (with_reducible refine Kd.C_drew ?_))); (case side2 => exact (Kd.R_reads' HO339.out).2.1); (case side3 => repeat (first | exact (Kd.R_reads' HO342.out).2.2 | (with_reducible refine Kd.C_alloc ?_ _) | (with_reducible refine Kd.C_drewN ?_ _) | (with_reducible refine Kd.C_drew ?_))); (case side4 => exact (Kd.R_reads' HO342.out).2.1); rintro e w23 ⟨rfl, hb⟩; refine ⟨_, rfl, ?_⟩; have n0_ := Aside0.mk (Kd.R_below (by (with_reducible repeat (first | apply Kd.R_alloc | apply Kd.R_drewN | apply Kd.R_drew)); exact HO339.out) hb); have n1_ := Aside0.mk (Kd.R_below (by (with_reducible repeat (first | apply Kd.R_alloc | apply Kd.R_drewN | apply Kd.R_drew)); exact HO342.out) hb); have n2_ := Aside0.mk (below_step (by repeat (first | (with_reducible first | exact HB.out | apply below_alloc | apply pw_below_drewN | apply below_drew1) | exact HB.out)) hb); clear HO339; clear HO342; clear HB; have HO339 := n0_; have HO342 := n1_; have HB := n2_; clear n0_ n1_ n2_; (try clear hb); (try clear hb2); (try clear hk); (try clear hi)) | ((with_reducible refine gate_callee (f := 14) rfl ?_); refine goesL_ (some 27) rfl rfl Try.func14 (by kernel_rfl) rfl #[.int .i64 t344] rfl (by (try simp only [List.map_toArray, List.map_cons, List.map_nil]); first | done | rfl | (simp only [List.length_drop, List.length_take]; rfl)) ?_; (with_reducible refine (wringerlaw1_Err.calls t344 t345 _ A4.out).mono ?_); rintro e w' ⟨rfl, ⟨nd, rfl⟩⟩; refine ⟨_, rfl, ?_⟩) | ((with_reducible refine gate_dst (N := 32) rfl ?_); (try (refine gate_guard (by rfl) ?_; dsimp only)); refine Kd.R_lit (Kd.int .u8) _ 5 ?hg (N := 32) ?hd (xs := ([Go.bits .or .u8 (Go.bits .or .u8 26 ((((IntKind.u64.wrap (Int.tmod a0 4)) % 256) * 32) % 256)) 0] : List Int)) (inner := [.int .u8 (Go.bits .or .u8 (Go.bits .or .u8 26 ((((IntKind.u64.wrap (Int.tmod a0 4)) % 256) * 32) % 256)) 0)]) (ok := fun _ => True) (okp := fun _ => True) ?hr ?hp (fun _ hk => hk) trivial (Below.refl _ _) (Nat.le_refl _) (by simp) ?_; (case hd => rfl); (case hg => rfl); (case hr => first | (go_simp; done) | (go_simp; rfl)); (case hp => exact (Reps.one (show Kd.M (Kd.int .u8) _ _ _ (Go.bits .or .u8 (Go.bits .or .u8 26 ((((IntKind.u64.wrap (Int.tmod a0 4)) % 256) * 32) % 256)) 0) [.int .u8 (Go.bits .or .u8 (Go.bits .or .u8 26 ((((IntKind.u64.wrap (Int.tmod a0 4)) % 256) * 32) % 256)) 0)] from rfl) (Reps.none _ _))); intro v347 w24 ho25 hb hg_ hnew_; clear hg_ hnew_; (first | rw [← Ny346.out] at ho25 | (simp only [Int.reduceToNat] at ho25; rw [← Ny346.out] at ho25)); have n0_ := Aside0.mk (Kd.R_below (by (with_reducible repeat (first | apply Kd.R_alloc | apply Kd.R_drewN | apply Kd.R_drew)); exact HO339.out) hb); have n1_ := Aside0.mk (Kd.R_below (by (with_reducible repeat (first | apply Kd.R_alloc | apply Kd.R_drewN | apply Kd.R_drew)); exact HO342.out) hb); have n2_ := Aside0.mk (Kd.R_lower ho25 (below_size (by repeat (first | (with_reducible first | exact HB.out | apply below_alloc | apply pw_below_drewN | apply below_drew1) | exact HB.out)))); have n3_ := Aside0.mk (below_step (by repeat (first | (with_reducible first | exact HB.out | apply below_alloc | apply pw_below_drewN | apply below_drew1) | exact HB.out)) hb); clear HO339; clear HO342; clear HB; have HO339 := n0_; have HO342 := n1_; have HO348 := n2_; have HB := n3_; clear n0_ n1_ n2_ n3_; clear hb ho25; have hcv26 := own_string (P := Try.prog) Try.underlying48 Try.underlying5 Try.underlying9 (Kd.own_of_R HO348.out)))
      go_ret
      exact ⟨by first | rfl | (simp [errW_none, errW_some] <;> rfl) | (simp [*, errW_none, errW_some] <;> rfl), by repeat (first | (with_reducible first | exact HB.out | apply below_alloc | apply pw_below_drewN | apply below_drew1) | exact HB.out)⟩
  · rw [if_neg c5] at H
    have c5b0 : (t345 == 0) = false := beq_eq_false_iff_ne.mpr c5
    have c5b1 : (t345 != 0) = true := bne_iff_ne.mpr c5
    obtain rfl := Option.some.inj H
    go_enter Try.func6, Try.ntmps6
    go_wp2_with (first | ((with_reducible refine gate_dst (N := 16) rfl ?_); (try (refine gate_guard (by rfl) ?_; dsimp only)); refine Kd.R_lit k54 _ 54 ?hg (N := 16) ?hd (xs := ([(⟨0, 0⟩ : S54), (⟨1, 0⟩ : S54), (⟨3, IntKind.u64.wrap (Int.tmod a0 4)⟩ : S54), (⟨0, 0⟩ : S54)] : List (S54))) (inner := [.int .i64 0, .int .u64 0, .int .i64 1, .int .u64 0, .int .i64 3, .int .u64 (IntKind.u64.wrap (Int.tmod a0 4)), .int .i64 0, .int .u64 0]) (ok := fun _ => True) (okp := fun _ => True) ?hr ?hp (fun _ hk => hk) trivial (Below.refl _ _) (Nat.le_refl _) (by simp) ?_; (case hd => rfl); (case hg => rfl); (case hr => first | (go_simp; done) | (go_simp; rfl)); (case hp => exact (Reps.c2 (show Kd.M k54 _ _ _ (⟨0, 0⟩ : S54) [.int .i64 0, .int .u64 0] from (k54_mkM _ _ _ (⟨0, 0⟩ : S54) )) (Reps.c2 (show Kd.M k54 _ _ _ (⟨1, 0⟩ : S54) [.int .i64 1, .int .u64 0] from (k54_mkM _ _ _ (⟨1, 0⟩ : S54) )) (Reps.c2 (show Kd.M k54 _ _ _ (⟨3, IntKind.u64.wrap (Int.tmod a0 4)⟩ : S54) [.int .i64 3, .int .u64 (IntKind.u64.wrap (Int.tmod a0 4))] from (k54_mkM _ _ _ (⟨3, IntKind.u64.wrap (Int.tmod a0 4)⟩ : S54) )) (Reps.c2 (show Kd.M k54 _ _ _ (⟨0, 0⟩ : S54) [.int .i64 0, .int .u64 0] from (k54_mkM _ _ _ (⟨0, 0⟩ : S54) )) (Reps.none _ _)))))); intro v338 w27 ho28 hb hg_ hnew_; clear hg_ hnew_; (first | rw [← Ny337.out] at ho28 | (simp only [Int.reduceToNat] at ho28; rw [← Ny337.out] at ho28)); have n0_ := Aside0.mk (Kd.R_lower ho28 (below_size (by repeat (first | (with_reducible first | exact HB.out | apply below_alloc | apply pw_below_drewN | apply below_drew1) | exact HB.out)))); have n1_ := Aside0.mk (below_step (by repeat (first | (with_reducible first | exact HB.out | apply below_alloc | apply pw_below_drewN | apply below_drew1) | exact HB.out)) hb); clear HB; have HO339 := n0_; have HB := n1_; clear n0_ n1_; clear hb ho28) | ((with_reducible refine gate_callee (f := 21) rfl ?_); refine goesL_ (some 17) rfl rfl Try.func21 (by kernel_rfl) rfl #[] rfl (by (try simp only [List.map_toArray, List.map_cons, List.map_nil]); first | done | rfl | (simp only [List.length_drop, List.length_take]; rfl)) ?_; (with_reducible refine (wringerlaw11_known.calls  t340 _ A2.out).mono ?_); rintro e w29 ⟨v341, rfl, ho0, hb⟩; refine ⟨_, rfl, ?_⟩; have n0_ := Aside0.mk (Kd.R_below (by (with_reducible repeat (first | apply Kd.R_alloc | apply Kd.R_drewN | apply Kd.R_drew)); exact HO339.out) hb); have n1_ := Aside0.mk (Kd.R_lower ho0 (below_size (by repeat (first | (with_reducible first | exact HB.out | apply below_alloc | apply pw_below_drewN | apply below_drew1) | exact HB.out)))); have n2_ := Aside0.mk (below_step (by repeat (first | (with_reducible first | exact HB.out | apply below_alloc | apply pw_below_drewN | apply below_drew1) | exact HB.out)) hb); clear HO339; clear HB; have HO339 := n0_; have HO342 := n1_; have HB := n2_; clear n0_ n1_ n2_; (try clear hb); (try clear hb2); (try clear hk); (try clear hi); (try clear ho0); obtain ⟨Ao30, co30, eo30⟩ := Kd.R_slice HO339.out; subst eo30; obtain ⟨Ao31, co31, eo31⟩ := Kd.R_slice HO342.out; subst eo31) | ((with_reducible refine gate_callee (f := 10) rfl ?_); refine goesL_ (some 18) rfl rfl Try.func10 (by kernel_rfl) rfl #[.slice Ao30 y337.length co30, .slice Ao31 t340.length co31] rfl (by (try simp only [List.map_toArray, List.map_cons, List.map_nil]); first | done | rfl | (simp only [List.length_drop, List.length_take]; rfl)) ?_; (with_reducible refine (huff_Put.calls k _ _ y337 _ _ t340 t343 t344 _ ?side1 ?side2 ?side3 ?side4 A3.out).mono ?_); (case side1 => repeat (first | exact (Kd.R_reads' HO339.out).2.2 | (with_reducible refine Kd.C_alloc ?_ _) | (with_reducible refine Kd.C_drewN ?_ _) | (with_reducible refine Kd.C_drew ?_))); (case side2 => exact (Kd.R_reads' HO339.out).2.1); (case side3 => repeat (first | exact (Kd.R_reads' HO342.out).2.2 | (with_reducible refine Kd.C_alloc ?_ _) | (with_reducible refine Kd.C_drewN ?_ _) | (with_reducible refine Kd.C_drew ?_))); (case side4 => exact (Kd.R_reads' HO342.out).2.1); rintro e w32 ⟨rfl, hb⟩; refine ⟨_, rfl, ?_⟩; have n0_ := Aside0.mk (Kd.R_below (by (with_reducible repeat (first | apply Kd.R_alloc | apply Kd.R_drewN | apply Kd.R_drew)); exact HO339.out) hb); have n1_ := Aside0.mk (Kd.R_below (by (with_reducible repeat (first | apply Kd.R_alloc | apply Kd.R_drewN | apply Kd.R_drew)); exact HO342.out) hb); have n2_ := Aside0.mk (below_step (by repeat (first | (with_reducible first | exact HB.out | apply below_alloc | apply pw_below_drewN | apply below_drew1) | exact HB.out)) hb); clear HO339; clear HO342; clear HB; have HO339 := n0_; have HO342 := n1_; have HB := n2_; clear n0_ n1_ n2_; (try clear hb); (try clear hb2); (try clear hk); (try clear hi)) | ((with_reducible refine gate_callee (f := 14) rfl ?_); refine goesL_ (some 27) rfl rfl Try.func14 (by kernel_rfl) rfl #[.int .i64 t344] rfl (by (try simp only [List.map_toArray, List.map_cons, List.map_nil]); first | done | rfl | (simp only [List.length_drop, List.length_take]; rfl)) ?_; (with_reducible refine (wringerlaw1_Err.calls t344 t345 _ A4.out).mono ?_); rintro e w' ⟨rfl, ⟨nd, rfl⟩⟩; refine ⟨_, rfl, ?_⟩))
    go_ret
    exact ⟨by first | rfl | (simp [errW_none, errW_some] <;> rfl) | (simp [*, errW_none, errW_some] <;> rfl), by repeat (first | (with_reducible first | exact HB.out | apply below_alloc | apply pw_below_drewN | apply below_drew1) | exact HB.out)⟩

/-- THE ONE PURE STATEMENT of wringerlaw11_HuffKnown: yours. -/
def wringerlaw11_HuffKnown.Pure : Prop := ∀ (a0 : Int), (Lit.int .u8 a0).wf = true → ∃ k, wringerlaw11_HuffKnown.f k a0 = some true
theorem wringerlaw11_HuffKnown.walk (P : wringerlaw11_HuffKnown.Pure) (a0 : Int) (w : World) (w0 : (Lit.int .u8 a0).wf = true) :
    Calls Try.prog 6 #[.int .u8 a0] w fun e w' => e = .returned (.bool true) ∧ Below w.heap.size w w' := by
  obtain ⟨k, h⟩ := P a0 w0
  refine (wringerlaw11_HuffKnown.calls k a0 true w h).mono ?_
  rintro e w' ⟨rfl, hd⟩
  exact ⟨rfl, hd⟩

end Go.Proofs.Ytnakjencodicmaa.PA

-- ---- PureHuffKnown
/- Codes stand with their first bit first, rests with their lowest bit first: the plain statement of HuffKnown holds for every input. Conditions: none. -/
namespace Go.Proofs.Ytnakjencodicmaa.Pure
set_option maxRecDepth 100000
open Go.RowKit Go.Proofs.Ytnakjencodicmaa.PA Go.Proofs.YtnakjencodicmaaW.PrintWords Go.Proofs.YtnakjencodicmaaW.PrintLast Go.Proofs.YtnakjencodicmaaW.PrintMore
set_option linter.unusedVariables false
set_option linter.unusedSimpArgs false

theorem known_all : ∀ x : Fin 256, wringerlaw11_HuffKnown.f 3 (x.val : Int) = some true := by decide +kernel
theorem HuffKnown : wringerlaw11_HuffKnown.Pure := by
  intro a0 hw
  simp only [Lit.wf, Bool.and_eq_true, decide_eq_true_eq] at hw
  have h1 : IntKind.u8.min = 0 := rfl
  have h2 : IntKind.u8.max = 255 := rfl
  obtain ⟨n, rfl⟩ := Int.eq_ofNat_of_zero_le (show 0 ≤ a0 by omega)
  exact ⟨3, known_all ⟨n, by omega⟩⟩
end Go.Proofs.Ytnakjencodicmaa.Pure

-- ---- LawHuffKnown

namespace Go.Proofs.Ytnakjencodicmaa.huffKnown
open Go.ChangeShapes Go.WideShapes Go.ChangeAt Go.RowKit
open Go.ChangeMaps (open_string shut_string)
set_option linter.unusedVariables false
theorem own : ownKnob Try.prog.godebug = none := by kernel_rfl
set_option maxRecDepth 100000 in
theorem lifted (os : Os) (started : os.Started) (H : Type) (enc : TypeId × Value → H) :
    ReturnsInHanded {} Try.checked os 6 .any (Rows.huffKnownSpec.pre6 enc Try.prog Try.f6 Rows.huffKnownRow.domain false) (Rows.huffKnownSpec.post enc Try.prog Try.f6 false true false false) := by
  refine returnsInHanded_of_change_sized (C := Try.checked) own started (by kernel_rfl) Try.func6
    (ChangeSpec.witness6 (enc := enc) (C := Try.checked) false ⟨#[], #[.int .u8 0], []⟩ 8 (by kernel_rfl) (by kernel_rfl) (by kernel_rfl) (by kernel_rfl)) ?_
  intro W base args ds gs before hval0 hW hcnd hsz0 _
  have hsz : (DataW.weightsEach Try.prog (Try.f6.params.toList ++ Rows.huffKnownSpec.plain.varTypes Try.prog) (ds ++ gs)).all (· ≤ reachBytes) = true := hsz0
  have hval : ∀ (j : Nat) t v, Try.f6.params[j]? = some t → args[j]? = some v → Value.okWide Try.prog W .any base t v := hval0
  have hW' := hW
  obtain ⟨p, q, hA0, hV, rfl, hfz, hnd⟩ := hW
  have hA : DataW.TrodAll enc Try.prog W 0 (fun _ => true) true Try.f6.params.toList args.toList ds p := hA0
  rw [Try.params6] at hA hval hsz
  obtain ⟨v0, vs0, d0, ds0, p0, q0, hargs, rfl, rfl, h0, r0⟩ := trodAll_cons hA
  obtain ⟨rfl, rfl, rfl⟩ := trodAll_nil r0
  obtain rfl : args = #[v0] := by cases args; simp_all
  obtain ⟨rfl, rfl⟩ := trodVars_none hV
  obtain ⟨a0, rfl, rfl, rfl, w0⟩ := open_int Try.underlying5 (hval 0 5 v0 rfl rfl) h0
  clear hA0 hval0 hsz0 hsz
  refine (PA.wringerlaw11_HuffKnown.walk Pure.HuffKnown a0 W w0).mono fun e W' ⟨he, bel⟩ => ?_
  subst he
  exact ⟨_, rfl, _, _, _, [], _, [], hW', trodAll_mk1 (shut_bool Try.underlying4 _), (trodAll_cons_mk (shut_int Try.underlying5 w0) trodAll_mk0), rfl, bel.frame _, fun h => by cases h⟩
theorem over : Rows.huffKnownRow.holds Try.pinned (OpenSpec.ofChange Rows.huffKnownSpec) :=
  OpenClaim.holds_of_wide 6 Try.f6 rfl rfl rfl rfl rfl rfl rfl ⟨rfl, rfl, rfl, rfl, rfl⟩ rfl rfl rfl rfl rfl (by kernel_rfl) Try.func6 (by kernel_rfl)
    (of_decide_eq_true (by kernel_rfl)) (by unfold Func.isWrapper; first | (rw [if_pos (by decide +kernel)]; kernel_rfl) | (rw [if_neg (by decide +kernel)]; exact ⟨rfl, rfl⟩))
    (fun os started H enc _ => lifted os started H enc)
theorem proved : Rows.HuffKnownSaid := over
#print axioms proved
end Go.Proofs.Ytnakjencodicmaa.huffKnown
namespace Go.Proofs.Ytnakjencodicmaa
/-- The row, under a short name, for the claim. -/
theorem huffKnown_holds : Rows.HuffKnownSaid := huffKnown.proved
end Go.Proofs.Ytnakjencodicmaa
