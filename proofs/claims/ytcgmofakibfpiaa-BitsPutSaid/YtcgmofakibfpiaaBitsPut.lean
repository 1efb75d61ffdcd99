/- BitsPut's walk: what is put to a Writer and to the document's row, side by side. -/
import Derived.Test.YtcgmofakibfpiaaBo
import Derived.Test.YtcgmofakibfpiaaRr
import Derived.Test.YtcgmofakibfpiaaSized
import Derived.OpenShut
import Derived.Deep.RegionWith
namespace Go.Proofs.Ytcgmofakibfpiaa
set_option linter.unusedSimpArgs false
set_option linter.unusedVariables false
open Go.RowKit Mix Own Bits
attribute [local go_sem] max_int min_int

/-- A Writer and the document's row, of the same bits, all of their memory from block B on. -/
structure PutS (B : Nat) (w : World) (pa pr : Nat) (va vr : Value) (l m : List Bool) : Prop where
  a : NewW B w pa va l
  r : IsR w pr vr m
  rAt : B ≤ pr
  rRow : ∀ g, vr.ownBlock = some g → B ≤ g
  sep : ∀ g, va.ownBlock = some g → vr.ownBlock ≠ some g
  sz : B ≤ w.heap.size

theorem PutS.ne {B : Nat} {w : World} {pa pr : Nat} {va vr : Value} {l m : List Bool} (h : PutS B w pa pr va vr l m) : pa ≠ pr := h.a.is.blk.ne h.r.blk (by decide)
theorem PutS.later {B : Nat} {w w' : World} {pa pr : Nat} {va vr : Value} {l m : List Bool} (h : PutS B w pa pr va vr l m) (hb : Below w.heap.size w w') : PutS B w' pa pr va vr l m :=
  ⟨h.a.later hb, h.r.keep (Chg.of_below (S := fun _ => False) hb) id (fun _ _ => id), h.rAt, h.rRow, h.sep, Nat.le_trans h.sz hb.size⟩
theorem PutS.puta {B : Nat} {w w' : World} {pa pr : Nat} {va va' vr : Value} {l l' m : List Bool} (h : PutS B w pa pr va vr l m) (ha : NewW B w' pa va' l') (hc : Chg (fun k => k = pa ∨ some k = va.ownBlock) w w')
    (hg : ∀ g, va'.ownBlock = some g → some g = va.ownBlock ∨ w.heap.size ≤ g) : PutS B w' pa pr va' vr l' m :=
  ⟨ha, h.r.keep hc (by
      rintro (e | e)
      · exact h.ne e.symm
      · exact h.a.is.row.ne h.r.blk (by decide) e.symm) (fun g hgb => by
      rintro (e | e)
      · exact h.r.row.ne h.a.is.blk (by decide) (by rw [hgb, e])
      · exact h.sep g e.symm hgb), h.rAt, h.rRow, fun g hga hgb => by
      rcases hg g hga with e | e
      · exact h.sep g e.symm hgb
      · have := h.r.row.lt g hgb; omega, Nat.le_trans h.sz hc.size⟩
theorem PutS.putr {B : Nat} {w w' : World} {pa pr : Nat} {va vr vr' : Value} {l m m' : List Bool} (h : PutS B w pa pr va vr l m) (hr : IsR w' pr vr' m') (hc : Chg (fun k => k = pr ∨ some k = vr.ownBlock) w w')
    (hg : ∀ g, vr'.ownBlock = some g → some g = vr.ownBlock ∨ w.heap.size ≤ g) : PutS B w' pa pr va vr' l m' :=
  ⟨h.a.keep hc (by
      rintro (e | e)
      · exact h.ne e
      · exact h.r.row.ne h.a.is.blk (by decide) e.symm) (fun g hga => by
      rintro (e | e)
      · exact h.a.is.row.ne h.r.blk (by decide) (by rw [hga, e])
      · exact h.sep g hga e.symm), hr, h.rAt, fun g hgb => by
      rcases hg g hgb with e | e
      · exact h.rRow g e.symm
      · have := h.sz; omega, fun g hga hgb => by
      rcases hg g hgb with e | e
      · exact h.sep g hga e.symm
      · have := h.a.is.row.lt g hga; omega, Nat.le_trans h.sz hc.size⟩
theorem PutS.below {B : Nat} {w0 w w' : World} {pr : Nat} {vr : Value} (hb : Below B w0 w) (hB : B ≤ w.heap.size) (h1 : B ≤ pr) (h2 : ∀ g, vr.ownBlock = some g → B ≤ g) (hc : Chg (fun k => k = pr ∨ some k = vr.ownBlock) w w') : Below B w0 w' :=
  hb.trans (hc.below hB (fun k hk h => by
    rcases h with h | h
    · omega
    · have := h2 k h.symm; omega))

set_option maxHeartbeats 4000000 in
theorem BitsPut_walk (a0 : Option Addr) (n0 c0 : Nat) (z0 : List Int) (a1 : Option Addr) (n1 c1 : Nat) (z1 : List Int) (w : World) (w0 : Arg .u64 w a0 n0 c0 z0) (y0 : n0 * 8 ≤ 140737488351232) (w1 : Arg .i64 w a1 n1 c1 z1) (y1 : n1 * 8 ≤ 140737488351232) :
    Calls Try.prog 3 #[.slice a0 n0 c0, .slice a1 n1 c1] w fun e w' => e = .returned (.bool true) ∧ Below w.heap.size w w' := by
  obtain ⟨xs, hx, hR0, hX⟩ := w0.rdN rfl
  obtain ⟨ys, hy, hR1, hY⟩ := w1.rd
  clear w0 w1
  obtain ⟨B, hB⟩ : ∃ B, B = w.heap.size := ⟨_, rfl⟩
  rw [← hB]
  have HB := kept hB
  have HR0 := kept hR0
  have HR1 := kept hR1
  have HX := kept hX
  have HY := kept hY
  have HXL := kept hx
  have HYL := kept hy
  have HN1 : Kept (n1 < 100000000000000) := kept (by omega)
  have HN0 : Kept (n0 < 100000000000000) := kept (by omega)
  clear hB hR0 hR1 hX hY hx hy y0 y1
  go_enter Try.func3, Try.ntmps3
  go_wp2_with fail
  refine (new_new B w (by rw [HB.out]; exact Nat.le_refl _)).mono ?_
  rintro e wa ⟨pa, rfl, hWa, hba, hpa⟩
  have HWa := kept hWa
  have HS1 : Kept (B ≤ wa.heap.size) := kept (by rw [HB.out]; exact hba.size)
  have HBa : Kept (Below B w wa) := kept (by rw [HB.out]; exact hba)
  clear hWa hba hpa
  by_cases hbig : 100 < n0
  · have t0 : decide ((100 : Int) < (n0 : Int)) = true := by simp; omega
    go_wp2_with (first | (go_at_call 10; refine (awake3_calls _).mono ?_; rintro e w9 ⟨rfl, hb9⟩; have HB9 := kept hb9; clear hb9))
    go_ret
    exact ⟨rfl, HBa.out.trans (HB9.out.mono HS1.out)⟩
  have t0 : decide ((100 : Int) < (n0 : Int)) = false := by simp; omega
  have hn : n0 ≤ 100 := by omega
  clear hbig
  go_wp2_with fail
  generalize hwb : World.alloc wa _ = wb
  have hlat : Below wa.heap.size wa wb := by rw [← hwb]; exact (Below.refl _ _).alloc (Nat.le_refl _) _
  have HP : Kept (PutS B wb pa wa.heap.size (.slice none 0 0) (.slice none 0 0) [] []) := kept ⟨HWa.out.later hlat, ⟨by rw [← hwb]; exact Blk.fresh _ _ _, Owns.nil _ _⟩, HS1.out, fun g hg => by simp [Value.ownBlock] at hg, fun g hg => by simp [Value.ownBlock] at hg, Nat.le_trans HS1.out hlat.size⟩
  have HBb := kept (HBa.out.trans (hlat.mono HS1.out))
  generalize wa.heap.size = pr at HP ⊢
  clear hwb hlat HWa HS1 HBa t0
  go_loopw [7] (fun s7 wr => ∃ i : Nat, i ≤ n0 ∧ s7 = .int .i64 (i : Int) ∧ ∃ va vr l, l.length ≤ 64 * i ∧ PutS B wr pa pr va vr l l ∧ Below B w wr)
    (fun s7 _ => n0 - (intOf s7).toNat)
  case atStart => exact ⟨0, Nat.zero_le _, rfl, _, _, [], Nat.le_refl _, HP.out, HBb.out⟩
  case round =>
    obtain ⟨i, hi, rfl, va, vr, l, hl, hP, hb⟩ := hrel
    have HPr := kept hP
    have HBr := kept hb
    have HL := kept hl
    clear hP hb hl HP HBb
    by_cases hlt : i < n0 ∧ i < n1
    · have t1 : decide ((i : Int) < (n0 : Int)) = true := by simp; omega
      have t2 : decide ((i : Int) < (n1 : Int)) = true := by simp; omega
      have hrd0 := HR0.out.below HBr.out (by rw [HB.out]; exact HR0.out.lt)
      have hrd1 := HR1.out.below HBr.out (by rw [HB.out]; exact HR1.out.lt)
      obtain ⟨x0, rfl, hc0⟩ := hrd0.at (Own.nums_at .u64 xs i (by rw [HXL.out]; exact hlt.1))
      obtain ⟨x1, rfl, hc1⟩ := hrd1.at (Own.ints_at .i64 ys i (by rw [HYL.out]; exact hlt.2))
      obtain ⟨x, hx⟩ : ∃ x, x = xs.getD i 0 := ⟨_, rfl⟩
      obtain ⟨y, hy⟩ : ∃ y, y = ys.getD i 0 := ⟨_, rfl⟩
      have hx64 : x < 18446744073709551616 := by
        have h1 := HX.out x (by rw [hx, List.getD_eq_getElem?_getD, List.getElem?_eq_getElem (by rw [HXL.out]; exact hlt.1)]; exact List.getElem_mem _)
        have h2 : IntKind.u64.max = 18446744073709551615 := rfl
        omega
      have hy64 : -9223372036854775808 ≤ y ∧ y ≤ 9223372036854775807 := by
        have h1 := HY.out y (by rw [hy, List.getD_eq_getElem?_getD, List.getElem?_eq_getElem (by rw [HYL.out]; exact hlt.2)]; exact List.getElem_mem _)
        simp only [Lit.wf, Bool.and_eq_true, decide_eq_true_eq] at h1
        have h2 : IntKind.i64.min = -9223372036854775808 := rfl
        have h3 : IntKind.i64.max = 9223372036854775807 := rfl
        omega
      rw [← hx] at hc0
      rw [← hy] at hc1
      have HX64 := kept hx64
      have HY64 := kept hy64
      have l0 := lat_cell hc0
      have l1 := lat_cell hc1
      have HC0 := kept hc0
      have HC1 := kept hc1
      have HA0 : Kept (x0.block < w.heap.size) := kept (HR0.out.lt _ (by cases n0 with | zero => omega | succ n => rfl))
      have HA1 : Kept (x1.block < w.heap.size) := kept (HR1.out.lt _ (by cases n1 with | zero => omega | succ n => rfl))
      have hcl := HL.out
      have hcy := clamp_le y
      have HLL : Kept (l.length < 1000000000000) := kept (by omega)
      have HL3 : Kept ((l ++ bitsOf x (clamp y)).length ≤ 64 * (i + 1)) := kept (by simp; omega)
      clear hx hy hx64 hy64 hrd0 hrd1 hcl hcy
      go_wp2_with fail
      refine wp_region_mixL [] [0,1,2,3,4,5,6,7,8] [9] (by kernel_rfl) (by kernel_rfl) ?_
      intro K1 hK1
      simp only [pick, List.filterMap_cons, List.filterMap_nil, List.getElem?_cons_zero, List.getElem?_cons_succ]
      refine wpQuiet_nil ?_
      repeat (show wpQuiet _ _ _ _ (_ :: _) _; go_big_quiet_step (fail))
      refine wpQuiet_nil ?_
      show wpList _ _ _ (_ :: _) _ _
      generalize hwd : World.drew wr = wd
      have hlat : Below wr.heap.size wr wd := by rw [← hwd]; exact (Below.refl _ _).drew
      have HP2 := kept (HPr.out.later hlat)
      have HB2 := kept (HBr.out.trans (hlat.mono HPr.out.sz))
      have hc0 : wd.cell? (x0.add i) = some (.int .u64 (x : Int)) := by rw [← hwd]; exact hc0
      have hc1 : wd.cell? (x1.add i) = some (.int .i64 y) := by rw [← hwd]; exact hc1
      clear hwd hlat l0 l1
      go_wp2_with (first
        | (go_at_call 11; refine (put_new B pa va l x y wd HP2.out.sz HP2.out.a HLL.out HX64.out HY64.out.1 HY64.out.2).mono ?_; rintro e w2 ⟨rfl, va2, hW2, hb2, hC2, hG2⟩; have HP3 := kept (HP2.out.puta hW2 hC2 hG2); have HB3 := kept (HB2.out.trans hb2); clear hW2 hb2 hC2 hG2))
      refine hK1 _ _ ?_
      have hrd0 := HR0.out.below HB3.out (by rw [HB.out]; exact HR0.out.lt)
      have hrd1 := HR1.out.below HB3.out (by rw [HB.out]; exact HR1.out.lt)
      have hc0 : w2.cell? (x0.add i) = some (.int .u64 (x : Int)) := by rw [HB3.out.cell (by rw [Own.add_block, HB.out]; exact HA0.out), ← HBr.out.cell (by rw [Own.add_block, HB.out]; exact HA0.out)]; exact HC0.out
      have hc1 : w2.cell? (x1.add i) = some (.int .i64 y) := by rw [HB3.out.cell (by rw [Own.add_block, HB.out]; exact HA1.out), ← HBr.out.cell (by rw [Own.add_block, HB.out]; exact HA1.out)]; exact HC1.out
      have l0 := lat_cell hc0
      have l1 := lat_cell hc1
      clear hrd0 hrd1
      go_wp2_with fail
      refine wp_region_mixL [] [0,1,2,3,4,5,6,7,8] [9] (by kernel_rfl) (by kernel_rfl) ?_
      intro K2 hK2
      simp only [pick, List.filterMap_cons, List.filterMap_nil, List.getElem?_cons_zero, List.getElem?_cons_succ]
      refine wpQuiet_nil ?_
      repeat (show wpQuiet _ _ _ _ (_ :: _) _; go_big_quiet_step (fail))
      refine wpQuiet_nil ?_
      show wpList _ _ _ (_ :: _) _ _
      generalize hwd : World.drew w2 = we
      have hlat : Below w2.heap.size w2 we := by rw [← hwd]; exact (Below.refl _ _).drew
      have HP4 := kept (HP3.out.later hlat)
      have HB4 := kept (HB3.out.trans (hlat.mono HP3.out.sz))
      clear hwd hlat l0 l1 hc0 hc1
      go_wp2_with (first
        | (go_at_call 12; refine (rput_calls pr vr l x y we HP4.out.r HLL.out HX64.out HY64.out.1 HY64.out.2).mono ?_; rintro e w3 ⟨rfl, vr2, hR2, hC2, hG2⟩; have HP5 := kept (HP4.out.putr hR2 hC2 hG2); have HB5 := kept (PutS.below HB4.out HP4.out.sz HP4.out.rAt HP4.out.rRow hC2); clear hR2 hC2 hG2))
      refine hK2 _ _ ?_
      obtain ⟨m, hm⟩ : ∃ m, m = l ++ bitsOf x (clamp y) := ⟨_, rfl⟩
      rw [← hm] at HP5 HL3
      obtain ⟨a, cap, hvr, hne⟩ := HP5.out.r.row.slice
      rw [length_u8s, length_bits01] at hvr
      obtain ⟨M, hM⟩ : ∃ M, M = m.length := ⟨_, rfl⟩
      rw [← hM] at hvr
      have hc3 : w3.cell? ⟨pr, 0, none⟩ = some (.slice a M cap) := by rw [← hvr]; exact HP5.out.r.blk.cell rfl
      have l3 := lat_cell hc3
      have HM := kept hM
      have hlen : ∀ nq : Lat w3, Calls Try.prog 13 #[.pointer (some ⟨pa, 0, none⟩)] nq.w fun e w' => e = .returned (.int .i64 (M : Int)) ∧ nq.w = w' := fun nq => by
        rw [HM.out]; exact len_calls pa va2 m nq.w (HP5.out.a.later nq.below).is
      have HLen := kept hlen
      clear hm hM hlen hvr hne
      go_wp2_with fail
      refine wp_region_quietL (by kernel_rfl) (by kernel_rfl) ?_
      repeat (go_big_quiet_step ((go_at_call 13; exact lat_call_same (HLen.out _))))
      refine wpQuiet_nil ?_
      intro nq
      have HP6 := kept (HP5.out.later nq.below)
      have HB6 := kept (HB5.out.trans (nq.below.mono HP5.out.sz))
      generalize nq.w = w6 at HP6 HB6 ⊢
      clear l3 hc3
      go_wp2_with fail
      go_roundw
      case rel => exact ⟨i + 1, by omega, by go_num, va2, vr2, m, HL3.out, HP6.out, HB6.out⟩
      case measure => simp [intOf]; omega
    · have hA := bytes_calls pa va l wr HPr.out.a.is
      have hcl := HL.out
      have hA2 := rbytes_calls pr vr l wr HPr.out.r (by omega)
      obtain ⟨T, hT⟩ : ∃ T, T = textOf (pack l) := ⟨_, rfl⟩
      rw [← hT] at hA hA2
      have HA := kept hA
      have HA2 := kept hA2
      clear hA hA2 hT hcl
      have hor : ¬ i < n0 ∨ (i < n0 ∧ ¬ i < n1) := by omega
      clear hlt
      rcases hor with t1 | ⟨t1, t2⟩
      · go_wp2_with (first
          | (go_at_call 14; refine HA.out.mono ?_; rintro e w' ⟨rfl, rfl⟩)
          | (go_at_call 15; refine HA2.out.mono ?_; rintro e w8 ⟨rfl, hb8⟩; have HB8 := kept hb8; clear hb8)
          | (go_at_call 10; refine (awake3_calls _).mono ?_; rintro e w9 ⟨rfl, hb9⟩; have HB9 := kept hb9; clear hb9))
        go_ret
        exact ⟨rfl, (HBr.out.trans (HB8.out.mono HPr.out.sz)).trans (HB9.out.mono (Nat.le_trans HPr.out.sz HB8.out.size))⟩
      · go_wp2_with (first
          | (go_at_call 14; refine HA.out.mono ?_; rintro e w' ⟨rfl, rfl⟩)
          | (go_at_call 15; refine HA2.out.mono ?_; rintro e w8 ⟨rfl, hb8⟩; have HB8 := kept hb8; clear hb8)
          | (go_at_call 10; refine (awake3_calls _).mono ?_; rintro e w9 ⟨rfl, hb9⟩; have HB9 := kept hb9; clear hb9))
        go_ret
        exact ⟨rfl, (HBr.out.trans (HB8.out.mono HPr.out.sz)).trans (HB9.out.mono (Nat.le_trans HPr.out.sz HB8.out.size))⟩
end Go.Proofs.Ytcgmofakibfpiaa
