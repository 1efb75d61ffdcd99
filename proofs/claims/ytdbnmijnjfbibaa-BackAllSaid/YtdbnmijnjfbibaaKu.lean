/- The document's bits from their end: Get. -/
import Derived.Test.YtdbnmijnjfbibaaKt
namespace Go.Proofs.Ytdbnmijnjfbibaa
set_option linter.unusedSimpArgs false
set_option linter.unusedVariables false
open Go.RowKit Mix Own Bits
attribute [local go_sem] max_int min_int

set_option maxHeartbeats 2000000 in
theorem tget_arg (p : Nat) (n : Int) (w : World) (hn : n < 0 ∨ 64 < n) :
    Calls Try.prog 14 #[.pointer (some ⟨p, 0, none⟩), .int .i64 n] w fun e w' => e = .returned (.agg #[.int .u64 0, .int .i64 0, .int .i64 1]) ∧ Below w.heap.size w w' := by
  go_enter Try.func14, Try.ntmps14
  go_wp2_with fail
  all_goals exact bodyPost_ret (results_cell_row rfl _ _ w.heap.size 39 #[.int .u64 0, .int .i64 0, .int .i64 1] (0, 0) _ rfl (Blk.fresh _ _ _) Try.underlying39 rfl (by kernel_rfl)) rfl ⟨rfl, (Below.refl _ _).alloc (Nat.le_refl _) _⟩

set_option maxHeartbeats 2000000 in
theorem tget_more (p : Nat) (a : Option Addr) (cap : Nat) (s : ByteArray) (k n : Nat) (w : World) (h : IsT w p a cap s k) (hs : s.size ≤ 1000000000) (hn : n ≤ 64) (hl : k < n) :
    Calls Try.prog 14 #[.pointer (some ⟨p, 0, none⟩), .int .i64 (n : Int)] w fun e w' => e = .returned (.agg #[.int .u64 0, .int .i64 0, .int .i64 2]) ∧ Below w.heap.size w w' := by
  have hk := h.le
  have t1 : ¬ 64 < n := by omega
  have hk2 : k < 100000000000 := by omega
  have hb : Below w.heap.size w (w.alloc (.cells #[.int .u64 0, .int .i64 0, .int .i64 0] 39)) := (Below.refl _ _).alloc (Nat.le_refl _) _
  have e0 : (w.alloc (.cells #[.int .u64 0, .int .i64 0, .int .i64 0] 39)).cell? ⟨p, 0, none⟩ = some (.slice a k cap) := (h.later hb).blk.cell rfl
  clear h hs hk hb
  go_enter Try.func14, Try.ntmps14
  go_wp2_with fail
  exact bodyPost_ret (results_cell_row rfl _ _ w.heap.size 39 #[.int .u64 0, .int .i64 0, .int .i64 2] (0, 0) _ rfl (Blk.fresh _ _ _) Try.underlying39 rfl (by kernel_rfl)) rfl ⟨rfl, (Below.refl _ _).alloc (Nat.le_refl _) _⟩

set_option maxHeartbeats 4000000 in
theorem tget_ok (p : Nat) (a : Option Addr) (cap : Nat) (s : ByteArray) (k n : Nat) (w : World) (h : IsT w p a cap s k) (hs : s.size ≤ 1000000000) (hn : n ≤ 64) (hl : n ≤ k) :
    Calls Try.prog 14 #[.pointer (some ⟨p, 0, none⟩), .int .i64 (n : Int)] w fun e w' => e = .returned (.agg #[.int .u64 (ofBits (((bitsS s).drop (k - n)).take n) : Int), .int .i64 0, .int .i64 0]) ∧
      IsT w' p a cap s (k - n) ∧ Chg (fun b => b = p) w w' := by
  have hk := h.le
  have hcap : k ≤ cap := by
    obtain ⟨_, _, hv, h1, _, _⟩ := h.rd
    simp only [Value.slice.injEq] at hv
    obtain ⟨_, h2, rfl⟩ := hv
    omega
  have t1 : ¬ 64 < n := by omega
  have t2 : ¬ k < n := by omega
  have hk2 : k < 100000000000 := by omega
  obtain ⟨m, hm⟩ : ∃ m, m = k - n := ⟨_, rfl⟩
  have e1 : (k : Int) - (n : Int) = (m : Int) := by omega
  have hmk : m ≤ k := by omega
  have hmn : m + n = k := by omega
  obtain ⟨T, hT⟩ : ∃ T, T = ofBits (((bitsS s).drop (k - n)).take n) := ⟨_, rfl⟩
  rw [← hT, ← hm]
  rw [← hm] at hT
  have hb : Below w.heap.size w (w.alloc (.cells #[.int .u64 0, .int .i64 0, .int .i64 0] 39)) := (Below.refl _ _).alloc (Nat.le_refl _) _
  have e0 : (w.alloc (.cells #[.int .u64 0, .int .i64 0, .int .i64 0] 39)).cell? ⟨p, 0, none⟩ = some (.slice a k cap) := (h.later hb).blk.cell rfl
  have H := kept h
  have HT := kept hT
  have HB0 := kept hb
  clear h hs hm hT hk hb
  go_enter Try.func14, Try.ntmps14
  go_wp2_with fail
  generalize hwa : World.alloc w _ = wa at HB0 e0 ⊢
  have hG : Blk wa w.heap.size #[.int .u64 0, .int .i64 0, .int .i64 0] 39 := by rw [← hwa]; exact Blk.fresh _ _ _
  have l0 := lat_cell e0
  have HG := kept hG
  have H1 := kept (H.out.later HB0.out)
  clear hwa hG e0
  refine wp_region_quietL (by kernel_rfl) (by kernel_rfl) ?_
  repeat (go_big_quiet_step (fail))
  obtain ⟨a2, ha2⟩ : ∃ a2, a2 = (if cap = m then a else a.map (fun x => x.add m)) := ⟨_, rfl⟩
  have hnum : ∀ q : Lat wa, Calls Try.prog 23 #[.slice a2 (k - m) (cap - m)] q.w fun e w' => e = .returned (.int .u64 (T : Int)) ∧ q.w = w' := fun q => by
    have h := ((H1.out.later q.below).rd).sub m n (by omega)
    rw [← ha2, show m + n - m = k - m by omega] at h
    have e : (((bitsS s).take k).drop m).take n = ((bitsS s).drop m).take n := by
      rw [List.drop_take, List.take_take, show min n (k - m) = n by omega]
    rw [HT.out]
    refine number_calls _ _ _ (((bitsS s).drop m).take n) q.w ?_ (by rw [List.length_take]; omega)
    rw [← e]
    simpa [u8s, bits01, List.map_take, List.map_drop] using h
  rw [← ha2]
  have HNum := kept hnum
  clear hnum ha2
  repeat (go_big_quiet_step ((go_at_call 23; exact lat_call_same (HNum.out _))))
  refine wpQuiet_nil ?_
  intro nq
  have HG2 : Kept (Blk nq.w w.heap.size #[.int .u64 0, .int .i64 0, .int .i64 0] 39) := kept (lat_block HG.out nq)
  have HB2 := kept (HB0.out.trans (nq.below.mono HB0.out.size))
  have H2 := kept (H1.out.later nq.below)
  generalize nq.w = w2 at HG2 HB2 H2 ⊢
  clear l0 H1 HG HB0 HNum
  have l0 := lat_cell (H2.out.blk.cell (i := 0) rfl)
  go_wp2_with fail
  refine wp_region_mixL [] [0,1,2,3,4,5,6,7,8,9,10,11,12] [13,14,15] (by kernel_rfl) (by kernel_rfl) ?_
  intro K hK
  simp only [pick, List.filterMap_cons, List.filterMap_nil, List.getElem?_cons_zero, List.getElem?_cons_succ]
  refine wpQuiet_nil ?_
  repeat (show wpQuiet _ _ _ _ (_ :: _) _; go_big_quiet_step (fail))
  refine wpQuiet_nil ?_
  show wpList _ _ _ (_ :: _) _ _
  generalize hwd : World.drew w2 = w3
  have HG3 : Kept (Blk w3 w.heap.size #[.int .u64 0, .int .i64 0, .int .i64 0] 39) := kept (by rw [← hwd]; exact HG2.out)
  have HB3 : Kept (Below w.heap.size w w3) := kept (by rw [← hwd]; exact HB2.out.drew)
  have H3 : Kept (IsT w3 p a cap s k) := kept (by rw [← hwd]; exact ⟨H2.out.blk, H2.out.row, H2.out.le⟩)
  clear hwd l0
  have e1 : w3.cell? ⟨p, 0, none⟩ = some (.slice a k cap) := H3.out.blk.cell rfl
  have ef : w3.frozen? ⟨p, 0, none⟩ = false := H3.out.blk.free 0
  obtain ⟨G, hG⟩ : ∃ G, G = w.heap.size := ⟨_, rfl⟩
  rw [← hG] at HG3 HB3
  rw [← hG]
  have hpG : p ≠ G := by have := H.out.blk.lt; omega
  have hGp : G ≠ p := fun e => hpG e.symm
  obtain ⟨c0, c1, c2, f0, f1, f2⟩ := got_cells HG3.out
  have HGe := kept hG
  clear hG
  go_wp2_with fail
  refine hK _ _ ?_
  go_wp2_with fail
  refine bodyPost_ret (results_cell_row rfl _ _ G 39 #[.int .u64 (T : Int), .int .i64 0, .int .i64 0] (0, 0) _ rfl ((((HG3.out.setOther (a := ⟨p, 0, none⟩) hGp _).set 0 _).set 1 _).set 2 _) Try.underlying39 rfl (by kernel_rfl)) rfl ⟨rfl, ⟨?_, ?_, by have := H3.out.le; omega⟩, ?_⟩
  · exact (((H3.out.blk.set 0 (.slice a m cap)).setOther (a := ⟨G, 0, none⟩) hpG _).setOther (a := ⟨G, 1, none⟩) hpG _).setOther (a := ⟨G, 2, none⟩) hpG _
  · have hv1 : (Value.slice a (8 * s.size) cap).ownBlock ≠ some p := H3.out.row.ne H3.out.blk (by decide)
    have hv2 : (Value.slice a (8 * s.size) cap).ownBlock ≠ some G := H3.out.row.ne HG3.out (by decide)
    exact (((H3.out.row.setOther (a := ⟨p, 0, none⟩) hv1 _).setOther (a := ⟨G, 0, none⟩) hv2 _).setOther (a := ⟨G, 1, none⟩) hv2 _).setOther (a := ⟨G, 2, none⟩) hv2 _
  · have hb3 := HB3.out
    rw [HGe.out] at hb3
    have h1 := (Chg.of_below (S := fun b => b = p) hb3).trans (Chg.setCell w3 ⟨p, 0, none⟩ (.slice a m cap)) (fun _ _ h => h)
    have hno : ∀ b, b < w.heap.size → b = G → b = p := fun b hb e => by have := HGe.out; omega
    exact ((h1.trans (Chg.setCell _ ⟨G, 0, none⟩ _) hno).trans (Chg.setCell _ ⟨G, 1, none⟩ _) hno).trans (Chg.setCell _ ⟨G, 2, none⟩ _) hno

theorem tget_calls (p : Nat) (a : Option Addr) (cap : Nat) (s : ByteArray) (k : Nat) (n : Int) (w : World) (h : IsT w p a cap s k) (hs : s.size ≤ 1000000000) :
    Calls Try.prog 14 #[.pointer (some ⟨p, 0, none⟩), .int .i64 n] w fun e w' => e = .returned (.agg #[.int .u64 ((getE s k n).1 : Int), .int .i64 0, .int .i64 ((getE s k n).2.1 : Int)]) ∧
      IsT w' p a cap s (getE s k n).2.2 ∧ Chg (fun b => b = p) w w' := by
  unfold getE
  by_cases hn : n < 0 ∨ 64 < n
  · rw [if_pos hn]
    exact (tget_arg p n w hn).mono fun e w' ⟨he, hb⟩ => ⟨he, h.later hb, Chg.of_below hb⟩
  · rw [if_neg hn]
    obtain ⟨m, rfl⟩ := Int.eq_ofNat_of_zero_le (show 0 ≤ n by omega)
    by_cases hm : (k : Int) < (m : Int)
    · rw [if_pos hm]
      exact (tget_more p a cap s k m w h hs (by omega) (by omega)).mono fun e w' ⟨he, hb⟩ => ⟨he, h.later hb, Chg.of_below hb⟩
    · rw [if_neg hm]
      exact tget_ok p a cap s k m w h hs (by omega) (by omega)
end Go.Proofs.Ytdbnmijnjfbibaa
