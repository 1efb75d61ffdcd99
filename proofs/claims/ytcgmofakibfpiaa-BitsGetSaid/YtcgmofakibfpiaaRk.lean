/- wringerref1: the bits of a text; a number of bits; Walk's methods. -/
import Derived.Test.YtcgmofakibfpiaaBo
import Derived.Test.YtcgmofakibfpiaaRr
import Derived.Test.YtcgmofakibfpiaaSized
namespace Go.Proofs.Ytcgmofakibfpiaa
set_option linter.unusedSimpArgs false
set_option linter.unusedVariables false
open Go.RowKit Mix Own Bits
attribute [local go_sem] max_int min_int

theorem and8 (b j : Nat) (hb : b < 256) : bits .and .u8 ((b : Int) / 2 ^ j) 1 = ((b.testBit j).toNat : Int) := by
  have h1 : (b : Int) / 2 ^ j ≤ b := Int.ediv_le_self _ (by omega)
  have e : ((b : Int) / 2 ^ j) = ((b / 2 ^ j : Nat) : Int) := by simp
  have h2 : b / 2 ^ j ≤ b := Nat.div_le_self _ _
  rw [e, show (1 : Int) = ((1 : Nat) : Int) by rfl, u8_and_nat _ _ (by omega) (by decide), nat_mask1]
  rw [Nat.testBit_eq_decide_div_mod_eq]
  by_cases h : b / 2 ^ j % 2 = 1 <;> simp [h] <;> omega
theorem bits01_at (l : List Bool) (i : Nat) (h : i < l.length) : (u8s (bits01 l))[i]? = some (.int .u8 ((l.getD i false).toNat : Int)) := by
  simp [u8s, bits01, List.getD_eq_getElem?_getD, h]

set_option maxHeartbeats 2000000 in
theorem number_calls (a : Option Addr) (n cap : Nat) (l : List Bool) (w : World) (hR : Rd w (.slice a n cap) (u8s (bits01 l))) (hl : l.length ≤ 64) :
    Calls Try.prog 27 #[.slice a n cap] w fun e w' => e = .returned (.int .u64 (ofBits l : Int)) ∧ w = w' := by
  have hn := hR.length
  rw [length_u8s, length_bits01] at hn
  have HN := kept hn
  have HR := kept hR
  have hn64 : n ≤ 64 := by omega
  clear hn hR hl
  obtain ⟨T, hT⟩ : ∃ T, T = ofBits l := ⟨_, rfl⟩
  rw [← hT]
  have HT := kept hT
  clear hT
  go_enter Try.func27, Try.ntmps27
  go_wp2_with fail
  go_loopw [3, 4] (fun s3 s4 wr => ∃ i : Nat, i ≤ n ∧ s4 = .int .i64 (i : Int) ∧ (∃ m : Nat, m = ofBits (l.take i) ∧ s3 = .int .u64 (m : Int)) ∧ wr = w) (fun s3 s4 _ => n - (intOf s4).toNat)
  case atStart => exact ⟨0, Nat.zero_le _, rfl, ⟨0, rfl, rfl⟩, rfl⟩
  case round =>
    obtain ⟨i, hi, rfl, ⟨m, hm, rfl⟩, rfl⟩ := hrel
    by_cases hlt : i < n
    · obtain ⟨x, rfl, hc⟩ := HR.out.at (bits01_at l i (by rw [← HN.out]; exact hlt))
      obtain ⟨b, hb⟩ : ∃ b, b = l.getD i false := ⟨_, rfl⟩
      rw [← hb] at hc
      have hst := or_step (l.take i) b i (by rw [List.length_take, ← HN.out]; omega) (by omega)
      rw [hb, ← take_succ_getD l i (by rw [← HN.out]; exact hlt), ← hm, ← hb] at hst
      obtain ⟨c, hcc⟩ : ∃ c, c = b.toNat := ⟨_, rfl⟩
      rw [← hcc] at hc hst
      have hc1 : c < 256 := by rw [hcc]; cases b <;> decide
      clear hcc hb hm
      go_wp2_with fail
      go_roundw
      case rel => exact ⟨i + 1, by omega, by go_num, ⟨_, rfl, rfl⟩, trivial⟩
      case measure => simp [intOf]; omega
    · have hin : i = n := by omega
      subst hin
      rw [List.take_of_length_le (by rw [← HN.out]; exact Nat.le_refl _), ← HT.out] at hm
      subst hm
      go_wp2_with fail
      go_ret
      exact ⟨rfl, rfl⟩

/-- A Walk at block p, its bits at v, so many of them gone. -/
structure IsK (w : World) (p : Nat) (v : Value) (s : ByteArray) (k : Nat) : Prop where
  blk : Blk w p #[v, .int .i64 (k : Int)] 60
  row : Owns w 5 v (u8s (bits01 (bitsS s)))

theorem IsK.keep {w w' : World} {S : Nat → Prop} {p : Nat} {v : Value} {s : ByteArray} {k : Nat} (h : IsK w p v s k) (hc : Chg S w w') (hp : ¬ S p) (hv : ∀ g, v.ownBlock = some g → ¬ S g) : IsK w' p v s k :=
  ⟨hc.keep h.blk hp, h.row.chg hc hv⟩
theorem IsK.later {w w' : World} {p : Nat} {v : Value} {s : ByteArray} {k : Nat} (h : IsK w p v s k) (hc : Below w.heap.size w w') : IsK w' p v s k :=
  h.keep (Chg.of_below (S := fun _ => False) hc) id (fun _ _ => id)

set_option maxHeartbeats 4000000 in
theorem bits_calls (s : ByteArray) (w : World) (hs : s.size ≤ 1000000000) :
    Calls Try.prog 26 #[.string s] w fun e w' => ∃ v, e = .returned v ∧ Owns w' 5 v (u8s (bits01 (bitsS s))) ∧ Below w.heap.size w w' ∧ ∀ g, v.ownBlock = some g → w.heap.size ≤ g := by
  obtain ⟨i0, hi, hz0, hz1, hz2⟩ := info_parts infoU8
  obtain ⟨B, hB⟩ : ∃ B, B = w.heap.size := ⟨_, rfl⟩
  rw [← hB]
  have HB := kept hB
  clear hB
  have hs2 : s.size < 2000000000 := by omega
  have HS := kept hs
  clear hs
  go_enter Try.func26, Try.ntmps26
  go_wp2_with fail
  go_loopw [3, 4] (fun s3 s4 wr => ∃ i : Nat, i ≤ s.size ∧ s4 = .int .i64 (i : Int) ∧ Owns wr 5 s3 (u8s (bits01 ((bitsS s).take (8 * i)))) ∧ Below B w wr ∧ (∀ g, s3.ownBlock = some g → B ≤ g) ∧ B ≤ wr.heap.size) (fun s3 s4 _ => s.size - (intOf s4).toNat)
  case atStart => exact ⟨0, Nat.zero_le _, rfl, by simpa [u8s, bits01] using Owns.nil w _, by rw [HB.out]; exact Below.refl _ _, fun g hg => by simp [Value.ownBlock] at hg, by rw [HB.out]; exact Nat.le_refl _⟩
  case round =>
    obtain ⟨i, hi1, rfl, hO, hb, hg, hsz⟩ := hrel
    have HO := kept hO
    have HBr := kept hb
    have HG := kept hg
    have HSz := kept hsz
    clear hO hb hg hsz
    by_cases hlt : i < s.size
    · have hix := run_ix (P := Try.prog) (T := 9) Try.underlying9 s (i : Int) i rfl hlt
      obtain ⟨b, hb⟩ : ∃ b, b = byteS s i := ⟨_, rfl⟩
      have hb8 : b < 256 := by rw [hb]; exact byteS_lt _ _
      rw [← hb] at hix
      have HBy := kept hb
      clear hb
      go_wp2_with fail
      go_loopw [3, 5] (fun s3 s5 wr => ∃ (j : Nat) (v1 : Value), v1 = s3 ∧ j ≤ 8 ∧ s5 = .int .i64 (j : Int) ∧ Owns wr 5 s3 (u8s (bits01 ((bitsS s).take (8 * i + j)))) ∧ Below B w wr ∧ (∀ g, s3.ownBlock = some g → B ≤ g) ∧ B ≤ wr.heap.size) (fun s3 s5 _ => 8 - (intOf s5).toNat)
      case atStart => exact ⟨0, _, rfl, Nat.zero_le _, rfl, HO.out, HBr.out, HG.out, HSz.out⟩
      case round =>
        obtain ⟨j, v1, rfl, hj, rfl, hO, hb, hg, hsz⟩ := hrel
        have HOj := kept hO
        have HBj := kept hb
        have HGj := kept hg
        have HSj := kept hsz
        clear hO hb hg hsz HO HBr HG HSz
        by_cases hlt2 : j < 8
        · have hand := and8 b j hb8
          obtain ⟨y, hy⟩ : ∃ y, y = b.testBit j := ⟨_, rfl⟩
          rw [← hy] at hand
          have HY := kept hy
          have hlen : ((bitsS s).take (8 * i + j)).length = 8 * i + j := by rw [List.length_take]; simp; omega
          have HL := kept hlen
          clear hy hlen
          go_wp2_with (first | (at_builtin; refine wpList_app1 rfl _ _ 28 rfl 5 i0 (.int .u8 0) 1 Try.underlying28 hi hz0 hz1 hz2 rfl v1 _ (.int .u8 (y.toNat : Int)) rfl HOj.out rfl rfl ?_ ?_ ?_) | fail)
          · have := HL.out; simp [maxLen]; omega
          · have := HL.out; simp; omega
          intro v2 w2 O2 hch F
          have O2 : Owns w2 5 v2 (u8s (bits01 ((bitsS s).take (8 * i + (j + 1))))) := by
            have e : (bitsS s).take (8 * i + (j + 1)) = (bitsS s).take (8 * i + j) ++ [y] := by
              rw [show 8 * i + (j + 1) = (8 * i + j) + 1 by omega, take_succ_getD _ _ (by simp; omega), getD_bitsS, HY.out, HBy.out]
              have h1 : 8 * i + j < 8 * s.size := by omega
              simp only [h1, decide_true, Bool.true_and, bitS]
              rw [show (8 * i + j) / 8 = i by omega, show (8 * i + j) % 8 = j by omega]
            rw [e]; simpa [bits01, u8s] using O2
          have HO2 := kept O2
          have HB2 : Kept (Below B w w2) := kept (HBj.out.trans (hch.below HSj.out (fun k hk h => by have := HGj.out k h.symm; omega)))
          have HS2 : Kept (B ≤ w2.heap.size) := kept (Nat.le_trans HSj.out hch.size)
          have HG2 : Kept (∀ g, v2.ownBlock = some g → B ≤ g) := kept (fun g hg => by
            rcases F g hg with h | h
            · exact HGj.out g h.symm
            · have := HSj.out; omega)
          clear O2 hch F hand
          go_wp2_with fail
          go_roundw
          case rel => exact ⟨j + 1, _, rfl, by omega, by go_num, HO2.out, HB2.out, HG2.out, HS2.out⟩
          case measure => simp [intOf]; omega
        · have hj8 : j = 8 := by omega
          subst hj8
          go_wp2_with fail
          go_roundw
          case rel => exact ⟨i + 1, by omega, by go_num, HOj.out, HBj.out, HGj.out, HSj.out⟩
          case measure => simp [intOf]; omega
    · have hin : i = s.size := by omega
      subst hin
      go_wp2_with fail
      go_ret
      exact ⟨_, rfl, by have h := HO.out; rwa [List.take_of_length_le (by simp)] at h, HBr.out, HG.out⟩

theorem infoGot : (Try.prog.info? 46).map (fun i => (i.zero, i.size)) = some (some (.agg #[.int .u64 0, .int .i64 0, .int .i64 0]), 3) := by kernel_rfl

theorem kfrom_calls (s : ByteArray) (w : World) (hs : s.size ≤ 1000000000) :
    Calls Try.prog 20 #[.string s] w fun e w' => ∃ p v, e = .returned (.pointer (some ⟨p, 0, none⟩)) ∧ IsK w' p v s 0 ∧ Below w.heap.size w w' ∧ w.heap.size ≤ p ∧ ∀ g, v.ownBlock = some g → w.heap.size ≤ g := by
  go_enter Try.func20, Try.ntmps20
  go_wp2_with fail
  refine (bits_calls s w hs).mono ?_
  rintro e w1 ⟨v, rfl, hO, hb, hg⟩
  obtain ⟨a, cap, rfl, _⟩ := hO.slice
  simp only [length_u8s, length_bits01, length_bitsS] at hO hg
  have HO := kept hO
  have HB := kept hb
  have HG := kept hg
  clear hO hb hg
  go_wp2_with fail
  go_ret
  exact ⟨_, _, rfl, ⟨Blk.fresh _ _ _, HO.out.alloc _⟩, HB.out.alloc HB.out.size _, HB.out.size, HG.out⟩

theorem got_cells {w : World} {G : Nat} {x y z : Value} {t : TypeId} (h : Blk w G #[x, y, z] t) :
    w.cell? ⟨G, 0, none⟩ = some x ∧ w.cell? ⟨G, 1, none⟩ = some y ∧ w.cell? ⟨G, 2, none⟩ = some z ∧ w.frozen? ⟨G, 0, none⟩ = false ∧ w.frozen? ⟨G, 1, none⟩ = false ∧ w.frozen? ⟨G, 2, none⟩ = false :=
  ⟨h.cell rfl, h.cell rfl, h.cell rfl, h.free 0, h.free 1, h.free 2⟩

set_option maxHeartbeats 2000000 in
theorem kget_arg (p : Nat) (v : Value) (s : ByteArray) (k : Nat) (n : Int) (w : World) (hn : n < 0 ∨ 64 < n) :
    Calls Try.prog 21 #[.pointer (some ⟨p, 0, none⟩), .int .i64 n] w fun e w' => e = .returned (.agg #[.int .u64 0, .int .i64 0, .int .i64 1]) ∧ Below w.heap.size w w' := by
  go_enter Try.func21, Try.ntmps21
  go_wp2_with fail
  all_goals exact bodyPost_ret (results_cell_row rfl _ _ w.heap.size 46 #[.int .u64 0, .int .i64 0, .int .i64 1] (0, 0) _ rfl (Blk.fresh _ _ _) Try.underlying46 rfl (by kernel_rfl)) rfl ⟨rfl, (Below.refl _ _).alloc (Nat.le_refl _) _⟩

set_option maxHeartbeats 2000000 in
theorem kget_more (p : Nat) (v : Value) (s : ByteArray) (k n : Nat) (w : World) (h : IsK w p v s k) (hs : s.size ≤ 1000000000) (hk : k ≤ 8 * s.size) (hn : n ≤ 64) (hl : 8 * s.size < k + n) :
    Calls Try.prog 21 #[.pointer (some ⟨p, 0, none⟩), .int .i64 (n : Int)] w fun e w' => e = .returned (.agg #[.int .u64 0, .int .i64 0, .int .i64 2]) ∧ Below w.heap.size w w' := by
  obtain ⟨a, cap, rfl, _⟩ := h.row.slice
  obtain ⟨N, hN⟩ : ∃ N, N = 8 * s.size := ⟨_, rfl⟩
  rw [length_u8s, length_bits01, length_bitsS, ← hN] at h
  have hN2 : N < 100000000000 := by omega
  have t1 : decide ((n : Int) < 0) = false := by simp
  have t2 : decide ((64 : Int) < (n : Int)) = false := by simp; omega
  have t3 : decide ((N : Int) - (k : Int) < (n : Int)) = true := by simp; omega
  have hkN : k ≤ N := by omega
  have H := kept h
  clear h hN hs hk hl
  go_enter Try.func21, Try.ntmps21
  go_wp2_with fail
  generalize hwa : World.alloc w _ = wa
  have hb : Below w.heap.size w wa := by rw [← hwa]; exact (Below.refl _ _).alloc (Nat.le_refl _) _
  have hG : Blk wa w.heap.size #[.int .u64 0, .int .i64 0, .int .i64 0] 46 := by rw [← hwa]; exact Blk.fresh _ _ _
  have h1 := H.out.later hb
  have l0 := lat_cell (h1.blk.cell (i := 0) rfl)
  have l1 := lat_cell (h1.blk.cell (i := 1) rfl)
  have HG := kept hG
  have HB := kept hb
  clear hwa hb hG h1
  refine wp_region_quietL (by kernel_rfl) (by kernel_rfl) ?_
  repeat (go_big_quiet_step (fail))
  refine wpQuiet_nil ?_
  intro nq
  have HG2 : Kept (Blk nq.w w.heap.size #[.int .u64 0, .int .i64 0, .int .i64 0] 46) := kept (lat_block HG.out nq)
  have HB2 := kept (HB.out.trans (nq.below.mono HB.out.size))
  generalize nq.w = w2 at HG2 HB2 ⊢
  obtain ⟨c0, c1, c2, f0, f1, f2⟩ := got_cells HG2.out
  go_wp2_with fail
  exact bodyPost_ret (results_cell_row rfl _ _ w.heap.size 46 #[.int .u64 0, .int .i64 0, .int .i64 2] (0, 0) _ rfl (((HG2.out.set 0 _).set 1 _).set 2 _) Try.underlying46 rfl (by kernel_rfl)) rfl ⟨rfl, ((HB2.out.setCell (p := ⟨w.heap.size, 0, none⟩) (Nat.le_refl _) _).setCell (p := ⟨w.heap.size, 1, none⟩) (Nat.le_refl _) _).setCell (p := ⟨w.heap.size, 2, none⟩) (Nat.le_refl _) _⟩

set_option maxHeartbeats 2000000 in
theorem kget_ok (p : Nat) (v : Value) (s : ByteArray) (k n : Nat) (w : World) (h : IsK w p v s k) (hs : s.size ≤ 1000000000) (hn : n ≤ 64) (hl : k + n ≤ 8 * s.size) :
    Calls Try.prog 21 #[.pointer (some ⟨p, 0, none⟩), .int .i64 (n : Int)] w fun e w' => e = .returned (.agg #[.int .u64 (ofBits (((bitsS s).drop k).take n) : Int), .int .i64 0, .int .i64 0]) ∧
      IsK w' p v s (k + n) ∧ Chg (fun b => b = p) w w' := by
  obtain ⟨a, cap, rfl, hcap, _, _⟩ := h.row.rd
  obtain ⟨N, hN⟩ : ∃ N, N = 8 * s.size := ⟨_, rfl⟩
  rw [length_u8s, length_bits01, length_bitsS, ← hN] at h
  rw [length_u8s, length_bits01, length_bitsS, ← hN] at hcap
  rw [show (u8s (bits01 (bitsS s))).length = N by rw [length_u8s, length_bits01, length_bitsS, hN]]
  have hN2 : N < 100000000000 := by omega
  have t1 : decide ((n : Int) < 0) = false := by simp
  have t2 : decide ((64 : Int) < (n : Int)) = false := by simp; omega
  have t3 : decide ((N : Int) - (k : Int) < (n : Int)) = false := by simp; omega
  have hkN : k + n ≤ N := by omega
  have H := kept h
  clear h hs hl hN
  go_enter Try.func21, Try.ntmps21
  go_wp2_with fail
  generalize hwa : World.alloc w _ = wa
  have hb : Below w.heap.size w wa := by rw [← hwa]; exact (Below.refl _ _).alloc (Nat.le_refl _) _
  have hG : Blk wa w.heap.size #[.int .u64 0, .int .i64 0, .int .i64 0] 46 := by rw [← hwa]; exact Blk.fresh _ _ _
  have h1 := H.out.later hb
  have l0 := lat_cell (h1.blk.cell (i := 0) rfl)
  have l1 := lat_cell (h1.blk.cell (i := 1) rfl)
  have HG := kept hG
  have HB := kept hb
  have H1 := kept h1
  clear hwa hb hG h1
  refine wp_region_quietL (by kernel_rfl) (by kernel_rfl) ?_
  repeat (go_big_quiet_step (fail))
  refine wpQuiet_nil ?_
  intro nq
  have HG2 : Kept (Blk nq.w w.heap.size #[.int .u64 0, .int .i64 0, .int .i64 0] 46) := kept (lat_block HG.out nq)
  have HB2 := kept (HB.out.trans (nq.below.mono HB.out.size))
  have H2 := kept (H1.out.later nq.below)
  generalize nq.w = w2 at HG2 HB2 H2 ⊢
  clear l0 l1 H1 HG HB
  have l0 := lat_cell (H2.out.blk.cell (i := 0) rfl)
  have l1 := lat_cell (H2.out.blk.cell (i := 1) rfl)
  go_wp2_with fail
  refine wp_region_quietL (by kernel_rfl) (by kernel_rfl) ?_
  repeat (go_big_quiet_step (fail))
  obtain ⟨a2, ha2⟩ : ∃ a2, a2 = (if cap = k then a else a.map (fun x => x.add k)) := ⟨_, rfl⟩
  obtain ⟨n2, hn2⟩ : ∃ n2, n2 = k + n - k := ⟨_, rfl⟩
  obtain ⟨T, hT⟩ : ∃ T, T = ofBits (((bitsS s).drop k).take n) := ⟨_, rfl⟩
  have hnum : ∀ m : Lat w2, Calls Try.prog 27 #[.slice a2 n2 (cap - k)] m.w fun e w' => e = .returned (.int .u64 (T : Int)) ∧ m.w = w' := fun m => by
    have h := ((H2.out.later m.below).row.rd).sub k n hkN
    rw [← ha2, ← hn2] at h
    rw [hT]
    exact number_calls _ _ _ (((bitsS s).drop k).take n) m.w (by simpa [u8s, bits01, List.map_take, List.map_drop] using h) (by rw [List.length_take]; omega)
  rw [← ha2, ← hn2]
  have HNum := kept hnum
  have HT := kept hT
  clear hnum ha2 hn2 hT
  repeat (go_big_quiet_step ((go_at_call 27; exact lat_call_same (HNum.out _))))
  refine wpQuiet_nil ?_
  intro nq2
  have HG3 : Kept (Blk nq2.w w.heap.size #[.int .u64 0, .int .i64 0, .int .i64 0] 46) := kept (lat_block HG2.out nq2)
  have HB3 := kept (HB2.out.trans (nq2.below.mono HB2.out.size))
  have H3 := kept (H2.out.later nq2.below)
  generalize nq2.w = w3 at HG3 HB3 H3 ⊢
  clear l0 l1 H2 HG2 HB2
  obtain ⟨G, hG⟩ : ∃ G, G = w.heap.size := ⟨_, rfl⟩
  rw [← hG] at HG3 HB3
  rw [← hG]
  have hpG : p ≠ G := by have := H.out.blk.lt; omega
  have hGp : G ≠ p := fun e => hpG e.symm
  obtain ⟨c0, c1, c2, f0, f1, f2⟩ := got_cells HG3.out
  have e1 : w3.cell? ⟨p, 1, none⟩ = some (.int .i64 (k : Int)) := H3.out.blk.cell rfl
  have ef : w3.frozen? ⟨p, 1, none⟩ = false := H3.out.blk.free 1
  have HGe := kept hG
  clear hG
  go_wp2_with fail
  refine bodyPost_ret (results_cell_row rfl _ _ G 46 #[.int .u64 (T : Int), .int .i64 0, .int .i64 0] (0, 0) _ rfl ((((HG3.out.setOther (a := ⟨p, 1, none⟩) hGp _).set 0 _).set 1 _).set 2 _) Try.underlying46 rfl (by kernel_rfl)) rfl ⟨by rw [HT.out], ⟨?_, ?_⟩, ?_⟩
  · exact (((H3.out.blk.set 1 (.int .i64 ((k : Int) + (n : Int)))).setOther (a := ⟨G, 0, none⟩) hpG _).setOther (a := ⟨G, 1, none⟩) hpG _).setOther (a := ⟨G, 2, none⟩) hpG _
  · have hv1 : (Value.slice a N cap).ownBlock ≠ some p := H3.out.row.ne H3.out.blk (by decide)
    have hv2 : (Value.slice a N cap).ownBlock ≠ some G := H3.out.row.ne HG3.out (by decide)
    exact (((H3.out.row.setOther (a := ⟨p, 1, none⟩) hv1 _).setOther (a := ⟨G, 0, none⟩) hv2 _).setOther (a := ⟨G, 1, none⟩) hv2 _).setOther (a := ⟨G, 2, none⟩) hv2 _
  · have hb3 := HB3.out
    rw [HGe.out] at hb3
    have h1 := (Chg.of_below (S := fun b => b = p) hb3).trans (Chg.setCell w3 ⟨p, 1, none⟩ (.int .i64 ((k : Int) + (n : Int)))) (fun _ _ h => h)
    have hno : ∀ b, b < w.heap.size → b = G → b = p := fun b hb e => by have := HGe.out; omega
    exact ((h1.trans (Chg.setCell _ ⟨G, 0, none⟩ _) hno).trans (Chg.setCell _ ⟨G, 1, none⟩ _) hno).trans (Chg.setCell _ ⟨G, 2, none⟩ _) hno

theorem kget_calls (p : Nat) (v : Value) (s : ByteArray) (k : Nat) (n : Int) (w : World) (h : IsK w p v s k) (hs : s.size ≤ 1000000000) (hk : k ≤ 8 * s.size) :
    Calls Try.prog 21 #[.pointer (some ⟨p, 0, none⟩), .int .i64 n] w fun e w' => e = .returned (.agg #[.int .u64 ((getS s k n).1 : Int), .int .i64 0, .int .i64 ((getS s k n).2.1 : Int)]) ∧
      IsK w' p v s (getS s k n).2.2 ∧ Chg (fun b => b = p) w w' := by
  unfold getS
  by_cases hn : n < 0 ∨ 64 < n
  · rw [if_pos hn]
    exact (kget_arg p v s k n w hn).mono fun e w' ⟨he, hb⟩ => ⟨he, h.later hb, Chg.of_below hb⟩
  · rw [if_neg hn]
    obtain ⟨m, rfl⟩ := Int.eq_ofNat_of_zero_le (show 0 ≤ n by omega)
    by_cases hm : 8 * (s.size : Int) - (k : Int) < (m : Int)
    · rw [if_pos hm]
      exact (kget_more p v s k m w h hs hk (by omega) (by omega)).mono fun e w' ⟨he, hb⟩ => ⟨he, h.later hb, Chg.of_below hb⟩
    · rw [if_neg hm]
      exact kget_ok p v s k m w h hs (by omega) (by omega)

set_option maxHeartbeats 2000000 in
theorem krest_calls (p : Nat) (v : Value) (s : ByteArray) (k : Nat) (w : World) (h : IsK w p v s k) (hs : s.size ≤ 1000000000) (hk : k ≤ 8 * s.size) :
    Calls Try.prog 22 #[.pointer (some ⟨p, 0, none⟩)] w fun e w' => e = .returned (.bool (restS s k)) ∧ Below w.heap.size w w' := by
  obtain ⟨a, cap, rfl, hcap, _, _⟩ := h.row.rd
  obtain ⟨N, hN⟩ : ∃ N, N = 8 * s.size := ⟨_, rfl⟩
  rw [length_u8s, length_bits01, length_bitsS, ← hN] at h
  rw [length_u8s, length_bits01, length_bitsS, ← hN] at hcap
  have hN2 : N < 100000000000 := by omega
  have hkN : k ≤ N := by omega
  have l0 := lat_cell (h.blk.cell (i := 0) rfl)
  have l1 := lat_cell (h.blk.cell (i := 1) rfl)
  by_cases h8 : k + 8 ≤ N
  · have e : restS s k = false := by unfold restS; rw [decide_eq_false (by omega)]; rfl
    rw [e]
    have t1 : decide ((N : Int) - (k : Int) < 8) = false := by simp; omega
    clear hN e h
    go_enter Try.func22, Try.ntmps22
    go_wp2_with fail
    refine wp_region_quietL (by kernel_rfl) (by kernel_rfl) ?_
    repeat (go_big_quiet_step (fail))
    refine wpQuiet_nil ?_
    intro nq
    go_wp2_with fail
    go_ret
    exact ⟨rfl, nq.below⟩
  · have t1 : decide ((N : Int) - (k : Int) < 8) = true := by simp; omega
    obtain ⟨T, hT⟩ : ∃ T, T = ofBits ((bitsS s).drop k) := ⟨_, rfl⟩
    have e : restS s k = ((T : Int) == 0) := by
      unfold restS
      rw [decide_eq_true (by omega), Bool.true_and, Bool.eq_iff_iff, ← ofBits_zero, ← hT, beq_iff_eq]
      omega
    rw [e]
    obtain ⟨a2, ha2⟩ : ∃ a2, a2 = (if cap = k then a else a.map (fun x => x.add k)) := ⟨_, rfl⟩
    have hnum : ∀ m : Lat w, Calls Try.prog 27 #[.slice a2 (N - k) (cap - k)] m.w fun e w' => e = .returned (.int .u64 (T : Int)) ∧ m.w = w' := fun m => by
      have h := ((h.later m.below).row.rd).sub k (N - k) (by omega)
      rw [← ha2, show k + (N - k) - k = N - k by omega] at h
      rw [hT]
      refine number_calls _ _ _ ((bitsS s).drop k) m.w ?_ (by rw [List.length_drop, length_bitsS]; omega)
      rw [List.take_of_length_le (by rw [List.length_drop, length_u8s, length_bits01, length_bitsS]; omega)] at h
      simpa [u8s, bits01, List.map_drop] using h
    have HNum := kept hnum
    have HA := kept ha2
    have HT := kept hT
    clear hnum ha2 hT hN e h
    go_enter Try.func22, Try.ntmps22
    go_wp2_with fail
    refine wp_region_quietL (by kernel_rfl) (by kernel_rfl) ?_
    repeat (go_big_quiet_step (fail))
    rw [← HA.out]
    repeat (go_big_quiet_step ((go_at_call 27; exact lat_call_same (HNum.out _))))
    refine wpQuiet_nil ?_
    intro nq
    go_wp2_with fail
    go_ret
    exact ⟨rfl, nq.below⟩
end Go.Proofs.Ytcgmofakibfpiaa
