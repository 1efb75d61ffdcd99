/- wringerref1: the bits of a text; a number of bits. -/
import Derived.Test.YtdbnmijnjfbibaaRr
import Derived.Test.YtdbnmijnjfbibaaSized
namespace Go.Proofs.Ytdbnmijnjfbibaa
set_option linter.unusedSimpArgs false
set_option linter.unusedVariables false
open Go.RowKit Mix Own Bits
attribute [local go_sem] max_int min_int

theorem and8 (b j : Nat) (hb : b < 256) : bits .and .u8 ((b : Int) / 2 ^ j) 1 = ((b.testBit j).toNat : Int) := by
  have h1 : (b : Int) / 2 ^ j ≤ b := Int.ediv_le_self _ (by omega)
  have e : ((b : Int) / 2 ^ j) = ((b / 2 ^ j : Nat) : Int) := by simp
  have h2 : b / 2 ^ j ≤ b := Nat.div_le_self _ _
  rw [e, show (1 : Int) = ((1 : Nat) : Int) by rfl, u8_and_nat _ _ (by omega) (by decide), nat_mask1]
  rw [Nat.testBit_eq_decide_div_mod_eq]
  by_cases h : b / 2 ^ j % 2 = 1 <;> simp [h] <;> omega
theorem bits01_at (l : List Bool) (i : Nat) (h : i < l.length) : (u8s (bits01 l))[i]? = some (.int .u8 ((l.getD i false).toNat : Int)) := by
  simp [u8s, bits01, List.getD_eq_getElem?_getD, h]

set_option maxHeartbeats 2000000 in
theorem number_calls (a : Option Addr) (n cap : Nat) (l : List Bool) (w : World) (hR : Rd w (.slice a n cap) (u8s (bits01 l))) (hl : l.length ≤ 64) :
    Calls Try.prog 23 #[.slice a n cap] w fun e w' => e = .returned (.int .u64 (ofBits l : Int)) ∧ w = w' := by
  have hn := hR.length
  rw [length_u8s, length_bits01] at hn
  have HN := kept hn
  have HR := kept hR
  have hn64 : n ≤ 64 := by omega
  clear hn hR hl
  obtain ⟨T, hT⟩ : ∃ T, T = ofBits l := ⟨_, rfl⟩
  rw [← hT]
  have HT := kept hT
  clear hT
  go_enter Try.func23, Try.ntmps23
  go_wp2_with fail
  go_loopw [3, 4] (fun s3 s4 wr => ∃ i : Nat, i ≤ n ∧ s4 = .int .i64 (i : Int) ∧ (∃ m : Nat, m = ofBits (l.take i) ∧ s3 = .int .u64 (m : Int)) ∧ wr = w) (fun s3 s4 _ => n - (intOf s4).toNat)
  case atStart => exact ⟨0, Nat.zero_le _, rfl, ⟨0, rfl, rfl⟩, rfl⟩
  case round =>
    obtain ⟨i, hi, rfl, ⟨m, hm, rfl⟩, rfl⟩ := hrel
    by_cases hlt : i < n
    · obtain ⟨x, rfl, hc⟩ := HR.out.at (bits01_at l i (by rw [← HN.out]; exact hlt))
      obtain ⟨b, hb⟩ : ∃ b, b = l.getD i false := ⟨_, rfl⟩
      rw [← hb] at hc
      have hst := or_step (l.take i) b i (by rw [List.length_take, ← HN.out]; omega) (by omega)
      rw [hb, ← take_succ_getD l i (by rw [← HN.out]; exact hlt), ← hm, ← hb] at hst
      obtain ⟨c, hcc⟩ : ∃ c, c = b.toNat := ⟨_, rfl⟩
      rw [← hcc] at hc hst
      have hc1 : c < 256 := by rw [hcc]; cases b <;> decide
      clear hcc hb hm
      go_wp2_with fail
      go_roundw
      case rel => exact ⟨i + 1, by omega, by go_num, ⟨_, rfl, rfl⟩, trivial⟩
      case measure => simp [intOf]; omega
    · have hin : i = n := by omega
      subst hin
      rw [List.take_of_length_le (by rw [← HN.out]; exact Nat.le_refl _), ← HT.out] at hm
      subst hm
      go_wp2_with fail
      go_ret
      exact ⟨rfl, rfl⟩

set_option maxHeartbeats 4000000 in
theorem bits_calls (s : ByteArray) (w : World) (hs : s.size ≤ 1000000000) :
    Calls Try.prog 22 #[.string s] w fun e w' => ∃ v, e = .returned v ∧ Owns w' 5 v (u8s (bits01 (bitsS s))) ∧ Below w.heap.size w w' ∧ ∀ g, v.ownBlock = some g → w.heap.size ≤ g := by
  obtain ⟨i0, hi, hz0, hz1, hz2⟩ := info_parts infoU8
  obtain ⟨B, hB⟩ : ∃ B, B = w.heap.size := ⟨_, rfl⟩
  rw [← hB]
  have HB := kept hB
  clear hB
  have hs2 : s.size < 2000000000 := by omega
  have HS := kept hs
  clear hs
  go_enter Try.func22, Try.ntmps22
  go_wp2_with fail
  go_loopw [3, 4] (fun s3 s4 wr => ∃ i : Nat, i ≤ s.size ∧ s4 = .int .i64 (i : Int) ∧ Owns wr 5 s3 (u8s (bits01 ((bitsS s).take (8 * i)))) ∧ Below B w wr ∧ (∀ g, s3.ownBlock = some g → B ≤ g) ∧ B ≤ wr.heap.size) (fun s3 s4 _ => s.size - (intOf s4).toNat)
  case atStart => exact ⟨0, Nat.zero_le _, rfl, by simpa [u8s, bits01] using Owns.nil w _, by rw [HB.out]; exact Below.refl _ _, fun g hg => by simp [Value.ownBlock] at hg, by rw [HB.out]; exact Nat.le_refl _⟩
  case round =>
    obtain ⟨i, hi1, rfl, hO, hb, hg, hsz⟩ := hrel
    have HO := kept hO
    have HBr := kept hb
    have HG := kept hg
    have HSz := kept hsz
    clear hO hb hg hsz
    by_cases hlt : i < s.size
    · have hix := run_ix (P := Try.prog) (T := 9) Try.underlying9 s (i : Int) i rfl hlt
      obtain ⟨b, hb⟩ : ∃ b, b = byteS s i := ⟨_, rfl⟩
      have hb8 : b < 256 := by rw [hb]; exact byteS_lt _ _
      rw [← hb] at hix
      have HBy := kept hb
      clear hb
      go_wp2_with fail
      go_loopw [3, 5] (fun s3 s5 wr => ∃ (j : Nat) (v1 : Value), v1 = s3 ∧ j ≤ 8 ∧ s5 = .int .i64 (j : Int) ∧ Owns wr 5 s3 (u8s (bits01 ((bitsS s).take (8 * i + j)))) ∧ Below B w wr ∧ (∀ g, s3.ownBlock = some g → B ≤ g) ∧ B ≤ wr.heap.size) (fun s3 s5 _ => 8 - (intOf s5).toNat)
      case atStart => exact ⟨0, _, rfl, Nat.zero_le _, rfl, HO.out, HBr.out, HG.out, HSz.out⟩
      case round =>
        obtain ⟨j, v1, rfl, hj, rfl, hO, hb, hg, hsz⟩ := hrel
        have HOj := kept hO
        have HBj := kept hb
        have HGj := kept hg
        have HSj := kept hsz
        clear hO hb hg hsz HO HBr HG HSz
        by_cases hlt2 : j < 8
        · have hand := and8 b j hb8
          obtain ⟨y, hy⟩ : ∃ y, y = b.testBit j := ⟨_, rfl⟩
          rw [← hy] at hand
          have HY := kept hy
          have hlen : ((bitsS s).take (8 * i + j)).length = 8 * i + j := by rw [List.length_take]; simp; omega
          have HL := kept hlen
          clear hy hlen
          go_wp2_with (first | (at_builtin; refine wpList_app1 rfl _ _ 42 rfl 5 i0 (.int .u8 0) 1 Try.underlying42 hi hz0 hz1 hz2 rfl v1 _ (.int .u8 (y.toNat : Int)) rfl HOj.out rfl rfl ?_ ?_ ?_) | fail)
          · have := HL.out; simp [maxLen]; omega
          · have := HL.out; simp; omega
          intro v2 w2 O2 hch F
          have O2 : Owns w2 5 v2 (u8s (bits01 ((bitsS s).take (8 * i + (j + 1))))) := by
            have e : (bitsS s).take (8 * i + (j + 1)) = (bitsS s).take (8 * i + j) ++ [y] := by
              rw [show 8 * i + (j + 1) = (8 * i + j) + 1 by omega, take_succ_getD _ _ (by simp; omega), getD_bitsS, HY.out, HBy.out]
              have h1 : 8 * i + j < 8 * s.size := by omega
              simp only [h1, decide_true, Bool.true_and, bitS]
              rw [show (8 * i + j) / 8 = i by omega, show (8 * i + j) % 8 = j by omega]
            rw [e]; simpa [bits01, u8s] using O2
          have HO2 := kept O2
          have HB2 : Kept (Below B w w2) := kept (HBj.out.trans (hch.below HSj.out (fun k hk h => by have := HGj.out k h.symm; omega)))
          have HS2 : Kept (B ≤ w2.heap.size) := kept (Nat.le_trans HSj.out hch.size)
          have HG2 : Kept (∀ g, v2.ownBlock = some g → B ≤ g) := kept (fun g hg => by
            rcases F g hg with h | h
            · exact HGj.out g h.symm
            · have := HSj.out; omega)
          clear O2 hch F hand
          go_wp2_with fail
          go_roundw
          case rel => exact ⟨j + 1, _, rfl, by omega, by go_num, HO2.out, HB2.out, HG2.out, HS2.out⟩
          case measure => simp [intOf]; omega
        · have hj8 : j = 8 := by omega
          subst hj8
          go_wp2_with fail
          go_roundw
          case rel => exact ⟨i + 1, by omega, by go_num, HOj.out, HBj.out, HGj.out, HSj.out⟩
          case measure => simp [intOf]; omega
    · have hin : i = s.size := by omega
      subst hin
      go_wp2_with fail
      go_ret
      exact ⟨_, rfl, by have h := HO.out; rwa [List.take_of_length_le (by simp)] at h, HBr.out, HG.out⟩

theorem got_cells {w : World} {G : Nat} {x y z : Value} {t : TypeId} (h : Blk w G #[x, y, z] t) :
    w.cell? ⟨G, 0, none⟩ = some x ∧ w.cell? ⟨G, 1, none⟩ = some y ∧ w.cell? ⟨G, 2, none⟩ = some z ∧ w.frozen? ⟨G, 0, none⟩ = false ∧ w.frozen? ⟨G, 1, none⟩ = false ∧ w.frozen? ⟨G, 2, none⟩ = false :=
  ⟨h.cell rfl, h.cell rfl, h.cell rfl, h.free 0, h.free 1, h.free 2⟩
end Go.Proofs.Ytdbnmijnjfbibaa
