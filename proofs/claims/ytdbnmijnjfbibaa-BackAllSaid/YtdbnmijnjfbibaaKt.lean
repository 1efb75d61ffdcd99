/- The document's bits from their end. -/
import Derived.Test.YtdbnmijnjfbibaaKr
import Derived.Test.YtdbnmijnjfbibaaRn
import Derived.OpenShut
namespace Go.Proofs.Ytdbnmijnjfbibaa
set_option linter.unusedSimpArgs false
set_option linter.unusedVariables false
open Go.RowKit Mix Own Bits
attribute [local go_sem] max_int min_int

/-- A Tail at block p: so many bits of a text, which lie at a. -/
structure IsT (w : World) (p : Nat) (a : Option Addr) (cap : Nat) (s : ByteArray) (k : Nat) : Prop where
  blk : Blk w p #[.slice a k cap] 44
  row : Owns w 5 (.slice a (8 * s.size) cap) (u8s (bits01 (bitsS s)))
  le : k ≤ 8 * s.size

theorem IsT.later {w w' : World} {p : Nat} {a : Option Addr} {cap : Nat} {s : ByteArray} {k : Nat} (h : IsT w p a cap s k) (hc : Below w.heap.size w w') : IsT w' p a cap s k :=
  ⟨(hc.block p h.blk.lt).trans h.blk, h.row.chg (Chg.of_below (S := fun _ => False) hc) (fun _ _ => id), h.le⟩
theorem IsT.rd {w : World} {p : Nat} {a : Option Addr} {cap : Nat} {s : ByteArray} {k : Nat} (h : IsT w p a cap s k) : Rd w (.slice a k cap) (u8s (bits01 ((bitsS s).take k))) := by
  have := h.row.rd.take k h.le
  simpa [u8s, bits01, List.map_take] using this

theorem bit_top (s : ByteArray) (h0 : 0 < s.size) (h : lastB s ≠ 0) : bitS s (topS s) = true := by
  have hb := bl_last s h
  have hs := Zig.bl_spec (lastB s + 1) (lastB s) (by omega) h (by have := lastB_lt s; omega)
  unfold bitS topS
  rw [show (8 * (s.size - 1) + (Zig.bl (lastB s) - 1)) / 8 = s.size - 1 by omega, show (8 * (s.size - 1) + (Zig.bl (lastB s) - 1)) % 8 = Zig.bl (lastB s) - 1 by omega]
  show (lastB s).testBit _ = true
  rw [Nat.testBit_eq_decide_div_mod_eq, decide_eq_true_eq]
  have e : 2 ^ Zig.bl (lastB s) = 2 ^ (Zig.bl (lastB s) - 1) * 2 := by rw [← Nat.pow_succ]; congr 1; omega
  have hd : lastB s / 2 ^ (Zig.bl (lastB s) - 1) = 1 := by
    apply Nat.div_eq_of_lt_le
    · omega
    · omega
  rw [hd]
theorem bit_above (s : ByteArray) (h0 : 0 < s.size) (h : lastB s ≠ 0) (i : Nat) (h1 : topS s < i) (h2 : i < 8 * s.size) : bitS s i = false := by
  have hb := bl_last s h
  have hs := Zig.bl_spec (lastB s + 1) (lastB s) (by omega) h (by have := lastB_lt s; omega)
  unfold topS at h1
  unfold bitS
  rw [show i / 8 = s.size - 1 by omega]
  show (lastB s).testBit _ = false
  apply Nat.testBit_lt_two_pow
  have : 2 ^ Zig.bl (lastB s) ≤ 2 ^ (i % 8) := Nat.pow_le_pow_right (by decide) (by omega)
  omega

theorem tfrom_empty (s : ByteArray) (w : World) (h : s.size = 0) :
    Calls Try.prog 11 #[.string s] w fun e w' => e = .returned (.pointer none) ∧ w = w' := by
  have t0 : ((s.size : Int) == 0) = true := by rw [beq_iff_eq]; omega
  clear h
  go_enter Try.func11, Try.ntmps11
  go_wp2_with fail
  go_ret
  exact ⟨rfl, rfl⟩

theorem tfrom_zero (s : ByteArray) (w : World) (h : 0 < s.size) (hs : s.size ≤ 1000000000000) (h0 : lastB s = 0) :
    Calls Try.prog 11 #[.string s] w fun e w' => e = .returned (.pointer none) ∧ w = w' := by
  have t0 : ((s.size : Int) == 0) = false := by rw [beq_eq_false_iff_ne]; omega
  have hix := run_ix (P := Try.prog) (T := 9) Try.underlying9 s ((s.size : Int) - 1) (s.size - 1) (by omega) (by omega)
  rw [show byteS s (s.size - 1) = 0 from h0] at hix
  have hs2 : s.size < 2000000000000 := by omega
  clear hs
  go_enter Try.func11, Try.ntmps11
  go_wp2_with fail
  go_ret
  exact ⟨rfl, rfl⟩

set_option maxHeartbeats 2000000 in
theorem tfrom_calls (s : ByteArray) (w : World) (h : 0 < s.size) (hs : s.size ≤ 1000000000) (h0 : lastB s ≠ 0) :
    Calls Try.prog 11 #[.string s] w fun e w' => ∃ p a cap, e = .returned (.pointer (some ⟨p, 0, none⟩)) ∧ IsT w' p a cap s (topS s) ∧ Below w.heap.size w w' ∧ w.heap.size ≤ p := by
  have t0 : ((s.size : Int) == 0) = false := by rw [beq_eq_false_iff_ne]; omega
  have hix := run_ix (P := Try.prog) (T := 9) Try.underlying9 s ((s.size : Int) - 1) (s.size - 1) (by omega) (by omega)
  have htop := topS_lt s h h0
  have hbt := bit_top s h h0
  have hba := bit_above s h h0
  obtain ⟨b, hb⟩ : ∃ b, b = lastB s := ⟨_, rfl⟩
  have hb8 : b < 256 := by rw [hb]; exact lastB_lt s
  rw [show byteS s (s.size - 1) = b from hb.symm] at hix
  have hb0 : ((b : Int) == 0) = false := by rw [beq_eq_false_iff_ne]; omega
  obtain ⟨t, ht⟩ : ∃ t, t = topS s := ⟨_, rfl⟩
  rw [← ht] at htop hbt hba
  rw [← ht]
  obtain ⟨N, hN⟩ : ∃ N, N = 8 * s.size := ⟨_, rfl⟩
  have hN2 : N < 10000000000 := by omega
  rw [← hN] at htop hba
  have HBT := kept hbt
  have HBA := kept hba
  have HN := kept hN
  have HS9 := kept hs
  have hs2 : s.size < 2000000000000 := by omega
  obtain ⟨B, hB⟩ : ∃ B, B = w.heap.size := ⟨_, rfl⟩
  rw [← hB]
  have HB := kept hB
  clear hbt hba hb ht hN hs h0 hB h
  go_enter Try.func11, Try.ntmps11
  go_wp2_with fail
  refine (bits_calls s w HS9.out).mono ?_
  rintro e w1 ⟨v, rfl, hO, hb, hg⟩
  obtain ⟨a, cap, rfl, hcap, _, _⟩ := hO.rd
  simp only [length_u8s, length_bits01, length_bitsS] at hO hg hcap
  simp only [length_u8s, length_bits01, length_bitsS]
  rw [← HN.out] at hO hg hcap
  rw [← HN.out]
  have HO := kept hO
  have HB1 : Kept (Below B w w1) := kept (by rw [HB.out]; exact hb)
  have hsz : B ≤ w1.heap.size := by rw [HB.out]; exact hb.size
  have HS := kept hsz
  clear hO hb hg hsz
  go_wp2_with fail
  go_loopw [4] (fun s4 wr => ∃ i : Nat, t ≤ i ∧ i < N ∧ s4 = .int .i64 (i : Int) ∧ wr = w1) (fun s4 _ => (intOf s4).toNat)
  case atStart => exact ⟨N - 1, by omega, by omega, by congr 1; omega, rfl⟩
  case round =>
    obtain ⟨i, hti, hiN, rfl, rfl⟩ := hrel
    have hel := bits01_at (bitsS s) i (by rw [length_bitsS, ← HN.out]; exact hiN)
    rw [getD_bitsS, ← HN.out, decide_eq_true hiN, Bool.true_and] at hel
    obtain ⟨x, rfl, hc⟩ := HO.out.rd.at hel
    by_cases hit : i = t
    · subst hit
      rw [HBT.out] at hc
      have hc : wr.cell? (x.add i) = some (.int .u8 1) := hc
      have hle : i ≤ cap := by omega
      clear hel
      go_wp2_with fail
      go_ret
      exact ⟨_, _, _, rfl, ⟨Blk.fresh _ _ _, by rw [← HN.out]; exact HO.out.alloc _, by rw [← HN.out]; omega⟩, HB1.out.alloc HS.out _, HS.out⟩
    · rw [HBA.out i (by omega) hiN] at hc
      have hc : wr.cell? (x.add i) = some (.int .u8 0) := hc
      have hi1 : 1 ≤ i := by omega
      clear hel
      go_wp2_with fail
      go_roundw
      case rel => exact ⟨i - 1, by omega, by omega, by rw [show ((i - 1 : Nat) : Int) = (i : Int) - 1 by omega], trivial⟩
      case measure => simp [intOf]; omega
end Go.Proofs.Ytdbnmijnjfbibaa
