/- wringerref1's Row: what its methods do to its memory. -/
import Derived.Test.YtdbnmijnjfbibaaBp
namespace Go.Proofs.Ytdbnmijnjfbibaa
set_option linter.unusedSimpArgs false
set_option linter.unusedVariables false
open Go.RowKit Mix Own Bits
attribute [local go_sem] max_int min_int

def bits01 (l : List Bool) : List Nat := l.map Bool.toNat
@[simp] theorem length_bits01 (l : List Bool) : (bits01 l).length = l.length := by simp [bits01]

/-- A Row at block p, its bits at v. -/
structure IsR (w : World) (p : Nat) (v : Value) (l : List Bool) : Prop where
  blk : Blk w p #[v] 53
  row : Owns w 5 v (u8s (bits01 l))

theorem IsR.keep {w w' : World} {S : Nat → Prop} {p : Nat} {v : Value} {l : List Bool} (h : IsR w p v l) (hc : Chg S w w') (hp : ¬ S p) (hv : ∀ g, v.ownBlock = some g → ¬ S g) : IsR w' p v l :=
  ⟨hc.keep h.blk hp, h.row.chg hc hv⟩

theorem bit_byte0 (x k : Nat) (hx : x < 18446744073709551616) : bits .and .u64 ((x : Int) / 2 ^ k) 1 % 256 = (((x.testBit k).toNat : Nat) : Int) := by
  have h1 : (x : Int) / 2 ^ k ≤ x := Int.ediv_le_self _ (by omega)
  have h0 : 0 ≤ (x : Int) / 2 ^ k := Int.ediv_nonneg (by omega) (Int.pow_nonneg (by decide))
  rw [Bits.and_one_u64 _ h0 (by omega), bitOf_shift]
  cases x.testBit k <;> simp

set_option maxHeartbeats 4000000 in
theorem rput_calls (p : Nat) (v : Value) (l : List Bool) (x : Nat) (n : Int) (w : World) (hW : IsR w p v l) (hl : l.length < 1000000000000) (hx : x < 18446744073709551616) (hn0 : -9223372036854775808 ≤ n) (hn1 : n ≤ 9223372036854775807) :
    Calls Try.prog 19 #[.pointer (some ⟨p, 0, none⟩), .int .u64 (x : Int), .int .i64 n] w fun e w' => e = .returned (.tuple #[]) ∧
      ∃ v', IsR w' p v' (l ++ bitsOf x (clamp n)) ∧ Chg (fun k => k = p ∨ some k = v.ownBlock) w w' ∧ ∀ g, v'.ownBlock = some g → some g = v.ownBlock ∨ w.heap.size ≤ g := by
  obtain ⟨i0, hi, hz0, hz1, hz2⟩ := info_parts infoU8
  have HW := kept hW
  have HX := kept hx
  have HL := kept hl
  clear hW hx hl
  obtain ⟨N, hN⟩ : ∃ N, N = clamp n := ⟨_, rfl⟩
  have hN0 : N ≤ 64 := by rw [hN]; exact clamp_le n
  have hNe : mx 0 (mn n 64) = (N : Int) := by rw [hN, mx_eq, mn_eq]; unfold clamp; omega
  have HN := kept hN
  clear hN
  go_enter Try.func19, Try.ntmps19
  go_wp2_with fail
  go_loopw [6] (fun s6 wr => ∃ k : Nat, k ≤ N ∧ s6 = .int .i64 (k : Int) ∧ ∃ v1, IsR wr p v1 (l ++ bitsOf x k) ∧ Chg (fun k => k = p ∨ some k = v.ownBlock) w wr ∧ ∀ g, v1.ownBlock = some g → some g = v.ownBlock ∨ w.heap.size ≤ g)
    (fun s6 _ => N - (intOf s6).toNat)
  case atStart => exact ⟨0, Nat.zero_le _, rfl, v, by simpa [bitsOf] using HW.out, Chg.refl _ _, fun g hg => .inl hg.symm⟩
  case round =>
    obtain ⟨k, hk, rfl, v1, hW1, hC1, hG1⟩ := hrel
    have c0 : wr.cell? ⟨p, 0, none⟩ = some v1 := hW1.blk.cell rfl
    have HW1 := kept hW1
    have HC1 := kept hC1
    have HG1 := kept hG1
    clear hW1 hC1 hG1
    by_cases hlt : k < N
    · have lc0 := lat_cell c0
      go_wp2_with fail
      refine wp_region_mixL [0] [1,2,3,4,5,6,7,8,9] [10,11,12,13,14] (by kernel_rfl) (by kernel_rfl) ?_
      intro K hK
      simp only [pick, List.filterMap_cons, List.filterMap_nil, List.getElem?_cons_zero, List.getElem?_cons_succ]
      repeat (show wpQuiet _ _ _ _ (_ :: _) _; go_big_quiet_step (fail))
      have hby := bit_byte0 x k HX.out
      rw [hby]
      clear hby
      show wpList _ _ _ [_, _, _, _, _] _ _
      generalize hwd : World.drew wr = wd
      have HWd : Kept (IsR wd p v1 (l ++ bitsOf x k)) := kept (by rw [← hwd]; exact ⟨HW1.out.blk, HW1.out.row⟩)
      have HCd : Kept (Chg (fun k => k = p ∨ some k = v.ownBlock) w wd) := kept (by rw [← hwd]; exact HC1.out.trans (Chg.drew (fun _ => False) _) (fun _ _ h => h.elim))
      clear hwd lc0 c0
      go_wp2_with (first | (at_builtin; refine wpList_app1 rfl _ _ 42 rfl 5 i0 (.int .u8 0) 1 Try.underlying42 hi hz0 hz1 hz2 rfl v1 _ (.int .u8 ((x.testBit k).toNat : Int)) rfl HWd.out.row rfl rfl ?_ ?_ ?_) | fail)
      · have := HL.out; simp [maxLen]; omega
      · have := HL.out; simp; omega
      intro v2 w2 O2 hch F
      have O2 : Owns w2 5 v2 (u8s (bits01 (l ++ bitsOf x (k + 1)))) := by
        rw [bitsOf_succ, ← List.append_assoc]; simpa [bits01, u8s] using O2
      obtain ⟨g2, cap2, rfl, _, _⟩ := O2.row (by intro e; have := congrArg List.length e; simp at this)
      simp only [length_u8s, length_bits01, List.length_append, length_bitsOf] at O2 F
      have hvp : v1.ownBlock ≠ some p := HWd.out.row.ne HWd.out.blk (by decide)
      have hB2 : Blk w2 p #[v1] 53 := hch.keep HWd.out.blk (fun e => hvp e.symm)
      have d0 : w2.cell? ⟨p, 0, none⟩ = some v1 := hB2.cell rfl
      have f0 : w2.frozen? ⟨p, 0, none⟩ = false := hB2.free 0
      have hpg : p ≠ g2 := hB2.ne (O2.blk g2 rfl).choose_spec (by decide)
      have hch2 : Chg (fun k => k = p ∨ some k = v.ownBlock) w w2 := HCd.out.trans hch (fun k hk h => by
        rcases HG1.out k h.symm with h2 | h2
        · exact .inr h2
        · omega)
      have hsz : w.heap.size ≤ wd.heap.size := HCd.out.size
      have F2 : ∀ g, some g2 = some g → some g = v.ownBlock ∨ w.heap.size ≤ g := fun g hg => by
        rcases F g hg with h2 | h2
        · exact HG1.out g h2.symm
        · omega
      have O2 := kept O2
      have HB2 := kept hB2
      have HC2 := kept hch2
      have HF2 := kept F2
      clear hB2 hch2 hch F F2 hvp
      go_wp2_with fail
      refine hK _ _ ?_
      go_wp2_with fail
      go_roundw
      case rel =>
        refine ⟨k + 1, by omega, by go_num, _, ⟨HB2.out.set 0 _, O2.out.setOther (a := ⟨p, 0, none⟩) (fun e => hpg (by simpa [Value.ownBlock] using e.symm)) _⟩, ?_, HF2.out⟩
        exact HC2.out.trans (Chg.setCell w2 ⟨p, 0, none⟩ _) (fun k _ h => .inl h)
      case measure => simp [intOf]; omega
    · go_wp2_with fail
      go_end0
      have : k = N := by omega
      subst this
      exact ⟨rfl, v1, by rw [← HN.out]; exact HW1.out, HC1.out, HG1.out⟩
end Go.Proofs.Ytdbnmijnjfbibaa
