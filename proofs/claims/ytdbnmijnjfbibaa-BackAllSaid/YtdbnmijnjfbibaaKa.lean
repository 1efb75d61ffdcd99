/- The document's Seal. -/
import Derived.Test.YtdbnmijnjfbibaaRr
import Derived.Test.YtdbnmijnjfbibaaKs
namespace Go.Proofs.Ytdbnmijnjfbibaa
set_option linter.unusedSimpArgs false
set_option linter.unusedVariables false
open Go.RowKit Mix Own Bits
attribute [local go_sem] max_int min_int

/-- A Row of the call's own, all of its memory from block B on. -/
structure NewR (B : Nat) (w : World) (p : Nat) (v : Value) (l : List Bool) : Prop where
  is : IsR w p v l
  at_ : B ≤ p
  row : ∀ g, v.ownBlock = some g → B ≤ g
theorem NewR.later {B : Nat} {w w' : World} {p : Nat} {v : Value} {l : List Bool} (h : NewR B w p v l) (hc : Below w.heap.size w w') : NewR B w' p v l :=
  ⟨h.is.keep (Chg.of_below (S := fun _ => False) hc) id (fun _ _ => id), h.at_, h.row⟩
theorem rput_new (B p : Nat) (v : Value) (l : List Bool) (x : Nat) (n : Int) (w : World) (hB : B ≤ w.heap.size) (hW : NewR B w p v l) (hl : l.length < 1000000000000) (hx : x < 18446744073709551616) (hn0 : -9223372036854775808 ≤ n) (hn1 : n ≤ 9223372036854775807) :
    Calls Try.prog 19 #[.pointer (some ⟨p, 0, none⟩), .int .u64 (x : Int), .int .i64 n] w fun e w' => e = .returned (.tuple #[]) ∧ ∃ v', NewR B w' p v' (l ++ bitsOf x (clamp n)) ∧ Below B w w' :=
  (rput_calls p v l x n w hW.is hl hx hn0 hn1).mono fun e w' ⟨he, v', h1, h2, h3⟩ => ⟨he, v', ⟨h1, hW.at_, fun g hg => by
      rcases h3 g hg with h | h
      · exact hW.row g h.symm
      · omega⟩, h2.below hB (fun k hk h => by
      rcases h with h | h
      · have := hW.at_; omega
      · have := hW.row k h.symm; omega)⟩

set_option maxHeartbeats 4000000 in
theorem rseal_calls (a0 : Option Addr) (n0 c0 : Nat) (xs : List Nat) (a1 : Option Addr) (n1 c1 : Nat) (ys : List Int) (w : World) (hR0 : Rd w (.slice a0 n0 c0) (nums .u64 xs)) (hR1 : Rd w (.slice a1 n1 c1) (ints .i64 ys))
    (hX : ∀ x ∈ xs, x < 18446744073709551616) (hY : ∀ y ∈ ys, -9223372036854775808 ≤ y ∧ y ≤ 9223372036854775807) (n : Nat) (hn : n = min n0 n1) (hn100 : n ≤ 1000) (hb0 : n0 < 1000000000000000) (hb1 : n1 < 1000000000000000) :
    Calls Try.prog 9 #[.slice a0 n0 c0, .slice a1 n1 c1] w fun e w' => e = .returned (.string (textOf (pack (catC xs ys n ++ [true])))) ∧ Below w.heap.size w w' := by
  have hx : xs.length = n0 := by have := hR0.length; rw [length_nums] at this; exact this.symm
  have hy : ys.length = n1 := by have := hR1.length; rw [length_ints] at this; exact this.symm
  obtain ⟨B, hB⟩ : ∃ B, B = w.heap.size := ⟨_, rfl⟩
  rw [← hB]
  obtain ⟨T, hT⟩ : ∃ T, T = textOf (pack (catC xs ys n ++ [true])) := ⟨_, rfl⟩
  rw [← hT]
  have HB := kept hB
  have HR0 := kept hR0
  have HR1 := kept hR1
  have HX := kept hX
  have HY := kept hY
  have HXL := kept hx
  have HYL := kept hy
  have HB0 := kept hb0
  have HB1 := kept hb1
  have HT := kept hT
  clear hB hR0 hR1 hX hY hx hy hb0 hb1 hT
  go_enter Try.func9, Try.ntmps9
  go_wp2_with fail
  generalize hwa : World.alloc w _ = wa
  have hb : Below B w wa := by rw [← hwa, HB.out]; exact (Below.refl _ _).alloc (Nat.le_refl _) _
  have hW : NewR B wa B (.slice none 0 0) [] := ⟨⟨by rw [← hwa]; exact Blk.fresh_at _ _ HB.out _ _, Owns.nil _ _⟩, Nat.le_refl _, fun g hg => by simp [Value.ownBlock] at hg⟩
  rw [← HB.out]
  have HWa := kept hW
  have HS1 : Kept (B ≤ wa.heap.size) := kept (by have := hb.size; have := HB.out; omega)
  have HBa := kept hb
  clear hwa hb hW
  go_loopw [6] (fun s6 wr => ∃ i : Nat, i ≤ n ∧ s6 = .int .i64 (i : Int) ∧ ∃ va, NewR B wr B va (catC xs ys i) ∧ Below B w wr ∧ B ≤ wr.heap.size)
    (fun s6 _ => n - (intOf s6).toNat)
  case atStart => exact ⟨0, Nat.zero_le _, rfl, _, HWa.out, HBa.out, HS1.out⟩
  case round =>
    obtain ⟨i, hi, rfl, va, hW, hb, hs⟩ := hrel
    have HW := kept hW
    have HBr := kept hb
    have HS := kept hs
    clear hW hb hs HWa HBa HS1
    by_cases hlt : i < n
    · have hi0 : i < n0 := by omega
      have hi1 : i < n1 := by omega
      have hrd0 := HR0.out.below HBr.out (by rw [HB.out]; exact HR0.out.lt)
      have hrd1 := HR1.out.below HBr.out (by rw [HB.out]; exact HR1.out.lt)
      obtain ⟨x0, rfl, hc0⟩ := hrd0.at (Own.nums_at .u64 xs i (by rw [HXL.out]; exact hi0))
      obtain ⟨x1, rfl, hc1⟩ := hrd1.at (Own.ints_at .i64 ys i (by rw [HYL.out]; exact hi1))
      have hx64 := mem_getD HX.out i (by rw [HXL.out]; exact hi0)
      have hy64 := mem_getDI HY.out i (by rw [HYL.out]; exact hi1)
      obtain ⟨x, hx⟩ : ∃ x, x = xs.getD i 0 := ⟨_, rfl⟩
      obtain ⟨y, hy⟩ : ∃ y, y = ys.getD i 0 := ⟨_, rfl⟩
      have hcat : catC xs ys (i + 1) = catC xs ys i ++ bitsOf x (clamp y) := by rw [hx, hy]; rfl
      rw [← hx] at hc0 hx64
      rw [← hy] at hc1 hy64
      have HX64 := kept hx64
      have HY64 := kept hy64
      have HC := kept hcat
      have l0 := lat_cell hc0
      have l1 := lat_cell hc1
      have hcl := catC_len xs ys i
      have HLL : Kept ((catC xs ys i).length < 1000000000000) := kept (by omega)
      have HN := kept hn
      clear hx hy hx64 hy64 hrd0 hrd1 hcat hcl hc0 hc1 hn
      go_wp2_with fail
      refine wp_region_mixL [] [0,1,2,3,4,5,6,7,8] [9] (by kernel_rfl) (by kernel_rfl) ?_
      intro K1 hK1
      simp only [pick, List.filterMap_cons, List.filterMap_nil, List.getElem?_cons_zero, List.getElem?_cons_succ]
      refine wpQuiet_nil ?_
      repeat (show wpQuiet _ _ _ _ (_ :: _) _; go_big_quiet_step (fail))
      refine wpQuiet_nil ?_
      show wpList _ _ _ (_ :: _) _ _
      generalize hwd : World.drew wr = wd
      have hlat : Below wr.heap.size wr wd := by rw [← hwd]; exact (Below.refl _ _).drew
      have HW2 := kept (HW.out.later hlat)
      have HB2 := kept (HBr.out.trans (hlat.mono HS.out))
      have HS2 := kept (Nat.le_trans HS.out hlat.size)
      clear hwd hlat l0 l1
      go_wp2_with (first
        | (go_at_call 19; refine (rput_new B B va _ x y wd HS2.out HW2.out HLL.out HX64.out HY64.out.1 HY64.out.2).mono ?_; rintro e w2 ⟨rfl, va2, hW2, hb2⟩; have HW3 := kept hW2; have HB3 := kept (HB2.out.trans hb2); have HS3 := kept (Nat.le_trans HS2.out hb2.size); clear hW2 hb2))
      refine hK1 _ _ ?_
      go_wp2_with fail
      go_roundw
      case rel => exact ⟨i + 1, by omega, by go_num, va2, by rw [HC.out]; exact HW3.out, HB3.out, HS3.out⟩
      case measure => simp [intOf]; omega
    · have hin : i = n := by omega
      subst hin
      have hor : ¬ i < n0 ∨ (i < n0 ∧ ¬ i < n1) := by omega
      have hcl := catC_len xs ys i
      have HLL : Kept ((catC xs ys i).length < 1000000000000) := kept (by omega)
      have HLM : Kept ((catC xs ys i ++ [true]).length < 1000000000000) := kept (by simp; omega)
      clear hcl hn
      rcases hor with t1 | ⟨t1, t2⟩
      all_goals
        go_wp2_with (first
          | (go_at_call 19; refine (rput_new B B va _ 1 1 wr HS.out HW.out HLL.out (by decide) (by decide) (by decide)).mono ?_; rintro e w2 ⟨rfl, va2, hW2, hb2⟩; have hA := rbytes_calls B va2 _ w2 hW2.is HLM.out; rw [bitsOf_one, ← HT.out] at hA; have HA := kept hA; have HB3 := kept (HBr.out.trans hb2); have HS3 := kept (Nat.le_trans HS.out hb2.size); clear hW2 hb2 hA)
          | (go_at_call 20; refine HA.out.mono ?_; rintro e w8 ⟨rfl, hb8⟩; have HB8 := kept (HB3.out.trans (hb8.mono HS3.out)); clear hb8))
        go_ret
        exact ⟨rfl, HB8.out⟩
end Go.Proofs.Ytdbnmijnjfbibaa
