/- wringerref1's Row: the text of its bits. -/
import Derived.Test.YtdbnmijnjfbibaaRw
namespace Go.Proofs.Ytdbnmijnjfbibaa
set_option linter.unusedSimpArgs false
set_option linter.unusedVariables false
open Go.RowKit Mix Own Bits
attribute [local go_sem] max_int min_int

theorem or_bit (x k : Nat) (b : Bool) (hx : x < 256) (hk : k < 8) : bits .or .u8 (x : Int) ((b.toNat : Int) * 2 ^ k % 256) = ((x ||| b.toNat * 2 ^ k : Nat) : Int) := by
  have hp : 2 ^ k ≤ 128 ∧ (2 : Int) ^ k ≤ 128 ∧ 0 < (2 : Int) ^ k := by
    rcases (show k = 0 ∨ k = 1 ∨ k = 2 ∨ k = 3 ∨ k = 4 ∨ k = 5 ∨ k = 6 ∨ k = 7 by omega) with h | h | h | h | h | h | h | h <;> subst h <;> decide
  have e : (b.toNat : Int) * 2 ^ k % 256 = ((b.toNat * 2 ^ k : Nat) : Int) := by
    cases b
    · simp
    · simp; omega
  rw [e, u8_or_nat x _ hx (by cases b <;> simp <;> omega)]

theorem take_snoc (l : List Bool) (k : Nat) (h : k < l.length) : l.take (k + 1) = l.take k ++ [l.getD k false] := by
  rw [List.take_add_one, List.getD_eq_getElem?_getD, List.getElem?_eq_getElem h]; rfl

set_option maxHeartbeats 4000000 in
theorem rbytes_calls (p : Nat) (v : Value) (l : List Bool) (w : World) (hW : IsR w p v l) (hl : l.length < 1000000000000) :
    Calls Try.prog 20 #[.pointer (some ⟨p, 0, none⟩)] w fun e w' => e = .returned (.string (textOf (pack l))) ∧ Below w.heap.size w w' := by
  obtain ⟨i0, hi, hz0, hz1, hz2⟩ := info_parts infoU8
  obtain ⟨a, cap, rfl, hne⟩ := hW.row.slice
  obtain ⟨n, hn⟩ : ∃ n, n = l.length := ⟨_, rfl⟩
  rw [length_u8s, length_bits01, ← hn] at hW
  rw [← hn] at hl
  have hcp : w.cell? ⟨p, 0, none⟩ = some (.slice a n cap) := hW.blk.cell rfl
  obtain ⟨M, hM⟩ : ∃ M, M = (n + 7) / 8 := ⟨_, rfl⟩
  have hMn : n ≤ 8 * M := by omega
  have hM2 : M ≤ n := by omega
  obtain ⟨G, hG⟩ : ∃ G, G = w.heap.size := ⟨_, rfl⟩
  have HW := kept hW
  have HN := kept hn
  have HM := kept hM
  have HG := kept hG
  clear hW hn hG hM
  rw [← HG.out]
  obtain ⟨T, hT⟩ : ∃ T, T = textOf (pack l) := ⟨_, rfl⟩
  rw [← hT]
  have HT := kept hT
  clear hT
  go_enter Try.func20, Try.ntmps20
  go_wp2_with (first | (refine wpList_mk1 rfl _ _ 42 rfl 5 i0 (.int .u8 0) 1 Try.underlying42 hi hz0 hz1 hz2 rfl .i64 .i64 _ _ M rfl rfl ?c1 ?c2 ?c3 ?c4 ?_))
  case c1 => have := HM.out; omega
  case c2 => have := HM.out; omega
  case c3 => omega
  case c4 => simp [maxLen]; omega
  rw [← HG.out]
  intro w1 O1 hb1 hlt1
  have HW1 : Kept (IsR w1 p (.slice a n cap) l) := kept (HW.out.keep (Chg.of_below (S := fun _ => False) (by rw [HG.out] at hb1; exact hb1)) id (fun _ _ => id))
  have HO1 : Kept (Owns w1 5 (.slice (some ⟨G, 0, none⟩) M M) (u8s (packN (l.take 0) M))) := kept (by rw [List.take_zero, packN_zero]; simpa [u8s] using O1)
  have HB1 := kept hb1
  have hGl : p < G := by rw [HG.out]; exact HW.out.blk.lt
  clear O1 hb1 hlt1
  go_wp2_with fail
  go_loopw [4] (fun s4 wr => ∃ k : Nat, k ≤ n ∧ s4 = .int .i64 (k : Int) ∧ IsR wr p (.slice a n cap) l ∧ Owns wr 5 (.slice (some ⟨G, 0, none⟩) M M) (u8s (packN (l.take k) M)) ∧ Below G w wr)
    (fun s4 _ => n - (intOf s4).toNat)
  case atStart => exact ⟨0, Nat.zero_le _, rfl, HW1.out, HO1.out, HB1.out⟩
  case round =>
    obtain ⟨k, hk, rfl, hR, hO, hb⟩ := hrel
    have c0 : wr.cell? ⟨p, 0, none⟩ = some (.slice a n cap) := hR.blk.cell rfl
    by_cases hlt : k < n
    · have hlt2 : k < l.length := by rw [← HN.out]; exact hlt
      obtain ⟨h, rfl⟩ := hne (by intro e; have := congrArg List.length e; simp at this; rw [this] at hlt2; simp at hlt2)
      obtain ⟨b, hbb⟩ : ∃ b, b = l.getD k false := ⟨_, rfl⟩
      have c1 : wr.cell? ⟨h, k, none⟩ = some (.int .u8 (b.toNat : Int)) := hR.row.cell (by simp [u8s, bits01, hbb, List.getD_eq_getElem?_getD, hlt2])
      obtain ⟨x, hx⟩ : ∃ x, x = byteAt (l.take k) (k / 8) := ⟨_, rfl⟩
      have hx8 : x < 256 := by rw [hx]; exact byteAt_lt _ _
      have hk8 : k / 8 < M := by omega
      have c2 : wr.cell? ⟨G, k / 8, none⟩ = some (.int .u8 (x : Int)) := hO.cell (by simp [u8s, getElem?_packN _ _ _ hk8, hx])
      have f2 : wr.frozen? ⟨G, k / 8, none⟩ = false := hO.free _
      have l0 := lat_cell c0
      have l1 := lat_cell c1
      have l2 := lat_cell c2
      have HR := kept hR
      have HO := kept hO
      have HBr := kept hb
      have HX := kept hx
      have HBB := kept hbb
      clear hR hO hb hx hbb HW1 HO1 HB1
      go_wp2_with fail
      refine wp_region_mixL [] [0,1,2,3,4,5,6,7,8,9,10,11,12,13,14,15,16] [17] (by kernel_rfl) (by kernel_rfl) ?_
      intro K hK
      simp only [pick, List.filterMap_cons, List.filterMap_nil, List.getElem?_cons_zero, List.getElem?_cons_succ]
      refine wpQuiet_nil ?_
      repeat (show wpQuiet _ _ _ _ (_ :: _) _; go_big_quiet_step (fail))
      refine wpQuiet_nil ?_
      show wpList _ _ _ (_ :: _) _ _
      go_wp2_with fail
      refine hK _ _ ?_
      rw [or_bit x (k % 8) b hx8 (by omega)]
      generalize hw2 : World.drew (World.setCell wr _ _) = w2
      have hpG : p ≠ G := by omega
      have hhG : h < G := by rw [HG.out]; exact HW.out.row.lt h rfl
      have hR2 : IsR w2 p (.slice (some ⟨h, 0, none⟩) n cap) l := by
        rw [← hw2]
        exact ⟨HR.out.blk.setOther (a := ⟨G, k / 8, none⟩) hpG _, HR.out.row.setOther (a := ⟨G, k / 8, none⟩) (by simp [Value.ownBlock]; omega) _⟩
      have hO2 : Owns w2 5 (.slice (some ⟨G, 0, none⟩) M M) (u8s (packN (l.take (k + 1)) M)) := by
        rw [← hw2, take_snoc l k hlt2, packN_snoc, u8s_set, List.length_take, Nat.min_eq_left (by omega), ← HX.out, ← HBB.out]
        exact HO.out.store _ _
      have hB2 : Below G w w2 := by
        rw [← hw2]
        exact (HBr.out.setCell (p := ⟨G, k / 8, none⟩) (Nat.le_refl _) _).drew
      have X1 := kept hR2
      have X2 := kept hO2
      have X3 := kept hB2
      clear hR2 hO2 hB2 hw2 l0 l1 l2 c0 c1 c2 f2
      go_wp2_with fail
      go_roundw
      case rel => exact ⟨k + 1, by omega, by go_num, X1.out, X2.out, X3.out⟩
      case measure => simp [intOf]; omega
    · have hkn : k = n := by omega
      subst hkn
      have hcv := conv_string hO
      rw [List.take_of_length_le (by rw [HN.out]; exact Nat.le_refl _)] at hcv
      have e : packN l M = pack l := by rw [pack, HM.out, HN.out]
      rw [e] at hcv
      rw [← HT.out] at hcv
      have HBr := kept hb
      clear e hb hO hR
      go_wp2_with fail
      go_ret
      exact ⟨rfl, HBr.out⟩
end Go.Proofs.Ytdbnmijnjfbibaa
