/- The document's numbers by their size: what its functions return. -/
import Derived.Test.YtbeikaplkbaeiaaZo
import Derived.OpenShut
import Derived.Deep.RegionWith
namespace Go.Proofs.Ytbeikaplkbaeiaa
set_option linter.unusedSimpArgs false
set_option linter.unusedVariables false
open Go.RowKit Mix Own Zig

theorem rmap_calls (v : Int) (w : World) (h0 : -9223372036854775808 ≤ v) (h1 : v ≤ 9223372036854775807) :
    Calls Try.prog 11 #[.int .i64 v] w fun e w' => e = .returned (.int .u64 (zmap v : Int)) ∧ w = w' := by
  by_cases hv : v < 0
  · have e : (zmap v : Int) = 2 * (-(v + 1)) + 1 := by unfold zmap; rw [if_pos hv]; omega
    rw [e]
    go_enter Try.func11, Try.ntmps11
    go_wp2_with fail
    go_ret
    exact ⟨rfl, rfl⟩
  · have e : (zmap v : Int) = 2 * v := by unfold zmap; rw [if_neg hv]; omega
    rw [e]
    have h2 : 0 ≤ v := by omega
    go_enter Try.func11, Try.ntmps11
    go_wp2_with fail
    go_ret
    exact ⟨rfl, rfl⟩

theorem rback_calls (u : Nat) (w : World) (h : u < 18446744073709551616) :
    Calls Try.prog 13 #[.int .u64 (u : Int)] w fun e w' => e = .returned (.int .i64 (zback u)) ∧ w = w' := by
  have ha := Go.Lib.u64_and1 (u : Int) (by omega) (by omega)
  obtain ⟨x, hx⟩ : ∃ x, x = u / 2 := ⟨_, rfl⟩
  have e2 : (u : Int) / 2 = (x : Int) := by omega
  by_cases ho : u % 2 = 1
  · have e : zback u = -(x : Int) - 1 := by unfold zback; rw [if_pos ho, hx]
    rw [e]
    have ho' : (u : Int) % 2 = 1 := by omega
    rw [ho'] at ha
    have hx63 : x < 9223372036854775808 := by omega
    clear ho ho' hx e
    go_enter Try.func13, Try.ntmps13
    go_wp2_with fail
    go_ret
    exact ⟨rfl, rfl⟩
  · have e : zback u = (x : Int) := by unfold zback; rw [if_neg ho, hx]
    rw [e]
    have ho' : (u : Int) % 2 = 0 := by omega
    rw [ho'] at ha
    have hx63 : x < 9223372036854775808 := by omega
    clear ho ho' hx e
    go_enter Try.func13, Try.ntmps13
    go_wp2_with fail
    go_ret
    exact ⟨rfl, rfl⟩

set_option maxHeartbeats 1000000 in
theorem rlength_calls (u : Nat) (w : World) (h : u < 18446744073709551616) :
    Calls Try.prog 20 #[.int .u64 (u : Int)] w fun e w' => e = .returned (.int .i64 (bl u : Int)) ∧ w = w' := by
  have hl := bl_le u h
  obtain ⟨N, hN⟩ : ∃ N, N = bl u := ⟨_, rfl⟩
  rw [← hN] at hl
  rw [← hN]
  have HN := kept hN
  have HH := kept h
  clear hN
  go_enter Try.func20, Try.ntmps20
  go_wp2_with fail
  go_loopw [0, 3] (fun s0 s3 wr => ∃ x n : Nat, s0 = .int .u64 (x : Int) ∧ s3 = .int .i64 (n : Int) ∧ N = n + bl x ∧ x ≤ u ∧ wr = w) (fun s0 s3 _ => (intOf s0).toNat)
  case atStart => exact ⟨u, 0, rfl, rfl, by rw [HN.out]; omega, Nat.le_refl _, rfl⟩
  case round =>
    obtain ⟨x, n, rfl, rfl, hn, hxu, rfl⟩ := hrel
    have hx64 : x < 18446744073709551616 := Nat.lt_of_le_of_lt hxu h
    have hn64 : n ≤ 64 := by omega
    by_cases hx : x = 0
    · have t0 : ¬ 0 < x := by omega
      have : N = n := by rw [hn, hx, bl_zero]; omega
      clear hn
      subst this
      go_wp2_with fail
      go_ret
      exact ⟨rfl, rfl⟩
    · have t0 : 0 < x := by omega
      have hb : N = n + 1 + bl (x / 2) := by
        have := Go.Lib.bitLen_half x hx hx64
        unfold bl at *
        omega
      obtain ⟨y, hy⟩ : ∃ y, y = x / 2 := ⟨_, rfl⟩
      have e : (x : Int) / 2 = (y : Int) := by omega
      rw [← hy] at hb
      have hyx : y < x := by omega
      have HB := kept hb
      clear hn hb hy
      go_wp2_with fail
      go_roundw
      case rel => exact ⟨y, n + 1, rfl, by go_num, HB.out, by omega, trivial⟩
      case measure => simp [intOf]; omega

set_option maxHeartbeats 2000000 in
theorem rsplit_calls (v : Int) (w : World) (h0 : -9223372036854775808 ≤ v) (h1 : v ≤ 9223372036854775807) :
    Calls Try.prog 15 #[.int .i64 v] w fun e w' => e = .returned (partOf (bl (zmap v) : Int) (rstU (zmap v))) ∧ Below w.heap.size w w' := by
  have hu := zmap_lt v h0 h1
  obtain ⟨u, hue⟩ : ∃ u, u = zmap v := ⟨_, rfl⟩
  rw [← hue] at hu
  have hm := rmap_calls v (w.alloc (.cells #[.int .i64 0, .int .u64 0] 24)) h0 h1
  rw [← hue] at hm
  rw [← hue]
  have hl64 := bl_le u hu
  have hb := rlength_calls u (w.alloc (.cells #[.int .i64 0, .int .u64 0] 24)) hu
  obtain ⟨n, hn⟩ : ∃ n, n = bl u := ⟨_, rfl⟩
  rw [← hn] at hb hl64
  rw [← hn]
  by_cases hz : u = 0
  · have hn0 : n = 0 := by rw [hn, hz, bl_zero]
    have hr : rstU u = 0 := by rw [hz]; decide
    have e : partOf (n : Int) (rstU u) = .agg #[.int .i64 0, .int .u64 0] := by rw [hr, hn0]; rfl
    rw [e]
    have t0 : ((n : Int) == 0) = true := by rw [beq_iff_eq]; omega
    have HM := kept hm
    have HB := kept hb
    clear hm hb hu hr e hn hue hz hn0
    go_enter Try.func15, Try.ntmps15
    go_wp2_with (first
      | (go_at_call 11; refine HM.out.mono ?_; rintro e w' ⟨rfl, rfl⟩)
      | (go_at_call 20; refine HB.out.mono ?_; rintro e w' ⟨rfl, rfl⟩))
    exact bodyPost_ret (results_cell_row rfl _ _ w.heap.size 24 #[.int .i64 0, .int .u64 0] (0, 0) _ rfl (Blk.fresh _ _ _) Try.underlying24 rfl (by kernel_rfl)) rfl ⟨rfl, (Below.refl _ _).alloc (Nat.le_refl _) _⟩
  · have hn1 := bl_pos u hz hu
    have hs := bl_spec (u + 1) u (by omega) hz hu
    rw [← hn] at hn1 hs
    have hr : rstU u = u - 2 ^ (n - 1) := by unfold rstU; rw [← hn, if_neg (by omega)]
    rw [hr]
    have ht := top_bits n hl64
    obtain ⟨P, hP⟩ : ∃ P, P = 2 ^ (n - 1) := ⟨_, rfl⟩
    rw [← hP] at ht hs
    rw [← hP]
    obtain ⟨r, hre⟩ : ∃ r, r = u - P := ⟨_, rfl⟩
    rw [← hre]
    have hsub : IntKind.u64.wrap ((u : Int) - (P : Int)) = (r : Int) := by rw [IntKind.wrap_u64]; omega
    have t0 : ((n : Int) == 0) = false := by rw [beq_eq_false_iff_ne]; omega
    have HM := kept hm
    have HB := kept hb
    have hPu : P ≤ u := hs.1
    clear hm hb hn hr hP hs hue hre
    go_enter Try.func15, Try.ntmps15
    go_wp2_with (first
      | (go_at_call 11; refine HM.out.mono ?_; rintro e w' ⟨rfl, rfl⟩)
      | (go_at_call 20; refine HB.out.mono ?_; rintro e w' ⟨rfl, rfl⟩))
    exact bodyPost_ret (results_cell_row rfl _ _ w.heap.size 24 #[.int .i64 (n : Int), .int .u64 (r : Int)] (0, 0) _ rfl (Blk.fresh _ _ _) Try.underlying24 rfl (by kernel_rfl)) rfl ⟨rfl, (Below.refl _ _).alloc (Nat.le_refl _) _⟩

set_option maxHeartbeats 2000000 in
theorem rmay_calls (c : Int) (r : Nat) (w : World) (h0 : -9223372036854775808 ≤ c) (h1 : c ≤ 9223372036854775807) (hr : r < 18446744073709551616) (B : Bool) (hB : B = may c r) :
    Calls Try.prog 18 #[.agg #[.int .i64 c, .int .u64 (r : Int)]] w fun e w' => e = .returned (.bool B) ∧ Below w.heap.size w w' := by
  rcases (show c < 0 ∨ 64 < c ∨ (0 ≤ c ∧ c < 2) ∨ (2 ≤ c ∧ c ≤ 64) by omega) with h | h | h | h
  · have hb : B = false := by rw [hB]; unfold may; rw [decide_eq_false (by omega)]; rfl
    clear hB
    subst hb
    clear h0 h1
    go_enter Try.func18, Try.ntmps18
    go_wp2_with fail
    go_ret
    exact ⟨rfl, (Below.refl _ _).alloc (Nat.le_refl _) _⟩
  · have hb : B = false := by rw [hB]; unfold may; rw [decide_eq_false (by omega)]; rfl
    clear hB
    subst hb
    have t1 : ¬ c < 0 := by omega
    clear h0 h1
    go_enter Try.func18, Try.ntmps18
    go_wp2_with fail
    go_ret
    exact ⟨rfl, (Below.refl _ _).alloc (Nat.le_refl _) _⟩
  · have hb : ((r : Int) == 0) = B := by
      rw [hB]; unfold may
      rw [decide_eq_true (by omega), Bool.true_and, Bool.eq_iff_iff, beq_iff_eq]
      split
      · rw [decide_eq_true_eq]; omega
      · rw [show c.toNat - 1 = 0 by omega, decide_eq_true_eq]; omega
    clear hB
    have t1 : ¬ c < 0 := by omega
    have t2 : ¬ 64 < c := by omega
    have t3 : c < 2 := by omega
    clear h0 h1 h
    go_enter Try.func18, Try.ntmps18
    go_wp2_with fail
    go_ret
    exact ⟨rfl, (Below.refl _ _).alloc (Nat.le_refl _) _⟩
  · obtain ⟨k, rfl⟩ := Int.eq_ofNat_of_zero_le (show 0 ≤ c by omega)
    have t1 : ¬ k < 2 := by omega
    have t2 : ¬ 64 < k := by omega
    have t3 : 2 ≤ k := by omega
    have hb : ((r : Int) / 2 ^ (k - 1) == 0) = B := by
      rw [hB, may_top k r (by omega) (by omega), Bool.eq_iff_iff, beq_iff_eq, decide_eq_true_eq]
      have e : (r : Int) / 2 ^ (k - 1) = ((r / 2 ^ (k - 1) : Nat) : Int) := by simp
      have hp : 0 < 2 ^ (k - 1) := Nat.pow_pos (by decide)
      rw [e]
      constructor
      · intro hz
        have : r / 2 ^ (k - 1) = 0 := by omega
        exact (Nat.div_eq_zero_iff_lt hp).1 this
      · intro hz
        have := Nat.div_eq_of_lt hz
        omega
    clear hB h0 h1 h
    go_enter Try.func18, Try.ntmps18
    go_wp2_with fail
    go_ret
    exact ⟨rfl, (Below.refl _ _).alloc (Nat.le_refl _) _⟩

theorem num_cells {w : World} {G : Nat} {x y : Value} {t : TypeId} (h : Blk w G #[x, y] t) :
    w.cell? ⟨G, 0, none⟩ = some x ∧ w.cell? ⟨G, 1, none⟩ = some y ∧ w.frozen? ⟨G, 0, none⟩ = false ∧ w.frozen? ⟨G, 1, none⟩ = false :=
  ⟨h.cell rfl, h.cell rfl, h.free 0, h.free 1⟩

set_option maxHeartbeats 2000000 in
theorem rjoin_calls (c : Int) (r : Nat) (w : World) (h0 : -9223372036854775808 ≤ c) (h1 : c ≤ 9223372036854775807) (hr : r < 18446744073709551616) (v : Int) (b : Bool) (hv : v = join c r) (hb : b = may c r) :
    Calls Try.prog 9 #[.agg #[.int .i64 c, .int .u64 (r : Int)]] w fun e w' => e = .returned (.agg #[.int .i64 v, .bool b]) ∧ Below w.heap.size w w' := by
  have hmc := fun w' => rmay_calls c r w' h0 h1 hr b hb
  have HM := kept hmc
  clear hmc
  obtain ⟨G, hG⟩ : ∃ G, G = w.heap.size := ⟨_, rfl⟩
  rw [← hG]
  have HG := kept hG
  clear hG
  cases b with
  | false =>
    have hv0 : v = 0 := by rw [hv]; unfold join; rw [← hb]; rfl
    subst hv0
    clear hv hb h0 h1
    go_enter Try.func9, Try.ntmps9
    go_wp2_with fail
    rw [← HG.out]
    generalize hwa : World.alloc (World.alloc w _) _ = wa
    have hB : Below G w wa := by rw [← hwa, HG.out]; exact ((Below.refl _ _).alloc (Nat.le_refl _) _).alloc (by simp) _
    have hN : Blk wa (G + 1) #[.int .i64 0, .bool false] 28 := by rw [← hwa]; exact Blk.fresh_at _ _ (by simp [HG.out]) _ _
    have hsz : G ≤ wa.heap.size := by have := hN.lt; omega
    have HB := kept hB
    have HN := kept hN
    have HS := kept hsz
    clear hwa hB hN hsz
    refine (HM.out _).mono ?_
    rintro e w2 ⟨rfl, hb2⟩
    have HB2 := kept (HB.out.trans (hb2.mono HS.out))
    have HN2 : Kept (Blk w2 (G + 1) #[.int .i64 0, .bool false] 28) := kept ((hb2.block _ HN.out.lt).trans HN.out)
    clear hb2
    obtain ⟨c0, c1, f0, f1⟩ := num_cells HN2.out
    go_wp2_with fail
    exact bodyPost_ret (results_cell_row rfl _ _ (G + 1) 28 #[.int .i64 0, .bool false] (0, 0) _ rfl ((HN2.out.set 0 _).set 1 _) Try.underlying28 rfl (by kernel_rfl)) rfl ⟨rfl, (HB2.out.setCell (p := ⟨G + 1, 0, none⟩) (Nat.le_succ _) _).setCell (p := ⟨G + 1, 1, none⟩) (Nat.le_succ _) _⟩
  | true =>
    by_cases hc : c = 0
    · have hv0 : v = 0 := by
        rw [hv]; unfold join Zig.sizeOf
        rw [← hb, if_pos rfl, if_pos (by omega)]; decide
      subst hv0
      have t0 : (c == 0) = true := by rw [beq_iff_eq]; exact hc
      clear hv hb h0 h1 hc
      go_enter Try.func9, Try.ntmps9
      go_wp2_with fail
      rw [← HG.out]
      generalize hwa : World.alloc (World.alloc w _) _ = wa
      have hB : Below G w wa := by rw [← hwa, HG.out]; exact ((Below.refl _ _).alloc (Nat.le_refl _) _).alloc (by simp) _
      have hN : Blk wa (G + 1) #[.int .i64 0, .bool false] 28 := by rw [← hwa]; exact Blk.fresh_at _ _ (by simp [HG.out]) _ _
      have hP : Blk wa G #[.int .i64 c, .int .u64 (r : Int)] 24 := by rw [← hwa]; exact (Blk.fresh_at _ _ HG.out _ _).alloc _
      have hsz : G ≤ wa.heap.size := by have := hN.lt; omega
      have HB := kept hB
      have HN := kept hN
      have HP := kept hP
      have HS := kept hsz
      clear hwa hB hN hsz hP
      refine (HM.out _).mono ?_
      rintro e w2 ⟨rfl, hb2⟩
      have HB2 := kept (HB.out.trans (hb2.mono HS.out))
      have HN2 : Kept (Blk w2 (G + 1) #[.int .i64 0, .bool false] 28) := kept ((hb2.block _ HN.out.lt).trans HN.out)
      have HP2 : Kept (Blk w2 G #[.int .i64 c, .int .u64 (r : Int)] 24) := kept ((hb2.block _ HP.out.lt).trans HP.out)
      clear hb2 HB HN HP HS
      obtain ⟨c0, c1, f0, f1⟩ := num_cells HN2.out
      obtain ⟨p0, p1, _, _⟩ := num_cells HP2.out
      go_wp2_with fail
      exact bodyPost_ret (results_cell_row rfl _ _ (G + 1) 28 #[.int .i64 0, .bool true] (0, 0) _ rfl ((HN2.out.set 0 _).set 1 _) Try.underlying28 rfl (by kernel_rfl)) rfl ⟨rfl, (HB2.out.setCell (p := ⟨G + 1, 0, none⟩) (Nat.le_succ _) _).setCell (p := ⟨G + 1, 1, none⟩) (Nat.le_succ _) _⟩
    · have hcr : 1 ≤ c ∧ c ≤ 64 := by
        have h := hb.symm
        unfold may at h
        simp only [Bool.and_eq_true, decide_eq_true_eq] at h
        omega
      have hsz := sizeOf_lt c r hb.symm
      have hv2 : v = zback (Zig.sizeOf c r) := by rw [hv]; unfold join; rw [← hb, if_pos rfl]
      obtain ⟨k, rfl⟩ := Int.eq_ofNat_of_zero_le (show 0 ≤ c by omega)
      have hse : Zig.sizeOf (k : Int) r = 2 ^ (k - 1) + r := by unfold Zig.sizeOf; rw [if_neg (by omega), Int.toNat_natCast]
      have ht := top_bits k (by omega)
      rw [hse] at hsz hv2
      obtain ⟨P, hP⟩ : ∃ P, P = 2 ^ (k - 1) := ⟨_, rfl⟩
      rw [← hP] at ht hsz hv2
      have hbk : ∀ w', Calls Try.prog 13 #[.int .u64 ((r : Int) + (P : Int))] w' fun e w'' => e = .returned (.int .i64 v) ∧ w' = w'' := fun w' => by
        have := rback_calls (P + r) w' hsz
        rw [← hv2, show ((P + r : Nat) : Int) = (r : Int) + (P : Int) by omega] at this
        exact this
      have hw2 : IntKind.u64.wrap ((r : Int) + (P : Int)) = (r : Int) + (P : Int) := by rw [IntKind.wrap_u64]; omega
      have t0 : ((k : Int) == 0) = false := by rw [beq_eq_false_iff_ne]; omega
      have hk1 : 1 ≤ k := by omega
      have hk2 : k ≤ 64 := by omega
      have HBk := kept hbk
      clear hv hb h0 h1 hc hcr hsz hv2 hse hP hbk
      go_enter Try.func9, Try.ntmps9
      go_wp2_with fail
      rw [← HG.out]
      generalize hwa : World.alloc (World.alloc w _) _ = wa
      have hB : Below G w wa := by rw [← hwa, HG.out]; exact ((Below.refl _ _).alloc (Nat.le_refl _) _).alloc (by simp) _
      have hN : Blk wa (G + 1) #[.int .i64 0, .bool false] 28 := by rw [← hwa]; exact Blk.fresh_at _ _ (by simp [HG.out]) _ _
      have hP : Blk wa G #[.int .i64 (k : Int), .int .u64 (r : Int)] 24 := by rw [← hwa]; exact (Blk.fresh_at _ _ HG.out _ _).alloc _
      have hsz : G ≤ wa.heap.size := by have := hN.lt; omega
      have HB := kept hB
      have HN := kept hN
      have HP := kept hP
      have HS := kept hsz
      clear hwa hB hN hsz hP
      refine (HM.out _).mono ?_
      rintro e w2 ⟨rfl, hb2⟩
      have HB2 := kept (HB.out.trans (hb2.mono HS.out))
      have HN2 : Kept (Blk w2 (G + 1) #[.int .i64 0, .bool false] 28) := kept ((hb2.block _ HN.out.lt).trans HN.out)
      have HP2 : Kept (Blk w2 G #[.int .i64 (k : Int), .int .u64 (r : Int)] 24) := kept ((hb2.block _ HP.out.lt).trans HP.out)
      clear hb2 HB HN HP HS
      have l0 := lat_cell (HP2.out.cell (i := 0) rfl)
      have l1 := lat_cell (HP2.out.cell (i := 1) rfl)
      obtain ⟨p0, p1, _, _⟩ := num_cells HP2.out
      go_wp2_with fail
      refine wp_region_mixL [] [0,1,2,3,4,5,6] [7,8,9] (by kernel_rfl) (by kernel_rfl) ?_
      intro K hK
      simp only [pick, List.filterMap_cons, List.filterMap_nil, List.getElem?_cons_zero, List.getElem?_cons_succ]
      refine wpQuiet_nil ?_
      repeat (show wpQuiet _ _ _ _ (_ :: _) _; go_big_quiet_step (fail))
      refine wpQuiet_nil ?_
      show wpList _ _ _ [_, _, _] _ _
      generalize hwd : World.drew w2 = wd
      have HB3 : Kept (Below G w wd) := kept (by rw [← hwd]; exact HB2.out.drew)
      have HN3 : Kept (Blk wd (G + 1) #[.int .i64 0, .bool false] 28) := kept (by rw [← hwd]; exact HN2.out)
      obtain ⟨c0, c1, f0, f1⟩ := num_cells HN3.out
      clear hwd l0 l1 p0 p1
      go_wp2_with (first | (go_at_call 13; refine (HBk.out _).mono ?_; rintro e w' ⟨rfl, rfl⟩))
      refine hK _ _ ?_
      go_wp2_with fail
      exact bodyPost_ret (results_cell_row rfl _ _ (G + 1) 28 #[.int .i64 v, .bool true] (0, 0) _ rfl ((HN3.out.set 0 _).set 1 _) Try.underlying28 rfl (by kernel_rfl)) rfl ⟨rfl, (HB3.out.setCell (p := ⟨G + 1, 0, none⟩) (Nat.le_succ _) _).setCell (p := ⟨G + 1, 1, none⟩) (Nat.le_succ _) _⟩
end Go.Proofs.Ytbeikaplkbaeiaa
