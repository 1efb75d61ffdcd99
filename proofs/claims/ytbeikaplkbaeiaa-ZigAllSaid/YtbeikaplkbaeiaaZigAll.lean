/- ZigAll's walk. -/
import Derived.Test.YtbeikaplkbaeiaaZr
import Derived.OpenShut
import Derived.Deep.RegionWith
namespace Go.Proofs.Ytbeikaplkbaeiaa
set_option linter.unusedSimpArgs false
set_option linter.unusedVariables false
open Go.RowKit Mix Own Zig

set_option maxHeartbeats 4000000 in
theorem ZigAll_walk (v a1 c a3 : Int) (w : World) (w0 : (Lit.int .i64 v).wf = true) (w1 : (Lit.int .u64 a1).wf = true) (w2 : (Lit.int .i64 c).wf = true) (w3 : (Lit.int .u64 a3).wf = true) :
    Calls Try.prog 3 #[.int .i64 v, .int .u64 a1, .agg #[.int .i64 c, .int .u64 a3]] w fun e w' => e = .returned (.bool true) ∧ Below w.heap.size w w' := by
  obtain ⟨hv0, hv1⟩ := i64_bounds w0
  obtain ⟨u, rfl, hu⟩ := u64_bounds w1
  obtain ⟨hc0, hc1⟩ := i64_bounds w2
  obtain ⟨r, rfl, hr⟩ := u64_bounds w3
  clear w0 w1 w2 w3
  obtain ⟨B, hB⟩ : ∃ B, B = may c r := ⟨_, rfl⟩
  obtain ⟨J, hJ⟩ : ∃ J, J = join c r := ⟨_, rfl⟩
  obtain ⟨M, hM⟩ : ∃ M, M = zmap v := ⟨_, rfl⟩
  obtain ⟨K, hK⟩ : ∃ K, K = zback u := ⟨_, rfl⟩
  obtain ⟨n, hn⟩ : ∃ n, n = bl (zmap v) := ⟨_, rfl⟩
  obtain ⟨s, hs⟩ : ∃ s, s = rstU (zmap v) := ⟨_, rfl⟩
  have j1 := fun w' => zjoin_agg c r w' hc0 hc1 hr J B hJ hB
  have j2 := fun w' => rjoin_calls c r w' hc0 hc1 hr J B hJ hB
  have m1 := fun w' => zmap_calls v w' hv0 hv1
  have m2 := fun w' => rmap_calls v w' hv0 hv1
  have k1 := fun w' => zback_calls u w' hu
  have k2 := fun w' => rback_calls u w' hu
  have s1 := fun w' => zsplit_agg v w' hv0 hv1 n s hn hs
  have s2 : ∀ w', Calls Try.prog 15 #[.int .i64 v] w' fun e w'' => e = .returned (.agg #[.int .i64 (n : Int), .int .u64 (s : Int)]) ∧ Below w'.heap.size w' w'' := fun w' => by
    rw [hn, hs]; exact rsplit_calls v w' hv0 hv1
  rw [← hM] at m1 m2
  rw [← hK] at k1 k2
  have J1 := kept j1
  have J2 := kept j2
  have M1 := kept m1
  have M2 := kept m2
  have K1 := kept k1
  have K2 := kept k2
  have S1 := kept s1
  have S2 := kept s2
  clear j1 j2 m1 m2 k1 k2 s1 s2 hB hJ hM hK hn hs hv0 hv1 hu hc0 hc1 hr
  go_enter Try.func3, Try.ntmps3
  go_wp2_with fail
  generalize hwa : World.alloc w _ = wa
  have hb : Below w.heap.size w wa := by rw [← hwa]; exact (Below.refl _ _).alloc (Nat.le_refl _) _
  have hP : Blk wa w.heap.size #[.int .i64 c, .int .u64 (r : Int)] 24 := by rw [← hwa]; exact Blk.fresh _ _ _
  have HB := kept hb
  have HP := kept hP
  clear hwa hb hP
  refine (J1.out _).mono ?_
  rintro e wb ⟨rfl, hb⟩
  have HB2 := kept (HB.out.trans (hb.mono HB.out.size))
  have HP2 : Kept (Blk wb w.heap.size #[.int .i64 c, .int .u64 (r : Int)] 24) := kept ((hb.block _ HP.out.lt).trans HP.out)
  obtain ⟨p0, p1, _, _⟩ := num_cells HP2.out
  clear hb HB HP
  go_wp2_with fail
  refine (J2.out _).mono ?_
  rintro e wc ⟨rfl, hb⟩
  have HB3 := kept (HB2.out.trans (hb.mono HB2.out.size))
  clear hb HB2 HP2 p0 p1
  go_wp2_with fail
  generalize hwd : World.alloc wc _ = wd
  have hb : Below w.heap.size w wd := by rw [← hwd]; exact HB3.out.alloc HB3.out.size _
  have hN : Blk wd wc.heap.size #[.int .i64 J, .bool B] 28 := by rw [← hwd]; exact Blk.fresh _ _ _
  generalize wc.heap.size = G at hN ⊢
  have HB4 := kept hb
  have HN := kept hN
  clear hwd hb hN HB3
  refine (M1.out _).mono ?_
  rintro e w' ⟨rfl, rfl⟩
  go_wp2_with fail
  refine (M2.out _).mono ?_
  rintro e w' ⟨rfl, rfl⟩
  go_wp2_with fail
  refine (K1.out _).mono ?_
  rintro e w' ⟨rfl, rfl⟩
  go_wp2_with fail
  refine (K2.out _).mono ?_
  rintro e w' ⟨rfl, rfl⟩
  go_wp2_with fail
  refine (S1.out _).mono ?_
  rintro e we ⟨rfl, hb⟩
  have HB5 := kept (HB4.out.trans (hb.mono HB4.out.size))
  have HN5 : Kept (Blk we G #[.int .i64 J, .bool B] 28) := kept ((hb.block _ HN.out.lt).trans HN.out)
  clear hb HB4 HN
  go_wp2_with fail
  refine (S2.out _).mono ?_
  rintro e wf ⟨rfl, hb⟩
  have HB6 := kept (HB5.out.trans (hb.mono HB5.out.size))
  have HN6 : Kept (Blk wf G #[.int .i64 J, .bool B] 28) := kept ((hb.block _ HN5.out.lt).trans HN5.out)
  obtain ⟨p0, p1, _, _⟩ := num_cells HN6.out
  clear hb HB5 HN5
  go_wp2_with (first
    | (go_at_call 16; refine (awake1_calls _).mono ?_; rintro e w9 ⟨rfl, hb9⟩; have HB9 := kept (HB6.out.trans (hb9.mono HB6.out.size)); clear hb9))
  go_ret
  exact ⟨rfl, HB9.out⟩
end Go.Proofs.Ytbeikaplkbaeiaa
