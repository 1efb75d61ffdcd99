/- Part HuffBack3 of what the layer's laws stand on: Zj, Jh, Jk, PAx26, Ump, Rr, Nr, Jl, PAx39, PAx40, PAx41, PAx42, PAx50, PAx43, Unu, My, Rc, Rd, Ro, Re, Rf, Mo. Written by a program (merge.py) out of this session's own texts and of what the kit's print wrote over stand-ins (sp.py). Conditions: those that each theorem names. -/
import Derived.Test.YtnakjencodicmaaProg
import Derived.Test.YtnakjencodicmaaQHuffBack1
import Derived.Test.YtnakjencodicmaaQHuffBack2
import Derived.WalkSpells
import Derived.WalkLawsBesides
import Derived.BigQuiet
import Derived.Lib.Hide
import Derived.Lib.Zigzag
import Derived.Deep.DeepCutAuto
import Derived.OpenShut
-- ---- Zj
/- zig.Join: what it returns. -/
namespace Go.Proofs.Ytnakjencodicmaa
set_option maxRecDepth 100000
set_option linter.unusedSimpArgs false
set_option linter.unusedVariables false
open Go.RowKit Mix _root_.Go.Proofs.Ytnakjencodicmaa.Own Zig

theorem i64_xor_zero (x : Nat) (hx : x < 9223372036854775808) : bits .xor .i64 (x : Int) 0 = (x : Int) := by
  show IntKind.i64.wrap ((BitVec.ofInt 64 (x : Int) ^^^ BitVec.ofInt 64 0).toNat : Int) = _
  have h1 : (BitVec.ofInt 64 0).toNat = 0 := by decide
  have h2 : (BitVec.ofInt 64 (x : Int)).toNat = x := by
    rw [BitVec.ofInt_natCast, BitVec.toNat_ofNat]; exact Nat.mod_eq_of_lt (by omega)
  rw [BitVec.toNat_xor, h1, h2, Nat.xor_zero, IntKind.wrap_i64]
  omega
theorem i64_xor_neg (x : Nat) (hx : x < 9223372036854775808) : bits .xor .i64 (x : Int) (-1) = -(x : Int) - 1 := by
  rw [← Go.Lib.i64_not x hx]
  show IntKind.i64.wrap ((BitVec.ofInt 64 (x : Int) ^^^ BitVec.ofInt 64 (-1)).toNat : Int) = IntKind.i64.wrap ((BitVec.ofInt 64 (-1) ^^^ BitVec.ofInt 64 (x : Int)).toNat : Int)
  rw [BitVec.xor_comm]

theorem zback_bits (u : Nat) (h : u < 18446744073709551616) :
    bits .xor .i64 ((u : Int) / 2) (wrap64 (-wrap64 (bits .and .u64 (u : Int) 1))) = zback u := by
  rw [Go.Lib.u64_and1 _ (by omega) (by omega)]
  have e : (u : Int) / 2 = ((u / 2 : Nat) : Int) := by omega
  unfold zback
  by_cases ho : u % 2 = 1
  · have e2 : wrap64 (-wrap64 ((u : Int) % 2)) = -1 := by unfold wrap64; omega
    rw [e, e2, i64_xor_neg _ (by omega), if_pos ho]
  · have e2 : wrap64 (-wrap64 ((u : Int) % 2)) = 0 := by unfold wrap64; omega
    rw [e, e2, i64_xor_zero _ (by omega), if_neg ho]

theorem top_bits (c : Nat) (h1 : c ≤ 64) : IntKind.u64.wrap ((2 : Int) ^ (c - 1)) = ((2 ^ (c - 1) : Nat) : Int) := by
  have h2 := pow_le63 (c - 1) (by omega)
  have e : ((2 : Int) ^ (c - 1)) = ((2 ^ (c - 1) : Nat) : Int) := by simp
  rw [e, IntKind.wrap_u64]
  generalize 2 ^ (c - 1) = P at h2
  omega

theorem zback_calls (u : Nat) (w : World) (h : u < 18446744073709551616) :
    Calls Try.prog 48 #[.int .u64 (u : Int)] w fun e w' => e = .returned (.int .i64 (zback u)) ∧ w = w' := by
  rw [← zback_bits u h]
  go_enter Try.func48, Try.ntmps48
  go_wp2_with fail
  go_ret
  exact ⟨rfl, rfl⟩

theorem ztop_calls (c : Nat) (w : World) (h0 : 1 ≤ c) (h1 : c ≤ 64) :
    Calls Try.prog 47 #[.int .i64 (c : Int)] w fun e w' => e = .returned (.int .u64 ((2 ^ (c - 1) : Nat) : Int)) ∧ w = w' := by
  rw [← top_bits c h1]
  go_enter Try.func47, Try.ntmps47
  go_wp2_with fail
  go_ret
  exact ⟨rfl, rfl⟩

/-- What is split of a number. -/
def partOf (c : Int) (r : Nat) : Value := .agg #[.int .i64 c, .int .u64 (r : Int)]

theorem may_top (n r : Nat) (h1 : 1 ≤ n) (h2 : n ≤ 64) : may (n : Int) r = decide (r < 2 ^ (n - 1)) := by
  unfold may
  rw [decide_eq_true (by omega), Bool.true_and, if_neg (by omega), Int.toNat_natCast]

set_option maxHeartbeats 2000000 in
theorem zjoin_calls (c : Int) (r : Nat) (w : World) (h0 : -9223372036854775808 ≤ c) (h1 : c ≤ 9223372036854775807) (hr : r < 18446744073709551616) :
    Calls Try.prog 24 #[partOf c r] w fun e w' => e = .returned (.tuple #[.int .i64 (join c r), .bool (may c r)]) ∧ Below w.heap.size w w' := by
  unfold partOf
  by_cases hz : c = 0 ∧ r = 0
  · obtain ⟨hc, hr0⟩ := hz
    have hm : may c r = true := by rw [hc, hr0]; decide
    have hj : join c r = 0 := by rw [hc, hr0]; decide
    rw [hm, hj]
    have t0 : (c == 0) = true := by rw [beq_iff_eq]; exact hc
    have t1 : ((r : Int) == 0) = true := by rw [beq_iff_eq]; omega
    clear hm hj hc hr0 h0 h1 hr
    go_enter Try.func24, Try.ntmps24
    go_wp2_with fail
    go_ret2
    exact ⟨rfl, (Below.refl _ _).alloc (Nat.le_refl _) _⟩
  rcases (show (c = 0 ∧ ¬ r = 0) ∨ c < 0 ∨ 64 < c ∨ (1 ≤ c ∧ c ≤ 64) by omega) with hc | hc | hc | hc
  · have hm : may c r = false := by
      unfold may; rw [hc.1]; simp [hc.2]
    have hj : join c r = 0 := by unfold join; rw [hm]; rfl
    have t0 : (c == 0) = true := by rw [beq_iff_eq]; exact hc.1
    have t1 : ((r : Int) == 0) = false := by rw [beq_eq_false_iff_ne]; omega
    have t2 : decide (c < 1) = true := by simp; omega
    rw [hm, hj]
    clear hm hj h0 h1 hr hz hc
    go_enter Try.func24, Try.ntmps24
    go_wp2_with fail
    generalize hwa : World.alloc w _ = wa
    have hb : Below w.heap.size w wa := by rw [← hwa]; exact (Below.refl _ _).alloc (Nat.le_refl _) _
    have hB : Blk wa w.heap.size #[.int .i64 c, .int .u64 (r : Int)] 54 := by rw [← hwa]; exact Blk.fresh _ _ _
    have l0 := lat_cell (hB.cell (i := 0) rfl)
    have l1 := lat_cell (hB.cell (i := 1) rfl)
    have HB := kept hb
    have HBk := kept hB
    clear hwa hb hB
    refine wp_region_quietL (by kernel_rfl) (by kernel_rfl) ?_
    repeat (go_big_quiet_step (fail))
    refine wpQuiet_nil ?_
    intro nq
    go_wp2_with fail
    go_ret2
    exact ⟨rfl, HB.out.trans (nq.below.mono HB.out.size)⟩
  · have hm : may c r = false := by
      unfold may; rw [decide_eq_false (by omega)]; rfl
    have hj : join c r = 0 := by unfold join; rw [hm]; rfl
    have t0 : (c == 0) = false := by rw [beq_eq_false_iff_ne]; omega
    have t2 : decide (c < 1) = true := by simp; omega
    rw [hm, hj]
    clear hm hj h0 h1 hr hz hc
    go_enter Try.func24, Try.ntmps24
    go_wp2_with fail
    generalize hwa : World.alloc w _ = wa
    have hb : Below w.heap.size w wa := by rw [← hwa]; exact (Below.refl _ _).alloc (Nat.le_refl _) _
    have hB : Blk wa w.heap.size #[.int .i64 c, .int .u64 (r : Int)] 54 := by rw [← hwa]; exact Blk.fresh _ _ _
    have l0 := lat_cell (hB.cell (i := 0) rfl)
    have l1 := lat_cell (hB.cell (i := 1) rfl)
    have HB := kept hb
    have HBk := kept hB
    clear hwa hb hB
    refine wp_region_quietL (by kernel_rfl) (by kernel_rfl) ?_
    repeat (go_big_quiet_step (fail))
    refine wpQuiet_nil ?_
    intro nq
    go_wp2_with fail
    go_ret2
    exact ⟨rfl, HB.out.trans (nq.below.mono HB.out.size)⟩
  · have hm : may c r = false := by
      unfold may; rw [decide_eq_false (by omega)]; rfl
    have hj : join c r = 0 := by unfold join; rw [hm]; rfl
    have t0 : (c == 0) = false := by rw [beq_eq_false_iff_ne]; omega
    have t2 : decide (c < 1) = false := by simp; omega
    have t3 : decide ((65 : Int) ≤ c) = true := by simp; omega
    rw [hm, hj]
    clear hm hj h0 h1 hr hz hc
    go_enter Try.func24, Try.ntmps24
    go_wp2_with fail
    generalize hwa : World.alloc w _ = wa
    have hb : Below w.heap.size w wa := by rw [← hwa]; exact (Below.refl _ _).alloc (Nat.le_refl _) _
    have hB : Blk wa w.heap.size #[.int .i64 c, .int .u64 (r : Int)] 54 := by rw [← hwa]; exact Blk.fresh _ _ _
    have l0 := lat_cell (hB.cell (i := 0) rfl)
    have l1 := lat_cell (hB.cell (i := 1) rfl)
    have HB := kept hb
    have HBk := kept hB
    clear hwa hb hB
    refine wp_region_quietL (by kernel_rfl) (by kernel_rfl) ?_
    repeat (go_big_quiet_step (fail))
    refine wpQuiet_nil ?_
    intro nq
    go_wp2_with fail
    go_ret2
    exact ⟨rfl, HB.out.trans (nq.below.mono HB.out.size)⟩
  · obtain ⟨n, rfl⟩ := Int.eq_ofNat_of_zero_le (show 0 ≤ c by omega)
    have hn1 : 1 ≤ n := by omega
    have hn2 : n ≤ 64 := by omega
    have t0 : ((n : Int) == 0) = false := by rw [beq_eq_false_iff_ne]; omega
    have t2 : decide ((n : Int) < 1) = false := by simp; omega
    have t3 : decide ((65 : Int) ≤ (n : Int)) = false := by simp; omega
    have hmt := may_top n r hn1 hn2
    have hp63 := pow_le63 (n - 1) (by omega)
    obtain ⟨P, hP⟩ : ∃ P, P = 2 ^ (n - 1) := ⟨_, rfl⟩
    have ht : ∀ w', Calls Try.prog 47 #[.int .i64 (n : Int)] w' fun e w'' => e = .returned (.int .u64 (P : Int)) ∧ w' = w'' := fun w' => by
      rw [hP]; exact ztop_calls n w' hn1 hn2
    rw [← hP] at hmt hp63
    have HT := kept ht
    clear ht
    by_cases hlt : r < P
    · have hm : may (n : Int) r = true := by rw [hmt]; simpa using hlt
      have hj : join (n : Int) r = zback (P + r) := by
        unfold join Zig.sizeOf
        rw [hm, if_pos rfl, if_neg (by omega), Int.toNat_natCast, ← hP]
      have hbk : ∀ w', Calls Try.prog 48 #[.int .u64 ((P : Int) + (r : Int))] w' fun e w'' => e = .returned (.int .i64 (zback (P + r))) ∧ w' = w'' := fun w' => by
        have := zback_calls (P + r) w' (by omega)
        rw [show ((P + r : Nat) : Int) = (P : Int) + (r : Int) by omega] at this
        exact this
      have hw2 : IntKind.u64.wrap ((P : Int) + (r : Int)) = (P : Int) + (r : Int) := by rw [IntKind.wrap_u64]; omega
      obtain ⟨J, hJ⟩ : ∃ J, J = zback (P + r) := ⟨_, rfl⟩
      rw [← hJ] at hbk hj
      have HBack := kept hbk
      have t4 : decide ((P : Int) ≤ (r : Int)) = false := by simp; omega
      rw [hm, hj]
      clear hm hj h0 h1 hr hz hc hmt hP hbk hJ
      go_enter Try.func24, Try.ntmps24
      go_wp2_with fail
      generalize hwa : World.alloc w _ = wa
      have hb : Below w.heap.size w wa := by rw [← hwa]; exact (Below.refl _ _).alloc (Nat.le_refl _) _
      have hB : Blk wa w.heap.size #[.int .i64 (n : Int), .int .u64 (r : Int)] 54 := by rw [← hwa]; exact Blk.fresh _ _ _
      have l0 := lat_cell (hB.cell (i := 0) rfl)
      have l1 := lat_cell (hB.cell (i := 1) rfl)
      have HB := kept hb
      have HBk := kept hB
      clear hwa hb hB
      refine wp_region_quietL (by kernel_rfl) (by kernel_rfl) ?_
      repeat (go_big_quiet_step ((first | (go_at_call 47; exact lat_call_same (HT.out _)))))
      refine wpQuiet_nil ?_
      intro nq
      have HB2 := kept (HB.out.trans (nq.below.mono HB.out.size))
      have HBk2 : Kept (Blk nq.w w.heap.size #[.int .i64 (n : Int), .int .u64 (r : Int)] 54) := kept (lat_block HBk.out nq)
      clear l0 l1
      generalize nq.w = w2 at HB2 HBk2 ⊢
      have l0 := lat_cell (HBk2.out.cell (i := 0) rfl)
      have l1 := lat_cell (HBk2.out.cell (i := 1) rfl)
      go_wp2_with fail
      refine wp_region_quietL (by kernel_rfl) (by kernel_rfl) ?_
      repeat (go_big_quiet_step ((first | (go_at_call 47; exact lat_call_same (HT.out _)) | (go_at_call 48; exact lat_call_same (HBack.out _)))))
      refine wpQuiet_nil ?_
      intro nq2
      go_wp2_with fail
      go_ret2
      exact ⟨rfl, HB2.out.trans (nq2.below.mono HB2.out.size)⟩
    · have hm : may (n : Int) r = false := by rw [hmt]; simpa using hlt
      have hj : join (n : Int) r = 0 := by unfold join; rw [hm]; rfl
      have t4 : decide ((P : Int) ≤ (r : Int)) = true := by simp; omega
      rw [hm, hj]
      clear hm hj h0 h1 hr hz hc hmt hP
      go_enter Try.func24, Try.ntmps24
      go_wp2_with fail
      generalize hwa : World.alloc w _ = wa
      have hb : Below w.heap.size w wa := by rw [← hwa]; exact (Below.refl _ _).alloc (Nat.le_refl _) _
      have hB : Blk wa w.heap.size #[.int .i64 (n : Int), .int .u64 (r : Int)] 54 := by rw [← hwa]; exact Blk.fresh _ _ _
      have l0 := lat_cell (hB.cell (i := 0) rfl)
      have l1 := lat_cell (hB.cell (i := 1) rfl)
      have HB := kept hb
      have HBk := kept hB
      clear hwa hb hB
      refine wp_region_quietL (by kernel_rfl) (by kernel_rfl) ?_
      repeat (go_big_quiet_step ((first | (go_at_call 47; exact lat_call_same (HT.out _)))))
      refine wpQuiet_nil ?_
      intro nq
      go_wp2_with fail
      go_ret2
      exact ⟨rfl, HB.out.trans (nq.below.mono HB.out.size)⟩
end Go.Proofs.Ytnakjencodicmaa

-- ---- Jh
/- huff.Put: the bytes of parts: what the call answers. Conditions: those that each theorem names. -/
namespace Go.Proofs.Ytnakjencodicmaa
set_option maxRecDepth 100000
set_option linter.unusedSimpArgs false
set_option linter.unusedVariables false
open Go.RowKit Go.Proofs.YtnakjencodicmaaW.PrintWords Go.Proofs.YtnakjencodicmaaW.PrintLast Go.Proofs.YtnakjencodicmaaW.PrintMore Mix _root_.Go.Proofs.Ytnakjencodicmaa.Own Bits Hu Dp
attribute [local go_sem] max_int min_int

set_option maxHeartbeats 2000000 in
theorem hput_form (A0 : Option Addr) (n0 c0 : Nat) (A1 : Option Addr) (c1 : Nat) (L : List Int) (ps : List (Int × Nat)) (w : World) (hr1 : Kd.C (Kd.int .i64) w A1 L.length L) (hc1 : L.length ≤ c1) (hm : mayL L = false) :
    Calls Try.prog 10 #[.slice A0 n0 c0, .slice A1 L.length c1] w fun e w' => e = .returned (.tuple #[.string (putE L ps).1, .int .i64 (putE L ps).2]) ∧ Below w.heap.size w w' := by
  have HC := kept (CanonH.codes_bad A1 c1 L w hr1 hc1 hm)
  have hg : putE L ps = (⟨#[]⟩, 3) := by unfold putE; rw [hm]; rfl
  rw [hg]
  obtain ⟨l, hl⟩ : ∃ l, l = L.length := ⟨_, rfl⟩
  rw [← hl] at HC ⊢
  clear hr1 hc1 hm hg hl
  go_enter Try.func10, Try.ntmps10
  go_wp2_with fail
  refine HC.out.mono ?_
  rintro e w1 ⟨rfl, hb⟩
  have HB := kept hb
  clear hb
  go_wp2_with fail
  go_ret2
  exact ⟨rfl, HB.out⟩

theorem NewW.apart {B : Nat} {w : World} {p : Nat} {v : Value} {l : List Bool} (h : NewW B w p v l) {g : Nat} {cs : Array Value} {t : TypeId} (hb : Blk w g cs t) (h1 : t ≠ 111) (h2 : (5 : TypeId) ≠ t) : ¬ (g = p ∨ some g = v.ownBlock) := by
  rintro (hh | hh)
  · exact Blk.ne hb h.is.blk h1 hh
  · exact h.is.row.ne hb h2 hh.symm

set_option maxHeartbeats 16000000 in
theorem hput_calls (A0 : Option Addr) (n0 c0 : Nat) (A1 : Option Addr) (c1 : Nat) (L : List Int) (ps : List (Int × Nat)) (w : World) (hr0 : RdQ w A0 n0 ps) (hr1 : Kd.C (Kd.int .i64) w A1 L.length L) (hc1 : L.length ≤ c1) (hm : mayL L = true) (hn : n0 ≤ 1000000) :
    Calls Try.prog 10 #[.slice A0 n0 c0, .slice A1 L.length c1] w fun e w' => e = .returned (.tuple #[.string (putE L ps).1, .int .i64 (putE L ps).2]) ∧ Below w.heap.size w w' := by
  have HC := kept (CanonH.codes_ok A1 c1 L w hr1 hc1 hm)
  have h65 := (Cd.may_range hm).1
  have HM := kept hm
  have hcl : (Cd.codeL L).length = 65 := Cd.length_cst L _
  have HCl := kept hcl
  have HR := kept hr0
  rw [h65] at HC ⊢
  obtain ⟨B, hB⟩ : ∃ B, B = w.heap.size := ⟨_, rfl⟩
  have HBe := kept hB
  rw [← hB]
  clear hr0 hr1 hc1 hm h65 hcl hB
  go_enter Try.func10, Try.ntmps10
  go_wp2_with fail
  refine HC.out.mono ?_
  rintro e w1 ⟨vc, rfl, ho1, hnew1, hb1⟩
  obtain ⟨ac, cc, rfl, hac1, hac2, hac3⟩ := ho1.slice
  obtain ⟨gc, rfl⟩ := hac3 (by decide)
  have HO1 := kept ho1
  have HB1 : Own.Kept (Below B w w1) := kept (by rw [HBe.out]; exact hb1)
  have HS1 : Own.Kept (B ≤ w1.heap.size) := kept (by rw [HBe.out]; exact hb1.size)
  clear ho1 hnew1 hb1 hac1 hac2 hac3
  go_wp2_with fail
  refine (new_new B w1 HS1.out).mono ?_
  rintro e w2 ⟨pw, rfl, hW2, hb2, hp2⟩
  have HO2 := kept (HO1.out.later hb2)
  have HB2 := kept (HB1.out.trans (hb2.mono HS1.out))
  have HS2 := kept (Nat.le_trans HS1.out hb2.size)
  have HW2 := kept hW2
  clear hW2 hb2 hp2
  go_wp2_with fail
  go_loopw [26] (fun s26 wr => ∃ (i : Nat) (v : Value), i ≤ n0 ∧ s26 = .int .i64 (i : Int) ∧ (∀ p ∈ ps.take i, okP L p = true) ∧ NewW B wr pw v (enc L ((ps.take i).map natP)) ∧ OwnK wr 69 2 (.slice (some ⟨gc, 0, none⟩) 65 cc) 65 (CanonH.fl (Cd.codeL L)) ∧ Below B w wr ∧ B ≤ wr.heap.size) (fun s26 _ => n0 - (intOf s26).toNat)
  case atStart => exact ⟨0, _, Nat.zero_le _, rfl, by simp, by simpa [enc] using HW2.out, HO2.out, HB2.out, HS2.out⟩
  case round =>
    obtain ⟨i, v, hi, rfl, hok, hW, hO, hB, hS⟩ := hrel
    obtain ⟨wq, rfl⟩ : ∃ wq, wq = wr := ⟨wr, rfl⟩
    have HOk := kept hok
    have HW := kept hW
    have HO := kept hO
    have HBl := kept hB
    have HS := kept hS
    clear hok hW hO hB hS
    by_cases hlt : i < n0
    · obtain ⟨c, r, hpi⟩ : ∃ c r, ps[i]? = some (c, r) := ⟨_, _, List.getElem?_eq_getElem (by rw [HR.out.len]; exact hlt)⟩
      have hmem : (c, r) ∈ ps := List.mem_of_getElem? hpi
      obtain ⟨w0c, w1c, w2c⟩ := HR.out.wf _ hmem
      obtain ⟨x0, rfl, hcs⟩ := HR.out.at_ (by omega)
      obtain ⟨hc0, hc1⟩ := hcs i (c, r) hpi
      have hx0 : (x0.add (i * 2)).block < B := by rw [HBe.out]; exact World.block_lt_of_cell? w _ hc0
      have hx1 : (x0.add (i * 2 + 1)).block < B := by rw [HBe.out]; exact World.block_lt_of_cell? w _ hc1
      have k0 := (HBl.out.cell hx0).trans hc0
      have k1 := (HBl.out.cell hx1).trans hc1
      have k1b := cellN_next k1
      have htk : ps.take (i + 1) = ps.take i ++ [(c, r)] := by
        rw [List.take_succ_eq_append_getElem (by rw [HR.out.len]; exact hlt)]
        rw [List.getElem?_eq_getElem (by rw [HR.out.len]; exact hlt)] at hpi
        rw [Option.some.inj hpi]
      have HTk := kept htk
      have HMem := kept hmem
      clear hpi hmem hcs hc0 hc1 htk
      go_upto_region 8 with fail
      generalize hw3 : World.alloc wq _ = w3
      obtain ⟨gp, hgp⟩ : ∃ gp, gp = wq.heap.size := ⟨_, rfl⟩
      have hal : Below wq.heap.size wq w3 := by rw [← hw3]; exact (Below.refl _ _).alloc (Nat.le_refl _) _
      have hP3 : Blk w3 gp #[.int .i64 c, .int .u64 (r : Int)] 54 := by rw [hgp, ← hw3]; exact Blk.fresh _ _ _
      have HP3 := kept hP3
      have HW3 := kept (HW.out.later hal)
      have HO3 := kept (HO.out.later hal)
      have HB3 := kept (HBl.out.trans (hal.mono HS.out))
      have HS3 := kept (Nat.le_trans HS.out hal.size)
      have HGp : Own.Kept (B ≤ gp) := kept (by rw [hgp]; exact HS.out)
      have p0 : w3.cell? ⟨gp, 0, none⟩ = some (.int .i64 c) := Blk.cell hP3 rfl
      have p1 : w3.cell? ⟨gp, 1, none⟩ = some (.int .u64 (r : Int)) := Blk.cell hP3 rfl
      have HJ : Own.Kept (Calls Try.prog 24 #[.agg #[.int .i64 c, .int .u64 (r : Int)]] w3 fun e w' => e = .returned (.tuple #[.int .i64 (Zig.join c r), .bool (Zig.may c r)]) ∧ Below w3.heap.size w3 w') := kept (zjoin_calls c r w3 w0c w1c w2c)
      rw [← hgp]
      clear hw3 hgp hal hP3 k0 k1 k1b hx0 hx1
      have hbad : okP L (c, r) = false → putE L ps = (⟨#[]⟩, 1) := fun h => by
        unfold putE
        rw [if_pos HM.out, if_neg]
        intro hall
        have := List.all_eq_true.1 hall _ HMem.out
        rw [h] at this; cases this
      obtain ⟨jn, hjn⟩ : ∃ jn, jn = Zig.join c r := ⟨_, rfl⟩
      rw [← hjn] at HJ
      clear hjn
      cases hmay : Zig.may c r with
      | false =>
        rw [hmay] at HJ
        have hpe := hbad (by unfold okP; rw [hmay]; rfl)
        have HPe := kept hpe
        clear hmay hbad hpe
        go_wp2_with fail
        refine HJ.out.mono ?_
        rintro e w4 ⟨rfl, hb4⟩
        have HB4 := kept (HB3.out.trans (hb4.mono HS3.out))
        clear hb4
        go_wp2_with fail
        go_ret2
        exact ⟨by rw [HPe.out]; rfl, HB4.out⟩
      | true =>
        rw [hmay] at HJ
        have hm2 := hmay
        unfold Zig.may at hm2
        rw [Bool.and_eq_true, decide_eq_true_eq] at hm2
        obtain ⟨⟨hcl0, hcl1⟩, _⟩ := hm2
        obtain ⟨cN, rfl⟩ := Int.eq_ofNat_of_zero_le hcl0
        have hc64 : cN ≤ 64 := by omega
        obtain ⟨cb, cn, hcode, hcb, hcn, hee⟩ : ∃ cb cn : Nat, (Cd.codeL L).getD cN (0, 0) = ((cb : Int), (cn : Int)) ∧ cb < 32768 ∧ cn ≤ 15 ∧ (cb = cdB L cN ∧ cn = cdN L cN) := by
          obtain ⟨a1, a2, a3, a4, _⟩ := cd_all HM.out cN (by omega)
          exact ⟨cdB L cN, cdN L cN, a4, Nat.lt_of_lt_of_le a2 (Nat.pow_le_pow_right (by decide) a1), a1, rfl, rfl⟩
        obtain ⟨f1, f2⟩ := CanonH.fl_at (Cd.codeL L) cN (by rw [HCl.out]; omega)
        have eat : Hp.at_ (Cd.codeL L) cN = ((cb : Int), (cn : Int)) := hcode
        rw [eat] at f1 f2
        have HF1 := kept f1
        have HF2 := kept f2
        have HEe := kept hee
        have HMay := kept hmay
        have hget : L.getD cN 0 = (cn : Int) := by rw [hee.2]; exact (cd_all HM.out cN (by omega)).2.2.1
        have HGet := kept hget
        clear f1 f2 eat hcode hee hmay hcl0 hcl1 w0c w1c hget
        go_wp2_with fail
        refine HJ.out.mono ?_
        rintro e w4 ⟨rfl, hb4⟩
        have HP4 : Own.Kept (Blk w4 gp #[.int .i64 (cN : Int), .int .u64 (r : Int)] 54) := kept ((hb4.block gp (Blk.lt HP3.out)).trans HP3.out)
        have HW4 := kept (HW3.out.later hb4)
        have HO4 := kept (HO3.out.later hb4)
        have HB4 := kept (HB3.out.trans (hb4.mono HS3.out))
        have HS4 := kept (Nat.le_trans HS3.out hb4.size)
        clear p0 p1
        have p0 : w4.cell? ⟨gp, 0, none⟩ = some (.int .i64 (cN : Int)) := Blk.cell HP4.out rfl
        have k0 := HO4.out.cell HF1.out
        have k1 := HO4.out.cell HF2.out
        clear hb4
        by_cases hpos : cn = 0
        · have hpe := hbad (by unfold okP; rw [HMay.out, Int.toNat_natCast, HGet.out, hpos]; rfl)
          have HPe := kept hpe
          have tz : ((cn : Int) == 0) = true := by rw [beq_iff_eq]; omega
          clear hpe hbad hpos
          go_wp2_with fail
          go_ret2
          exact ⟨by rw [HPe.out]; rfl, HB4.out⟩
        · have tz : ((cn : Int) == 0) = false := by rw [beq_eq_false_iff_ne]; omega
          have hokc : okP L ((cN : Int), r) = true := by unfold okP; rw [HMay.out, Int.toNat_natCast, HGet.out]; simpa using hpos
          have HOkc := kept hokc
          clear hbad hokc
          go_upto_region 12 with fail
          generalize hw5 : World.alloc w4 _ = w5
          obtain ⟨gd, hgd⟩ : ∃ gd, gd = w4.heap.size := ⟨_, rfl⟩
          have hal : Below w4.heap.size w4 w5 := by rw [← hw5]; exact (Below.refl _ _).alloc (Nat.le_refl _) _
          have hD5 : Blk w5 gd #[.int .i64 (cb : Int), .int .i64 (cn : Int)] 69 := by rw [hgd, ← hw5]; exact Blk.fresh _ _ _
          have HD5 := kept hD5
          have HP5 : Own.Kept (Blk w5 gp #[.int .i64 (cN : Int), .int .u64 (r : Int)] 54) := kept ((hal.block gp (Blk.lt HP4.out)).trans HP4.out)
          have HW5 := kept (HW4.out.later hal)
          have HO5 := kept (HO4.out.later hal)
          have HB5 := kept (HB4.out.trans (hal.mono HS4.out))
          have HS5 := kept (Nat.le_trans HS4.out hal.size)
          have d1 : w5.cell? ⟨gd, 1, none⟩ = some (.int .i64 (cn : Int)) := Blk.cell hD5 rfl
          rw [← hgd]
          obtain ⟨E, hE⟩ : ∃ E, E = enc L ((ps.take i).map natP) := ⟨_, rfl⟩
          have hEl : E.length ≤ 100000000 := by
            have h := enc_len L HM.out ((ps.take i).map natP) (fun q hq => by
              obtain ⟨q0, hq0, rfl⟩ := List.mem_map.1 hq
              exact (okP_able HM.out (HOk.out q0 hq0)).2.2)
            rw [List.length_map, List.length_take] at h
            rw [hE]; omega
          rw [← hE] at HW5
          have HE := kept hE
          have HEl := kept hEl
          clear hw5 hgd hal hD5 p0 k0 k1 hE hEl
          go_wp2_with fail
          go_loopw [14] (fun s14 wr => ∃ (k : Nat) (v1 : Value), k ≤ cn ∧ s14 = .int .i64 ((k : Int) - 1) ∧ NewW B wr pw v1 (E ++ (Hu.hi cb cn).take (cn - k)) ∧ Blk wr gd #[.int .i64 (cb : Int), .int .i64 (cn : Int)] 69 ∧ Blk wr gp #[.int .i64 (cN : Int), .int .u64 (r : Int)] 54 ∧ OwnK wr 69 2 (.slice (some ⟨gc, 0, none⟩) 65 cc) 65 (CanonH.fl (Cd.codeL L)) ∧ Below B w wr ∧ B ≤ wr.heap.size) (fun s14 _ => (intOf s14 + 1).toNat)
          case atStart => exact ⟨cn, _, Nat.le_refl _, rfl, by simpa using HW5.out, HD5.out, HP5.out, HO5.out, HB5.out, HS5.out⟩
          case round =>
            obtain ⟨k, v1, hk, rfl, hW, hD, hP, hO, hB, hS⟩ := hrel
            obtain ⟨wk, rfl⟩ : ∃ wk, wk = wr := ⟨wr, rfl⟩
            have HWk := kept hW
            have HDk := kept hD
            have HPk := kept hP
            have HOk2 := kept hO
            have HBk := kept hB
            have HSk := kept hS
            have hlen : (E ++ (Hu.hi cb cn).take (cn - k)).length < 1000000000000 := by have := HEl.out; simp; omega
            have HLen := kept hlen
            clear hW hP hO hB hS d1 hlen
            cases k with
            | succ k =>
              rw [show ((k + 1 : Nat) : Int) - 1 = (k : Int) by omega]
              have d0 : wk.cell? ⟨gd, 0, none⟩ = some (.int .i64 (cb : Int)) := Blk.cell hD rfl
              have hsh : cb / 2 ^ k < 18446744073709551616 := by have := Nat.div_le_self cb (2 ^ k); omega
              have HPut := kept (put_new B pw v1 _ (cb / 2 ^ k) 1 wk HSk.out HWk.out HLen.out hsh (by decide) (by decide))
              rw [clamp1, bitsOf_one, List.append_assoc, ← hi_take cb cn k (by omega)] at HPut
              have ewr : IntKind.u64.wrap ((cb : Int) / 2 ^ k) = ((cb / 2 ^ k : Nat) : Int) := by
                have e : ((cb : Int) / 2 ^ k) = ((cb / 2 ^ k : Nat) : Int) := by simp
                rw [e, IntKind.wrap_u64]
                generalize cb / 2 ^ k = M at hsh
                omega
              have EWr := kept ewr
              clear hD hsh ewr
              go_wp2_with fail
              rw [EWr.out]
              refine HPut.out.mono ?_
              rintro e w7 ⟨rfl, v7, hW7, hB7, hC7, _⟩
              have HW7 := kept hW7
              have HB7 := kept (HBk.out.trans hB7)
              have HS7 := kept (Nat.le_trans HSk.out hB7.size)
              have HD7 : Own.Kept (Blk w7 gd #[.int .i64 (cb : Int), .int .i64 (cn : Int)] 69) := kept (hC7.keep HDk.out (HWk.out.apart HDk.out (by decide) (by decide)))
              have HP7 : Own.Kept (Blk w7 gp #[.int .i64 (cN : Int), .int .u64 (r : Int)] 54) := kept (hC7.keep HPk.out (HWk.out.apart HPk.out (by decide) (by decide)))
              have HO7 := kept (HOk2.out.chg hC7 (fun g hg => by
                obtain ⟨cur, hcur⟩ := HOk2.out.blk g hg
                exact HWk.out.apart hcur (by decide) (by decide)))
              clear hW7 hB7 hC7
              go_wp2_with fail
              go_roundw
              case rel => exact ⟨k, v7, by omega, rfl, HW7.out, HD7.out, HP7.out, HO7.out, HB7.out, HS7.out⟩
              case measure => simp [intOf]
            | zero =>
              have q0 : wk.cell? ⟨gp, 0, none⟩ = some (.int .i64 (cN : Int)) := Blk.cell HPk.out rfl
              have q1 : wk.cell? ⟨gp, 1, none⟩ = some (.int .u64 (r : Int)) := Blk.cell HPk.out rfl
              have HPut := kept (put_new B pw v1 _ r ((cN : Int) - 1) wk HSk.out HWk.out HLen.out w2c (by omega) (by omega))
              rw [clamp_cls cN hc64, Nat.sub_zero, List.take_of_length_le (by simp)] at HPut
              have hen : E ++ Hu.hi cb cn ++ bitsOf r (cN - 1) = enc L ((ps.take (i + 1)).map natP) := by
                rw [HTk.out, List.map_append, enc_append, ← HE.out, List.append_assoc]
                congr 1
                rw [HEe.out.1, HEe.out.2]
                simp [enc, encOne, natP]
              rw [hen] at HPut
              clear hen hD
              go_wp2_with fail
              refine HPut.out.mono ?_
              rintro e w7 ⟨rfl, v7, hW7, hB7, hC7, _⟩
              have HW7 := kept hW7
              have HB7 := kept (HBk.out.trans hB7)
              have HS7 := kept (Nat.le_trans HSk.out hB7.size)
              have HO7 := kept (HOk2.out.chg hC7 (fun g hg => by
                obtain ⟨cur, hcur⟩ := HOk2.out.blk g hg
                exact HWk.out.apart hcur (by decide) (by decide)))
              clear hW7 hB7 hC7 q0 q1
              go_wp2_with fail
              go_roundw
              case rel => exact ⟨i + 1, v7, by omega, by go_num, fun p hp => by
                rw [HTk.out] at hp
                rcases List.mem_append.1 hp with hp | hp
                · exact HOk.out p hp
                · rw [List.mem_singleton.1 hp]; exact HOkc.out, HW7.out, HO7.out, HB7.out, HS7.out⟩
              case measure => simp [intOf]; omega
    · have hie : i = n0 := by omega
      subst hie
      have htk : ps.take i = ps := List.take_of_length_le (by rw [HR.out.len]; exact Nat.le_refl _)
      rw [htk] at HOk HW
      have hpe : putE L ps = (textOf (pack (enc L (ps.map natP))), 0) := by
        unfold putE
        rw [if_pos HM.out, if_pos (List.all_eq_true.2 HOk.out)]
      have HPe := kept hpe
      have HBy := kept (bytes_calls pw v _ wq HW.out.is)
      obtain ⟨tx, htx⟩ : ∃ tx, tx = textOf (pack (enc L (ps.map natP))) := ⟨_, rfl⟩
      rw [← htx] at HBy HPe
      clear htk hpe htx
      go_wp2_with fail
      refine HBy.out.mono ?_
      rintro e w7 ⟨rfl, rfl⟩
      go_wp2_with fail
      go_ret2
      exact ⟨by rw [HPe.out]; rfl, HBl.out⟩
end Go.Proofs.Ytnakjencodicmaa

-- ---- Jk
/- Parts of the print's own form, and codes that a call lays: how they are read. No program in sight. -/
namespace Go.Proofs.Ytnakjencodicmaa.PA
set_option maxRecDepth 100000
set_option linter.unusedVariables false
set_option linter.unusedSimpArgs false
open Go.RowKit Go.Proofs.YtnakjencodicmaaW.PrintWords Go.Proofs.YtnakjencodicmaaW.PrintLast Go.Proofs.YtnakjencodicmaaW.PrintMore
open _root_.Go.Proofs.Ytnakjencodicmaa.Own

def wfB (p : S54) : Bool := decide (-9223372036854775808 ≤ p.f0 ∧ p.f0 ≤ 9223372036854775807 ∧ 0 ≤ p.f1 ∧ p.f1 < 18446744073709551616)
def pairP (p : S54) : Int × Nat := (p.f0, p.f1.toNat)
theorem rdq_of {w : World} {A : Option Addr} {n : Nat} {xs : List (S54)} (h : Kd.C k54 w A n xs) (hw : xs.all wfB = true) : RdQ w A n (xs.map pairP) := by
  have hwf : ∀ p ∈ xs, -9223372036854775808 ≤ p.f0 ∧ p.f0 ≤ 9223372036854775807 ∧ 0 ≤ p.f1 ∧ p.f1 < 18446744073709551616 := fun p hp => by
    have := List.all_eq_true.1 hw p hp
    unfold wfB at this
    rwa [decide_eq_true_eq] at this
  refine ⟨by rw [List.length_map]; exact h.1, fun h0 => ?_, fun p hp => ?_⟩
  · obtain ⟨x, hx, hc⟩ := h.2.2 h0
    refine ⟨x, hx, fun i p hp => ?_⟩
    rw [List.getElem?_map] at hp
    cases hq : xs[i]? with
    | none => rw [hq] at hp; cases hp
    | some q =>
      rw [hq] at hp
      have hp := Option.some.inj hp
      subst hp
      obtain ⟨cs, hl, hK, hcell⟩ := hc i q hq
      have hf := hwf q (List.mem_of_getElem? hq)
      have hcs := k54_open hK
      subst hcs
      have e1 : ((q.f1.toNat : Nat) : Int) = q.f1 := by omega
      refine ⟨hcell 0 _ rfl, ?_⟩
      have := hcell 1 _ rfl
      simp only [pairP, e1]
      exact this
  · obtain ⟨q, hq, rfl⟩ := List.mem_map.1 hp
    have hf := hwf q hq
    refine ⟨hf.1, hf.2.1, ?_⟩
    show q.f1.toNat < _
    omega

/-- Codes that a call lays. -/
theorem flC_of (cs : List (Int × Int)) : ∀ (inner : List Value), inner.length = cs.length * 2 → (∀ i p, (cs.map codeS)[i]? = some p → (inner.drop (i * 2)).take 2 = [.int .i64 p.f0, .int .i64 p.f1]) → inner = CanonH.fl cs := by
  induction cs with
  | nil => intro inner hl _; exact List.length_eq_zero_iff.1 (by simpa using hl)
  | cons a t ih =>
    intro inner hl h
    have h0 := h 0 (codeS a) rfl
    rw [Nat.zero_mul, List.drop_zero] at h0
    have e := List.take_append_drop 2 inner
    rw [h0] at e
    have := ih (inner.drop 2) (by simp at hl ⊢; omega) (fun i p hp => by
      have := h (i + 1) p (by simpa using hp)
      rw [List.drop_drop, show 2 + i * 2 = (i + 1) * 2 by omega]; exact this)
    rw [this] at e
    exact e.symm
theorem ownC_of_R {e : TypeId} {w : World} {base : Nat} {ok : Nat → Prop} {v : Value} {cs : List (Int × Int)} (h : Kd.R k69 e w base ok v (cs.map codeS)) : OwnK w e 2 v cs.length (CanonH.fl cs) ∧ ∀ g, v.ownBlock = some g → base ≤ g := by
  obtain ⟨_, inner, ho, hl, hr⟩ := h
  rw [List.length_map] at hl ho
  have e1 : inner = CanonH.fl cs := flC_of cs inner hl (fun i p hp => k69_openM (hr i p hp))
  rw [e1] at ho
  refine ⟨⟨ho.1, ?_⟩, fun g hg => ?_⟩
  · rcases ho.2 with hn | ⟨g, cap, cur, rfl, hb, r⟩
    · exact .inl hn
    · exact .inr ⟨g, cap, cur, rfl, Nat.zero_le _, r⟩
  · rcases ho.2 with ⟨rfl, _⟩ | ⟨g', cap, cur, rfl, hb, r⟩
    · simp [Value.ownBlock] at hg
    · simp [Value.ownBlock] at hg; rw [← hg]; exact hb
end Go.Proofs.Ytnakjencodicmaa.PA

-- ---- PAx26

namespace Go.Proofs.Ytnakjencodicmaa.PA
open Go.RowKit Go.Proofs.YtnakjencodicmaaW.PrintWords Go.Proofs.YtnakjencodicmaaW.PrintLast Go.Proofs.YtnakjencodicmaaW.PrintMore
attribute [local go_sem] max2_int min2_int max_two min_two max_three min_three max_four min_four   -- for this text's walks alone
set_option linter.unusedVariables false
set_option linter.unusedSimpArgs false

/-! ### wringerref1_MayPart: function 28 -/
def wringerref1_MayPart.j0 : Nat → Bool → Int → Int → Option (Bool)
  | 0, _, _, _ => none
  | k + 1, x10, x159000, x159001 => if x10 = true then (some false) else (if x159000 < 2 then (some (x159001 == 0)) else (if 0 ≤ (wrap64 (x159000 - 1)) then (some ((shr .u64 x159001 (wrap64 (x159000 - 1))) == 0)) else (none)))
def wringerref1_MayPart.f (k : Nat) (a0_0 : Int) (a0_1 : Int) : Option (Bool) := if a0_0 < 0 then (wringerref1_MayPart.j0 k true a0_0 a0_1) else (wringerref1_MayPart.j0 k (decide (a0_0 > 64)) a0_0 a0_1)
theorem wringerref1_MayPart.mono_l : ∀ k, (∀ y0 y1 y2, LeO (wringerref1_MayPart.j0 k y0 y1 y2) (wringerref1_MayPart.j0 (k + 1) y0 y1 y2))
  | 0 => fun _ _ _ r h => by simp [wringerref1_MayPart.j0] at h
  | k + 1 => by
    have ih0 := wringerref1_MayPart.mono_l k
    · intro y0 y1 y2
      unfold wringerref1_MayPart.j0
      repeat' first
      | (with_reducible exact ih0 _ _ _)
      | (with_reducible exact LeO.refl _)
      | (with_reducible exact LeO.none _)
      | (with_reducible refine LeO.ite ?_ ?_)
      | (with_reducible refine LeO.bind ?_ (fun _ => ?_))
      | exact ih0 _ _ _
      | exact LeO.none _
      | refine LeO.ite ?_ ?_
      | refine LeO.bind ?_ (fun _ => ?_)
theorem wringerref1_MayPart.mono : ∀ a0 a1 k, LeO (wringerref1_MayPart.f k a0 a1) (wringerref1_MayPart.f (k + 1) a0 a1) := by
  intro a0 a1 k
  have ih0 := wringerref1_MayPart.mono_l k
  unfold wringerref1_MayPart.f
  repeat' first
      | (with_reducible exact ih0 _ _ _)
      | (with_reducible exact LeO.refl _)
      | (with_reducible exact LeO.none _)
      | (with_reducible refine LeO.ite ?_ ?_)
      | (with_reducible refine LeO.bind ?_ (fun _ => ?_))
      | exact ih0 _ _ _
      | exact LeO.none _
      | refine LeO.ite ?_ ?_
      | refine LeO.bind ?_ (fun _ => ?_)
set_option maxHeartbeats 8000000 in
set_option maxRecDepth 100000 in
theorem wringerref1_MayPart.calls (k : Nat) (a0_0 : Int) (a0_1 : Int) (r : Bool) (w : World) (h : wringerref1_MayPart.f k a0_0 a0_1 = some r) :
    Calls Try.prog 28 #[.agg #[.int .i64 a0_0, .int .u64 a0_1]] w fun e w' => e = .returned (.bool r) ∧ Below w.heap.size w w' := by
  have hu54 := Try.underlying54
  have HB := Aside0.mk (Below.refl w.heap.size w)
  have H : (if a0_0 < 0 then (wringerref1_MayPart.j0 k true a0_0 a0_1) else (wringerref1_MayPart.j0 k (decide (a0_0 > 64)) a0_0 a0_1)) = some r := h
  clear h
  have HC2 := Aside0.mk H
  clear H
  go_enter Try.func28, Try.ntmps28
  go_upto_region 1 with (first | ((with_reducible refine gate_dst (N := 1) rfl ?_); refine box_event ?hg (N := 1) ?hd (cs := #[.int .i64 a0_0, .int .u64 a0_1]) (t := 54) ?hr ?_; (case hd => rfl); (case hg => rfl); (case hr => first | (go_simp; done) | (go_simp; rfl)); intro gb158 hg w3 hbox hb; have n0_ := Aside0.mk (below_step (by repeat (first | (with_reducible first | exact HB.out | apply below_alloc | apply pw_below_drewN | apply below_drew1) | exact HB.out)) hb); have n1_ := Aside0.mk (hbox); have n2_ := Aside0.mk ((by rw [hg]; exact (below_size (by repeat (first | (with_reducible first | exact HB.out | apply below_alloc | apply pw_below_drewN | apply below_drew1) | exact HB.out))) : w.heap.size ≤ gb158)); have n3_ := Aside0.mk ((by rw [hg]; exact (below_size (by repeat (first | (with_reducible first | exact HB.out | apply below_alloc | apply pw_below_drewN | apply below_drew1) | exact HB.out))) : w.heap.size ≤ gb158)); clear HB; have HB := n0_; have BK158 := n1_; have GW158 := n2_; have GE158 := n3_; clear n0_ n1_ n2_ n3_; clear hb hbox hg))
  (try simp only [Act.put, List.setIfInBounds_toArray, List.set_cons_zero, List.set_cons_succ])
  go_cut [10] (fun v10 wc => ∃ (kq : Nat) (x10_1 : Bool), v10 = .bool x10_1 ∧ Aside0 (wringerref1_MayPart.j0 kq x10_1 a0_0 a0_1 = some r) ∧ Aside0 (kq ≤ k) ∧ Aside0 (wc.heap[gb158]? = some (.cells #[.int .i64 a0_0, .int .u64 a0_1] 54 (0, 0))) ∧ Aside0 (Below w.heap.size w wc))
  case first =>
    have H := HC2.out
    clear HC2
    by_cases c4 : a0_0 < 0
    · rw [if_pos c4] at H
      have c4b0 : decide (a0_0 < 0) = true := decide_eq_true c4
      clear c4
      (first | rw [c4b0] | (simp only [i64_w, i32_w]; rw [c4b0]) | skip)
      have H' := Aside0.mk H
      clear H
      have hcz5_0 : w3.cell? ⟨gb158, 0, none⟩ = some (.int .i64 a0_0) := (blk_cell BK158.out 0).trans rfl
      have hcz5_1 : w3.cell? ⟨gb158, 1, none⟩ = some (.int .u64 a0_1) := (blk_cell BK158.out 1).trans rfl
      have hfz5_0 := blk_frozen BK158.out 0
      have hfz5_1 := blk_frozen BK158.out 1
      go_wp2
      go_meet
      case rel => exact ⟨_, (true), (by first | rfl | (simp; done) | (simp [*]; done)), H', ⟨by first | omega | exact Nat.le_refl _⟩, ⟨by (with_reducible repeat (first | refine blk_drewN ?_ _ | refine blk_drew ?_ | refine blk_alloc ?_ _)); exact BK158.out⟩, ⟨by repeat (first | (with_reducible first | exact HB.out | apply below_alloc | apply pw_below_drewN | apply below_drew1 | refine below_set ?_ GE158.out) | exact HB.out)⟩⟩
    · rw [if_neg c4] at H
      have c4b0 : decide (a0_0 < 0) = false := decide_eq_false c4
      clear c4
      (first | rw [c4b0] | (simp only [i64_w, i32_w]; rw [c4b0]) | skip)
      have H' := Aside0.mk H
      clear H
      have hcz6_0 : w3.cell? ⟨gb158, 0, none⟩ = some (.int .i64 a0_0) := (blk_cell BK158.out 0).trans rfl
      have hcz6_1 : w3.cell? ⟨gb158, 1, none⟩ = some (.int .u64 a0_1) := (blk_cell BK158.out 1).trans rfl
      have hfz6_0 := blk_frozen BK158.out 0
      have hfz6_1 := blk_frozen BK158.out 1
      go_wp2
      go_meet
      case rel => exact ⟨_, (decide (a0_0 > 64)), (by first | rfl | (simp; done) | (simp [*]; done)), H', ⟨by first | omega | exact Nat.le_refl _⟩, ⟨by (with_reducible repeat (first | refine blk_drewN ?_ _ | refine blk_drew ?_ | refine blk_alloc ?_ _)); exact BK158.out⟩, ⟨by repeat (first | (with_reducible first | exact HB.out | apply below_alloc | apply pw_below_drewN | apply below_drew1 | refine below_set ?_ GE158.out) | exact HB.out)⟩⟩
  case rest =>
    clear HC2
    try clear c2
    try clear p2
    try clear c4
    try clear c4b0
    try clear hcz5_0
    try clear hcz5_1
    try clear hcz6_0
    try clear hcz6_1
    try clear hfz5_0
    try clear hfz5_1
    try clear hfz6_0
    try clear hfz6_1
    obtain ⟨kq, x10_1, rfl, HA, HJ1, BK158, HB⟩ := hcut
    cases kq with
    | zero => exact absurd HA.out (by simp [wringerref1_MayPart.j0])
    | succ kj1 =>
      have H := HA.out
      clear HA
      simp only [wringerref1_MayPart.j0] at H
      by_cases c7 : x10_1 = true
      · subst c7
        have H1 : (some false) = some r := by rw [if_pos rfl] at H; exact H
        clear H
        have H := H1
        clear H1
        obtain rfl := Option.some.inj H
        go_wp2
        go_ret
        exact ⟨by first | rfl | (simp [errW_none, errW_some] <;> rfl) | (simp [*, errW_none, errW_some] <;> rfl), by repeat (first | (with_reducible first | exact HB.out | apply below_alloc | apply pw_below_drewN | apply below_drew1 | refine below_set ?_ GE158.out) | exact HB.out)⟩
      · replace c7 := Bool.eq_false_iff.mpr c7
        subst c7
        have H1 : (if a0_0 < 2 then (some (a0_1 == 0)) else (if 0 ≤ (wrap64 (a0_0 - 1)) then (some ((shr .u64 a0_1 (wrap64 (a0_0 - 1))) == 0)) else (none))) = some r := by rw [if_neg (show ¬ (false = true) by decide)] at H; exact H
        clear H
        have H := H1
        clear H1
        by_cases c8 : a0_0 < 2
        · rw [if_pos c8] at H
          have c8b0 : decide (a0_0 < 2) = true := decide_eq_true c8
          clear c8
          obtain rfl := Option.some.inj H
          have hcz9_0 : wc.cell? ⟨gb158, 0, none⟩ = some (.int .i64 a0_0) := (blk_cell BK158.out 0).trans rfl
          have hcz9_1 : wc.cell? ⟨gb158, 1, none⟩ = some (.int .u64 a0_1) := (blk_cell BK158.out 1).trans rfl
          have hfz9_0 := blk_frozen BK158.out 0
          have hfz9_1 := blk_frozen BK158.out 1
          go_wp2
          go_ret
          exact ⟨by first | rfl | (simp [errW_none, errW_some] <;> rfl) | (simp [*, errW_none, errW_some] <;> rfl), by repeat (first | (with_reducible first | exact HB.out | apply below_alloc | apply pw_below_drewN | apply below_drew1 | refine below_set ?_ GE158.out) | exact HB.out)⟩
        · rw [if_neg c8] at H
          have c8b0 : decide (a0_0 < 2) = false := decide_eq_false c8
          clear c8
          obtain ⟨ji10, hji10⟩ : ∃ j_ : Int, (wrap64 (a0_0 - 1)) = j_ := ⟨_, rfl⟩
          replace H : (if 0 ≤ (ji10) then (some ((shr .u64 a0_1 (ji10)) == 0)) else (none)) = some r := by first | (rw [hji10] at H; exact H) | (simp only [hji10] at H ⊢; exact H)
          have hji10w : (IntKind.i64.wrap (a0_0 - 1)) = ji10 := (i64_w _).trans hji10
          by_cases c11 : 0 ≤ (ji10)
          · rw [if_pos c11] at H
            have c11b0 := eq_true c11
            have c11b1 : decide (0 ≤ (ji10)) = true := decide_eq_true c11
            clear c11
            obtain ⟨ji12, hji12⟩ : ∃ j_ : Int, (shr .u64 a0_1 (ji10)) = j_ := ⟨_, rfl⟩
            replace H : (some ((ji12) == 0)) = some r := by first | (rw [hji12] at H; exact H) | (simp only [hji12] at H ⊢; exact H)
            have hji12_ : (a0_1 / 2 ^ min (ji10).toNat 64) = ji12 := hji12
            have hji12z : (ji10) ≤ 64 → (a0_1 / 2 ^ (ji10).toNat) = ji12 := shr_small hji12
            obtain rfl := Option.some.inj H
            have hcz13_0 : wc.cell? ⟨gb158, 0, none⟩ = some (.int .i64 a0_0) := (blk_cell BK158.out 0).trans rfl
            have hcz13_1 : wc.cell? ⟨gb158, 1, none⟩ = some (.int .u64 a0_1) := (blk_cell BK158.out 1).trans rfl
            have hfz13_0 := blk_frozen BK158.out 0
            have hfz13_1 := blk_frozen BK158.out 1
            go_wp2
            go_ret
            exact ⟨by first | rfl | (simp [errW_none, errW_some] <;> rfl) | (simp only [← hji10, ← hji12]; first | rfl | (simp [errW_none, errW_some] <;> rfl)) | (simp [*, errW_none, errW_some] <;> rfl), by repeat (first | (with_reducible first | exact HB.out | apply below_alloc | apply pw_below_drewN | apply below_drew1 | refine below_set ?_ GE158.out) | exact HB.out)⟩
          · rw [if_neg c11] at H
            exact absurd H (by simp)

end Go.Proofs.Ytnakjencodicmaa.PA

-- ---- Ump
/- The document's test of a part: what the print's function comes to. No program in sight. -/
namespace Go.Proofs.Ytnakjencodicmaa.PA
set_option maxRecDepth 100000
set_option linter.unusedVariables false
set_option linter.unusedSimpArgs false
open Go.RowKit Go.Proofs.YtnakjencodicmaaW.PrintWords Go.Proofs.YtnakjencodicmaaW.PrintLast Go.Proofs.YtnakjencodicmaaW.PrintMore
open Zig

theorem shr_u64 (x k : Nat) (hx : x < 18446744073709551616) (hk : k ≤ 64) : shr .u64 (x : Int) (k : Int) = ((x / 2 ^ k : Nat) : Int) := by
  unfold shr
  have e : min ((k : Int).toNat) (IntKind.bits .u64) = k := by simp [IntKind.bits]; omega
  rw [e]
  have e2 : (x : Int) / 2 ^ k = ((x / 2 ^ k : Nat) : Int) := by simp
  first | exact e2 | (rw [e2])
theorem wringerref1_MayPart.is (c : Int) (r : Nat) (h0 : -9223372036854775808 ≤ c) (h1 : c ≤ 9223372036854775807) (hr : r < 18446744073709551616) : Ev (fun k => wringerref1_MayPart.f k c (r : Int)) (may c r) := by
  unfold wringerref1_MayPart.f
  have bad : may c r = false → Ev (fun k => wringerref1_MayPart.j0 k true c (r : Int)) (may c r) := fun hm =>
    Ev.step (f := fun _ => some false) (fun k => by simp [wringerref1_MayPart.j0]) (Ev.ofSome hm.symm)
  by_cases hc : c < 0
  · exact Ev.ite_pos hc (bad (by unfold may; simp; omega))
  · refine Ev.ite_neg hc ?_
    by_cases hc2 : c > 64
    · rw [show decide (c > 64) = true from decide_eq_true hc2]; exact bad (by unfold may; simp; omega)
    · rw [show decide (c > 64) = false from decide_eq_false hc2]
      obtain ⟨n, rfl⟩ := Int.eq_ofNat_of_zero_le (show 0 ≤ c by omega)
      by_cases hn : (n : Int) < 2
      · refine Ev.step (f := fun _ => some ((r : Int) == 0)) (fun k => by simp only [wringerref1_MayPart.j0, Bool.false_eq_true, if_false]; rw [if_pos hn]) (Ev.ofSome ?_)
        rcases (show n = 0 ∨ n = 1 by omega) with rfl | rfl
        · unfold may; rw [if_pos (by omega)]; rw [Bool.eq_iff_iff]; simp
        · rw [may_top 1 r (by omega) (by omega), Bool.eq_iff_iff]; simp
      · have ew : wrap64 ((n : Int) - 1) = ((n - 1 : Nat) : Int) := by rw [w64 (by omega) (by omega)]; omega
        refine Ev.step (f := fun _ => some (((r / 2 ^ (n - 1) : Nat) : Int) == 0)) (fun k => by simp only [wringerref1_MayPart.j0, Bool.false_eq_true, if_false]; rw [if_neg hn, ew, if_pos (by omega), shr_u64 _ _ hr (by omega)]) (Ev.ofSome ?_)
        have hp : 0 < 2 ^ (n - 1) := Nat.pow_pos (by decide)
        rw [may_top n r (by omega) (by omega), Bool.eq_iff_iff, beq_iff_eq, decide_eq_true_eq]
        generalize 2 ^ (n - 1) = P at *
        constructor
        · intro h; exact (Nat.div_eq_zero_iff.1 (by omega)).resolve_left (by omega)
        · intro h; rw [Nat.div_eq_of_lt h]; rfl
end Go.Proofs.Ytnakjencodicmaa.PA

-- ---- Rr
/- wringerref1's Row: the text of its bits. -/
namespace Go.Proofs.Ytnakjencodicmaa
set_option maxRecDepth 100000
set_option linter.unusedSimpArgs false
set_option linter.unusedVariables false
open Go.RowKit Mix _root_.Go.Proofs.Ytnakjencodicmaa.Own Bits
attribute [local go_sem] max_int min_int

theorem or_bit (x k : Nat) (b : Bool) (hx : x < 256) (hk : k < 8) : bits .or .u8 (x : Int) ((b.toNat : Int) * 2 ^ k % 256) = ((x ||| b.toNat * 2 ^ k : Nat) : Int) := by
  have hp : 2 ^ k ≤ 128 ∧ (2 : Int) ^ k ≤ 128 ∧ 0 < (2 : Int) ^ k := by
    rcases (show k = 0 ∨ k = 1 ∨ k = 2 ∨ k = 3 ∨ k = 4 ∨ k = 5 ∨ k = 6 ∨ k = 7 by omega) with h | h | h | h | h | h | h | h <;> subst h <;> decide
  have e : (b.toNat : Int) * 2 ^ k % 256 = ((b.toNat * 2 ^ k : Nat) : Int) := by
    cases b
    · simp
    · simp; omega
  rw [e, u8_or_nat x _ hx (by cases b <;> simp <;> omega)]

theorem take_snoc (l : List Bool) (k : Nat) (h : k < l.length) : l.take (k + 1) = l.take k ++ [l.getD k false] := by
  rw [List.take_add_one, List.getD_eq_getElem?_getD, List.getElem?_eq_getElem h]; rfl

set_option maxHeartbeats 4000000 in
theorem rbytes_calls (p : Nat) (v : Value) (l : List Bool) (w : World) (hW : IsR w p v l) (hl : l.length < 1000000000000) :
    Calls Try.prog 31 #[.pointer (some ⟨p, 0, none⟩)] w fun e w' => e = .returned (.string (textOf (pack l))) ∧ Below w.heap.size w w' := by
  obtain ⟨i0, hi, hz0, hz1, hz2⟩ := info_parts infoU8
  obtain ⟨a, cap, rfl, hne⟩ := hW.row.slice
  obtain ⟨n, hn⟩ : ∃ n, n = l.length := ⟨_, rfl⟩
  rw [length_u8s, length_bits01, ← hn] at hW
  rw [← hn] at hl
  have hcp : w.cell? ⟨p, 0, none⟩ = some (.slice a n cap) := hW.blk.cell rfl
  obtain ⟨M, hM⟩ : ∃ M, M = (n + 7) / 8 := ⟨_, rfl⟩
  have hMn : n ≤ 8 * M := by omega
  have hM2 : M ≤ n := by omega
  obtain ⟨G, hG⟩ : ∃ G, G = w.heap.size := ⟨_, rfl⟩
  have HW := kept hW
  have HN := kept hn
  have HM := kept hM
  have HG := kept hG
  clear hW hn hG hM
  rw [← HG.out]
  obtain ⟨T, hT⟩ : ∃ T, T = textOf (pack l) := ⟨_, rfl⟩
  rw [← hT]
  have HT := kept hT
  clear hT
  go_enter Try.func31, Try.ntmps31
  go_wp2_with (first | (refine wpList_mk1 rfl _ _ 48 rfl 5 i0 (.int .u8 0) 1 Try.underlying48 hi hz0 hz1 hz2 rfl .i64 .i64 _ _ M rfl rfl ?c1 ?c2 ?c3 ?c4 ?_))
  case c1 => have := HM.out; omega
  case c2 => have := HM.out; omega
  case c3 => omega
  case c4 => simp [maxLen]; omega
  rw [← HG.out]
  intro w1 O1 hb1 hlt1
  have HW1 : Kept (IsR w1 p (.slice a n cap) l) := kept (HW.out.keep (Chg.of_below (S := fun _ => False) (by rw [HG.out] at hb1; exact hb1)) id (fun _ _ => id))
  have HO1 : Kept (Owns w1 5 (.slice (some ⟨G, 0, none⟩) M M) (u8s (packN (l.take 0) M))) := kept (by rw [List.take_zero, packN_zero]; simpa [u8s] using O1)
  have HB1 := kept hb1
  have hGl : p < G := by rw [HG.out]; exact HW.out.blk.lt
  clear O1 hb1 hlt1
  go_wp2_with fail
  go_loopw [4] (fun s4 wr => ∃ k : Nat, k ≤ n ∧ s4 = .int .i64 (k : Int) ∧ IsR wr p (.slice a n cap) l ∧ Owns wr 5 (.slice (some ⟨G, 0, none⟩) M M) (u8s (packN (l.take k) M)) ∧ Below G w wr)
    (fun s4 _ => n - (intOf s4).toNat)
  case atStart => exact ⟨0, Nat.zero_le _, rfl, HW1.out, HO1.out, HB1.out⟩
  case round =>
    obtain ⟨k, hk, rfl, hR, hO, hb⟩ := hrel
    have c0 : wr.cell? ⟨p, 0, none⟩ = some (.slice a n cap) := hR.blk.cell rfl
    by_cases hlt : k < n
    · have hlt2 : k < l.length := by rw [← HN.out]; exact hlt
      obtain ⟨h, rfl⟩ := hne (by intro e; have := congrArg List.length e; simp at this; rw [this] at hlt2; simp at hlt2)
      obtain ⟨b, hbb⟩ : ∃ b, b = l.getD k false := ⟨_, rfl⟩
      have c1 : wr.cell? ⟨h, k, none⟩ = some (.int .u8 (b.toNat : Int)) := hR.row.cell (by simp [u8s, bits01, hbb, List.getD_eq_getElem?_getD, hlt2])
      obtain ⟨x, hx⟩ : ∃ x, x = byteAt (l.take k) (k / 8) := ⟨_, rfl⟩
      have hx8 : x < 256 := by rw [hx]; exact byteAt_lt _ _
      have hk8 : k / 8 < M := by omega
      have c2 : wr.cell? ⟨G, k / 8, none⟩ = some (.int .u8 (x : Int)) := hO.cell (by simp [u8s, getElem?_packN _ _ _ hk8, hx])
      have f2 : wr.frozen? ⟨G, k / 8, none⟩ = false := hO.free _
      have l0 := lat_cell c0
      have l1 := lat_cell c1
      have l2 := lat_cell c2
      have HR := kept hR
      have HO := kept hO
      have HBr := kept hb
      have HX := kept hx
      have HBB := kept hbb
      clear hR hO hb hx hbb HW1 HO1 HB1
      go_wp2_with fail
      refine wp_region_mixL [] [0,1,2,3,4,5,6,7,8,9,10,11,12,13,14,15,16] [17] (by kernel_rfl) (by kernel_rfl) ?_
      intro K hK
      simp only [pick, List.filterMap_cons, List.filterMap_nil, List.getElem?_cons_zero, List.getElem?_cons_succ]
      refine wpQuiet_nil ?_
      repeat (show wpQuiet _ _ _ _ (_ :: _) _; go_big_quiet_step (fail))
      refine wpQuiet_nil ?_
      show wpList _ _ _ (_ :: _) _ _
      go_wp2_with fail
      refine hK _ _ ?_
      rw [or_bit x (k % 8) b hx8 (by omega)]
      generalize hw2 : World.drew (World.setCell wr _ _) = w2
      have hpG : p ≠ G := by omega
      have hhG : h < G := by rw [HG.out]; exact HW.out.row.lt h rfl
      have hR2 : IsR w2 p (.slice (some ⟨h, 0, none⟩) n cap) l := by
        rw [← hw2]
        exact ⟨HR.out.blk.setOther (a := ⟨G, k / 8, none⟩) hpG _, HR.out.row.setOther (a := ⟨G, k / 8, none⟩) (by simp [Value.ownBlock]; omega) _⟩
      have hO2 : Owns w2 5 (.slice (some ⟨G, 0, none⟩) M M) (u8s (packN (l.take (k + 1)) M)) := by
        rw [← hw2, take_snoc l k hlt2, packN_snoc, u8s_set, List.length_take, Nat.min_eq_left (by omega), ← HX.out, ← HBB.out]
        exact HO.out.store _ _
      have hB2 : Below G w w2 := by
        rw [← hw2]
        exact (HBr.out.setCell (p := ⟨G, k / 8, none⟩) (Nat.le_refl _) _).drew
      have X1 := kept hR2
      have X2 := kept hO2
      have X3 := kept hB2
      clear hR2 hO2 hB2 hw2 l0 l1 l2 c0 c1 c2 f2
      go_wp2_with fail
      go_roundw
      case rel => exact ⟨k + 1, by omega, by go_num, X1.out, X2.out, X3.out⟩
      case measure => simp [intOf]; omega
    · have hkn : k = n := by omega
      subst hkn
      have hcv := conv_string hO
      rw [List.take_of_length_le (by rw [HN.out]; exact Nat.le_refl _)] at hcv
      have e : packN l M = pack l := by rw [pack, HM.out, HN.out]
      rw [e] at hcv
      rw [← HT.out] at hcv
      have HBr := kept hb
      clear e hb hO hR
      go_wp2_with fail
      go_ret
      exact ⟨rfl, HBr.out⟩
end Go.Proofs.Ytnakjencodicmaa

-- ---- Nr
/- A Row of the call's own. -/
namespace Go.Proofs.Ytnakjencodicmaa
set_option maxRecDepth 100000
set_option linter.unusedSimpArgs false
set_option linter.unusedVariables false
open Go.RowKit Mix _root_.Go.Proofs.Ytnakjencodicmaa.Own Bits

/-- A Row of the call's own, all of its memory from block B on. -/
structure NewR (B : Nat) (w : World) (p : Nat) (v : Value) (l : List Bool) : Prop where
  is : IsR w p v l
  at_ : B ≤ p
  row : ∀ g, v.ownBlock = some g → B ≤ g
theorem NewR.later {B : Nat} {w w' : World} {p : Nat} {v : Value} {l : List Bool} (h : NewR B w p v l) (hc : Below w.heap.size w w') : NewR B w' p v l :=
  ⟨h.is.keep (Chg.of_below (S := fun _ => False) hc) id (fun _ _ => id), h.at_, h.row⟩
end Go.Proofs.Ytnakjencodicmaa

-- ---- Jl
/- wringerref7.PutHuff: the bytes of parts: what the call answers. Conditions: those that each theorem names. -/
namespace Go.Proofs.Ytnakjencodicmaa
set_option maxRecDepth 100000
set_option linter.unusedSimpArgs false
set_option linter.unusedVariables false
open Go.RowKit Go.Proofs.YtnakjencodicmaaW.PrintWords Go.Proofs.YtnakjencodicmaaW.PrintLast Go.Proofs.YtnakjencodicmaaW.PrintMore PA Mix _root_.Go.Proofs.Ytnakjencodicmaa.Own Bits Hu Dp
attribute [local go_sem] max_int min_int

theorem NewR.apart {B : Nat} {w : World} {p : Nat} {v : Value} {l : List Bool} (h : NewR B w p v l) {g : Nat} {cs : Array Value} {t : TypeId} (hb : Blk w g cs t) (h1 : t ≠ 77) (h2 : (5 : TypeId) ≠ t) : ¬ (g = p ∨ some g = v.ownBlock) := by
  rintro (hh | hh)
  · exact Blk.ne hb h.is.blk h1 hh
  · exact h.is.row.ne hb h2 hh.symm
theorem rput_chg (B p : Nat) (v : Value) (l : List Bool) (x : Nat) (n : Int) (w : World) (hB : B ≤ w.heap.size) (hW : NewR B w p v l) (hl : l.length < 1000000000000) (hx : x < 18446744073709551616) (hn0 : -9223372036854775808 ≤ n) (hn1 : n ≤ 9223372036854775807) :
    Calls Try.prog 29 #[.pointer (some ⟨p, 0, none⟩), .int .u64 (x : Int), .int .i64 n] w fun e w' => e = .returned (.tuple #[]) ∧ ∃ v', NewR B w' p v' (l ++ bitsOf x (clamp n)) ∧ Below B w w' ∧ Chg (fun k => k = p ∨ some k = v.ownBlock) w w' :=
  (rput_calls p v l x n w hW.is hl hx hn0 hn1).mono fun e w' ⟨he, v', h1, h2, h3⟩ => ⟨he, v', ⟨h1, hW.at_, fun g hg => by
      rcases h3 g hg with h | h
      · exact hW.row g h.symm
      · omega⟩, h2.below hB (fun k hk h => by
      rcases h with h | h
      · have := hW.at_; omega
      · have := hW.row k h.symm; omega), h2⟩

set_option maxHeartbeats 2000000 in
/-- One part's rest. -/
theorem rrest_calls (B p : Nat) (v : Value) (l : List Bool) (c r : Nat) (w : World) (hB : B ≤ w.heap.size) (hW : NewR B w p v l) (hl : l.length < 1000000000000) (hx : r < 18446744073709551616) (hc : c ≤ 64) :
    Calls Try.prog 30 #[.pointer (some ⟨p, 0, none⟩), .agg #[.int .i64 (c : Int), .int .u64 (r : Int)]] w fun e w' => e = .returned (.tuple #[]) ∧ ∃ v', NewR B w' p v' (l ++ bitsOf r (c - 1)) ∧ Below B w w' ∧ Chg (fun k => k = p ∨ some k = v.ownBlock) w w' := by
  have emx : Own.mx 0 ((c : Int) - 1) = ((c - 1 : Nat) : Int) := by rw [Own.mx_eq]; omega
  have ecl : clamp ((c - 1 : Nat) : Int) = c - 1 := by unfold clamp; omega
  have HW := kept hW
  have HL := kept hl
  have HBs := kept hB
  have ECl := kept ecl
  clear hW hl hB ecl
  go_enter Try.func30, Try.ntmps30
  go_wp2_with fail
  generalize hw1 : World.alloc w _ = w1
  have hal : Below w.heap.size w w1 := by rw [← hw1]; exact (Below.refl _ _).alloc (Nat.le_refl _) _
  have HB1 := kept (hal.mono HBs.out)
  have HC1 := kept (Chg.of_below (S := fun k => k = p ∨ some k = v.ownBlock) hal)
  have hP := kept (rput_chg B p v l r ((c - 1 : Nat) : Int) w1 (Nat.le_trans HBs.out hal.size) (HW.out.later hal) HL.out hx (by omega) (by omega))
  rw [ECl.out] at hP
  clear hw1 hal
  refine hP.out.mono ?_
  rintro e w2 ⟨rfl, v2, hW2, hb2, hc2⟩
  have HW2 := kept hW2
  have HB2 := kept (HB1.out.trans hb2)
  have HC2 := kept (HC1.out.trans hc2 (fun _ _ h => h))
  clear hW2 hb2 hc2
  go_wp2_with fail
  go_end0
  exact ⟨rfl, v2, HW2.out, HB2.out, HC2.out⟩

set_option maxHeartbeats 2000000 in
theorem rhput_form (A0 : Option Addr) (n0 c0 : Nat) (A1 : Option Addr) (c1 : Nat) (L : List Int) (ps : List (Int × Nat)) (w : World) (hr1 : Kd.C (Kd.int .i64) w A1 L.length L) (hc1 : L.length ≤ c1) (hm : mayL L = false) :
    Calls Try.prog 11 #[.slice A0 n0 c0, .slice A1 L.length c1] w fun e w' => e = .returned (.agg #[.string (putE L ps).1, .int .i64 (putE L ps).2]) ∧ Below w.heap.size w w' := by
  obtain ⟨k, hk⟩ := (rcanon_is L).rounds
  have hce : codesE L = ([], 3) := by unfold codesE; rw [hm]; rfl
  rw [hce] at hk
  have hg : putE L ps = (⟨#[]⟩, 3) := by unfold putE; rw [hm]; rfl
  rw [hg]
  have HC := kept (fun wx (hC : Kd.C (Kd.int .i64) wx A1 L.length L) => wringerref7_Canon.calls k A1 c1 L [] 3 wx hC hc1 hk)
  have HR := kept hr1
  obtain ⟨l, hl⟩ : ∃ l, l = L.length := ⟨_, rfl⟩
  rw [← hl] at HC HR ⊢
  clear hr1 hc1 hm hg hl hk hce
  go_enter Try.func11, Try.ntmps11
  go_wp2_with fail
  generalize hw1 : World.alloc w _ = w1
  obtain ⟨pt, hpt⟩ : ∃ pt, pt = w.heap.size := ⟨_, rfl⟩
  have hal : Below w.heap.size w w1 := by rw [← hw1]; exact (Below.refl _ _).alloc (Nat.le_refl _) _
  have HT1 : Own.Kept (Blk w1 pt #[.string ⟨#[]⟩, .int .i64 0] 29) := kept (by rw [hpt, ← hw1]; exact Blk.fresh _ _ _)
  have HB1 := kept hal
  have HPt : Own.Kept (w.heap.size ≤ pt) := kept (Nat.le_of_eq hpt.symm)
  rw [← hpt]
  clear hw1 hal hpt
  refine (HC.out w1 (Kd.C_below HR.out HB1.out)).mono ?_
  rintro e w2 ⟨vc, rfl, hrv, hb2⟩
  obtain ⟨av, cv, rfl⟩ := Kd.R_slice hrv
  have HT2 : Own.Kept (Blk w2 pt #[.string ⟨#[]⟩, .int .i64 0] 29) := kept ((hb2.block pt (Blk.lt HT1.out)).trans HT1.out)
  have HB2 := kept (HB1.out.trans (hb2.mono HB1.out.size))
  clear hb2 hrv
  go_upto_region 3 with fail
  generalize hw3 : World.alloc w2 _ = w3
  have hal : Below w2.heap.size w2 w3 := by rw [← hw3]; exact (Below.refl _ _).alloc (Nat.le_refl _) _
  have HT3 : Own.Kept (Blk w3 pt #[.string ⟨#[]⟩, .int .i64 0] 29) := kept ((hal.block pt (Blk.lt HT2.out)).trans HT2.out)
  have HB3 := kept (HB2.out.trans (hal.mono HB2.out.size))
  have c0 : w3.cell? ⟨pt, 0, none⟩ = some (.string ⟨#[]⟩) := Blk.cell HT3.out rfl
  have c1 : w3.cell? ⟨pt, 1, none⟩ = some (.int .i64 0) := Blk.cell HT3.out rfl
  have f0 : w3.frozen? ⟨pt, 0, none⟩ = false := Blk.free HT3.out 0
  have f1 : w3.frozen? ⟨pt, 1, none⟩ = false := Blk.free HT3.out 1
  clear hw3 hal
  go_wp2_with fail
  generalize hwz : World.setCell _ _ _ = wz
  have hBz : Blk wz pt #[.string ⟨#[]⟩, .int .i64 3] 29 := by
    rw [← hwz]
    have h := (HT3.out.set 0 (.string ⟨#[]⟩)).set 1 (.int .i64 3)
    simpa using h
  have hCz : Below w.heap.size w wz := by
    rw [← hwz]
    exact (HB3.out.setCell (p := ⟨pt, 0, none⟩) HPt.out _).setCell (p := ⟨pt, 1, none⟩) HPt.out _
  have z0 : wz.cell? ⟨pt, 0, none⟩ = some (.string ⟨#[]⟩) := Blk.cell hBz rfl
  have z1 : wz.cell? ⟨pt, 1, none⟩ = some (.int .i64 3) := Blk.cell hBz rfl
  refine bodyPost_ret (v := .agg #[.string ⟨#[]⟩, .int .i64 3]) (by simp [results, Try.results11, go_sem, z0, z1]) rfl ?_
  exact ⟨rfl, hCz⟩

/-- On the way: the answer's cell at pt, the codes' at pk, the row at pr. -/
structure StP (B : Nat) (w wr : World) (pt pk pr gc cc : Nat) (v : Value) (bs : List Bool) (L : List Int) : Prop where
  row : NewR B wr pr v bs
  txt : Blk wr pt #[.string ⟨#[]⟩, .int .i64 0] 29
  cds : Blk wr pk #[.slice (some ⟨gc, 0, none⟩) 65 cc, .int .i64 0] 73
  own : OwnK wr 69 2 (.slice (some ⟨gc, 0, none⟩) 65 cc) 65 (CanonH.fl (Cd.codeL L))
  low : Below B w wr
  sz : B ≤ wr.heap.size
theorem StP.later {B : Nat} {w wr w' : World} {pt pk pr gc cc : Nat} {v : Value} {bs : List Bool} {L : List Int} (h : StP B w wr pt pk pr gc cc v bs L) (hb : Below wr.heap.size wr w') : StP B w w' pt pk pr gc cc v bs L :=
  ⟨h.row.later hb, (hb.block pt (Blk.lt h.txt)).trans h.txt, (hb.block pk (Blk.lt h.cds)).trans h.cds, h.own.later hb, h.low.trans (hb.mono h.sz), Nat.le_trans h.sz hb.size⟩
theorem StP.put {B : Nat} {w wr w' : World} {pt pk pr gc cc : Nat} {v v' : Value} {bs bs' : List Bool} {L : List Int} (h : StP B w wr pt pk pr gc cc v bs L) (hr : NewR B w' pr v' bs') (hb : Below B wr w') (hc : Chg (fun k => k = pr ∨ some k = v.ownBlock) wr w') : StP B w w' pt pk pr gc cc v' bs' L :=
  ⟨hr, hc.keep h.txt (h.row.apart h.txt (by decide) (by decide)), hc.keep h.cds (h.row.apart h.cds (by decide) (by decide)), h.own.chg hc (fun g hg => by
    obtain ⟨cur, hcur⟩ := h.own.blk g hg
    exact h.row.apart hcur (by decide) (by decide)), h.low.trans hb, Nat.le_trans h.sz hb.size⟩

set_option maxHeartbeats 16000000 in
theorem rhput_calls (A0 : Option Addr) (n0 c0 : Nat) (A1 : Option Addr) (c1 : Nat) (L : List Int) (ps : List (Int × Nat)) (w : World) (hr0 : RdQ w A0 n0 ps) (hr1 : Kd.C (Kd.int .i64) w A1 L.length L) (hc1 : L.length ≤ c1) (hm : mayL L = true) (hn : n0 ≤ 1000000) :
    Calls Try.prog 11 #[.slice A0 n0 c0, .slice A1 L.length c1] w fun e w' => e = .returned (.agg #[.string (putE L ps).1, .int .i64 (putE L ps).2]) ∧ Below w.heap.size w w' := by
  obtain ⟨k, hk⟩ := (rcanon_is L).rounds
  have hce : codesE L = ((Cd.codeL L).map codeS, 0) := by unfold codesE; rw [if_pos hm]
  rw [hce] at hk
  have HC := kept (fun wx (hC : Kd.C (Kd.int .i64) wx A1 L.length L) => wringerref7_Canon.calls k A1 c1 L _ 0 wx hC hc1 hk)
  have h65 := (Cd.may_range hm).1
  have HM := kept hm
  have hcl : (Cd.codeL L).length = 65 := Cd.length_cst L _
  have HCl := kept hcl
  have HR := kept hr0
  have HRl := kept hr1
  have HLr := kept (Own.rd_of_C hr1)
  have HL65 := kept h65
  rw [h65] at HC HRl HLr ⊢
  obtain ⟨B, hB⟩ : ∃ B, B = w.heap.size := ⟨_, rfl⟩
  have HBe := kept hB
  rw [← hB]
  clear hr0 hr1 hc1 hm h65 hcl hB hk hce
  go_enter Try.func11, Try.ntmps11
  go_wp2_with fail
  generalize hw1 : World.alloc w _ = w1
  obtain ⟨pt, hpt⟩ : ∃ pt, pt = w.heap.size := ⟨_, rfl⟩
  have hal : Below w.heap.size w w1 := by rw [← hw1]; exact (Below.refl _ _).alloc (Nat.le_refl _) _
  have HT1 : Own.Kept (Blk w1 pt #[.string ⟨#[]⟩, .int .i64 0] 29) := kept (by rw [hpt, ← hw1]; exact Blk.fresh _ _ _)
  have HB1 := kept hal
  have HPt : Own.Kept (B ≤ pt) := kept (by rw [HBe.out]; exact Nat.le_of_eq hpt.symm)
  rw [← hpt]
  clear hw1 hal hpt
  refine (HC.out w1 (Kd.C_below HRl.out HB1.out)).mono ?_
  rintro e w2 ⟨vc, rfl, hrv, hb2⟩
  obtain ⟨ho, hnew⟩ := ownC_of_R hrv
  rw [HCl.out] at ho
  obtain ⟨ac, cc, rfl, hac1, hac2, hac3⟩ := ho.slice
  obtain ⟨gc, rfl⟩ := hac3 (by decide)
  have HO2 := kept ho
  have HT2 : Own.Kept (Blk w2 pt #[.string ⟨#[]⟩, .int .i64 0] 29) := kept ((hb2.block pt (Blk.lt HT1.out)).trans HT1.out)
  have HB2 := kept (HB1.out.trans (hb2.mono HB1.out.size))
  clear hb2 hrv ho hnew hac1 hac2 hac3
  go_upto_region 5 with fail
  obtain ⟨pk, hpk⟩ : ∃ pk, pk = w2.heap.size := ⟨_, rfl⟩
  obtain ⟨pr, hpr⟩ : ∃ pr, pr = w2.heap.size + 1 := ⟨_, rfl⟩
  generalize hw3 : World.alloc (World.alloc w2 _) _ = w3
  have hal : Below w2.heap.size w2 w3 := by rw [← hw3]; exact ((Below.refl _ _).alloc (Nat.le_refl _) _).alloc (by simp) _
  have HSt : Own.Kept (StP B w w3 pt pk pr gc cc (.slice none 0 0) [] L) := kept (by
    refine ⟨⟨⟨?_, Owns.nil _ _⟩, ?_, fun g hg => by simp [Value.ownBlock] at hg⟩, (hal.block pt (Blk.lt HT2.out)).trans HT2.out, ?_, HO2.out.later hal, ?_, ?_⟩
    · rw [hpr, ← hw3]; exact Blk.fresh_at _ _ (by simp) _ _
    · have := HB2.out.size; rw [HBe.out]; omega
    · rw [hpk, ← hw3]; exact Blk.alloc (Blk.fresh w2 _ _) _
    · rw [HBe.out]; exact HB2.out.trans (hal.mono HB2.out.size)
    · rw [HBe.out]; exact Nat.le_trans HB2.out.size hal.size)
  rw [← hpr, ← hpk]
  clear hw3 hal hpk hpr HT1 HT2 HB1 HB2 HO2
  go_wp2_with fail
  go_loopw [7] (fun s7 wr => ∃ (i : Nat) (v : Value), i ≤ n0 ∧ s7 = .int .i64 (i : Int) ∧ (∀ p ∈ ps.take i, okP L p = true) ∧ StP B w wr pt pk pr gc cc v (enc L ((ps.take i).map natP)) L) (fun s7 _ => n0 - (intOf s7).toNat)
  case atStart => exact ⟨0, _, Nat.zero_le _, rfl, by simp, by simpa [enc] using HSt.out⟩
  case round =>
    obtain ⟨i, v, hi, rfl, hok, hS⟩ := hrel
    obtain ⟨wq, rfl⟩ : ∃ wq, wq = wr := ⟨wr, rfl⟩
    have HOk := kept hok
    have HS := kept hS
    clear hok hS
    by_cases hlt : i < n0
    · obtain ⟨c, r, hpi⟩ : ∃ c r, ps[i]? = some (c, r) := ⟨_, _, List.getElem?_eq_getElem (by rw [HR.out.len]; exact hlt)⟩
      have hmem : (c, r) ∈ ps := List.mem_of_getElem? hpi
      obtain ⟨w0c, w1c, w2c⟩ := HR.out.wf _ hmem
      obtain ⟨x0, rfl, hcs⟩ := HR.out.at_ (by omega)
      obtain ⟨hc0, hc1⟩ := hcs i (c, r) hpi
      have hx0 : (x0.add (i * 2)).block < B := by rw [HBe.out]; exact World.block_lt_of_cell? w _ hc0
      have hx1 : (x0.add (i * 2 + 1)).block < B := by rw [HBe.out]; exact World.block_lt_of_cell? w _ hc1
      have k0 := (HS.out.low.cell hx0).trans hc0
      have k1 := cellN_next ((HS.out.low.cell hx1).trans hc1)
      have htk : ps.take (i + 1) = ps.take i ++ [(c, r)] := by
        rw [List.take_succ_eq_append_getElem (by rw [HR.out.len]; exact hlt)]
        rw [List.getElem?_eq_getElem (by rw [HR.out.len]; exact hlt)] at hpi
        rw [Option.some.inj hpi]
      have HTk := kept htk
      have HMem := kept hmem
      have HK := kept (And.intro hc0 hc1)
      have HX := kept (And.intro hx0 hx1)
      clear hpi hmem hcs hc0 hc1 htk hx0 hx1
      obtain ⟨km, hkm⟩ := (wringerref1_MayPart.is c r w0c w1c w2c).rounds
      have HMp := kept (wringerref1_MayPart.calls km c (r : Int) (Zig.may c r) wq hkm)
      have hbad : okP L (c, r) = false → putE L ps = (⟨#[]⟩, 1) := fun h => by
        unfold putE
        rw [if_pos HM.out, if_neg]
        intro hall
        have := List.all_eq_true.1 hall _ HMem.out
        rw [h] at this; cases this
      clear hkm
      cases hmay : Zig.may c r with
      | false =>
        rw [hmay] at HMp
        have hpe := hbad (by unfold okP; rw [hmay]; rfl)
        have HPe := kept hpe
        clear hmay hbad hpe
        go_wp2_with fail
        refine HMp.out.mono ?_
        rintro e w4 ⟨rfl, hb4⟩
        have HS4 := kept (HS.out.later hb4)
        have c0 : w4.cell? ⟨pt, 0, none⟩ = some (.string ⟨#[]⟩) := Blk.cell HS4.out.txt rfl
        have c1 : w4.cell? ⟨pt, 1, none⟩ = some (.int .i64 0) := Blk.cell HS4.out.txt rfl
        have f0 : w4.frozen? ⟨pt, 0, none⟩ = false := Blk.free HS4.out.txt 0
        have f1 : w4.frozen? ⟨pt, 1, none⟩ = false := Blk.free HS4.out.txt 1
        clear hb4 k0 k1
        go_wp2_with fail
        generalize hwz : World.setCell _ _ _ = wz
        have hBz : Blk wz pt #[.string ⟨#[]⟩, .int .i64 1] 29 := by
          rw [← hwz]
          have h := (HS4.out.txt.set 0 (.string ⟨#[]⟩)).set 1 (.int .i64 1)
          simpa using h
        have hCz : Below B w wz := by
          rw [← hwz]
          exact (HS4.out.low.setCell (p := ⟨pt, 0, none⟩) HPt.out _).setCell (p := ⟨pt, 1, none⟩) HPt.out _
        have z0 : wz.cell? ⟨pt, 0, none⟩ = some (.string ⟨#[]⟩) := Blk.cell hBz rfl
        have z1 : wz.cell? ⟨pt, 1, none⟩ = some (.int .i64 1) := Blk.cell hBz rfl
        refine bodyPost_ret (v := .agg #[.string ⟨#[]⟩, .int .i64 1]) (by simp [results, Try.results11, go_sem, z0, z1]) rfl ?_
        exact ⟨by rw [HPe.out], hCz⟩
      | true =>
        rw [hmay] at HMp
        have hm2 := hmay
        unfold Zig.may at hm2
        rw [Bool.and_eq_true, decide_eq_true_eq] at hm2
        obtain ⟨⟨hcl0, hcl1⟩, _⟩ := hm2
        obtain ⟨cN, rfl⟩ := Int.eq_ofNat_of_zero_le hcl0
        have hc64 : cN ≤ 64 := by omega
        obtain ⟨cb, cn, hcode, hcb, hcn, hee⟩ : ∃ cb cn : Nat, (Cd.codeL L).getD cN (0, 0) = ((cb : Int), (cn : Int)) ∧ cb < 32768 ∧ cn ≤ 15 ∧ (cb = cdB L cN ∧ cn = cdN L cN) := by
          obtain ⟨a1, a2, a3, a4, _⟩ := cd_all HM.out cN (by omega)
          exact ⟨cdB L cN, cdN L cN, a4, Nat.lt_of_lt_of_le a2 (Nat.pow_le_pow_right (by decide) a1), a1, rfl, rfl⟩
        obtain ⟨f1, f2⟩ := CanonH.fl_at (Cd.codeL L) cN (by rw [HCl.out]; omega)
        have eat : Hp.at_ (Cd.codeL L) cN = ((cb : Int), (cn : Int)) := hcode
        rw [eat] at f1 f2
        have hget : L.getD cN 0 = (cn : Int) := by rw [hee.2]; exact (cd_all HM.out cN (by omega)).2.2.1
        obtain ⟨x1, rfl, hlc⟩ := HLr.out.at (Own.ints_at .i64 L cN (by rw [HL65.out]; omega))
        rw [hget] at hlc
        have hx2 : (x1.add cN).block < B := by rw [HBe.out]; exact World.block_lt_of_cell? w _ hlc
        have HLc := kept (And.intro hlc hx2)
        have HF1 := kept f1
        have HF2 := kept f2
        have HEe := kept hee
        have HMay := kept hmay
        have HGet := kept hget
        clear f1 f2 eat hcode hee hmay hcl0 hcl1 w0c w1c hget hlc hx2
        go_wp2_with fail
        refine HMp.out.mono ?_
        rintro e w4 ⟨rfl, hb4⟩
        have HS4 := kept (HS.out.later hb4)
        clear k0 k1
        have k0 := (HS4.out.low.cell HX.out.1).trans HK.out.1
        have l0 := (HS4.out.low.cell HLc.out.2).trans HLc.out.1
        clear hb4
        by_cases hpos : cn = 0
        · have hpe := hbad (by unfold okP; rw [HMay.out, Int.toNat_natCast, HGet.out, hpos]; rfl)
          have HPe := kept hpe
          have tz : ((cn : Int) == 0) = true := by rw [beq_iff_eq]; omega
          have c0 : w4.cell? ⟨pt, 0, none⟩ = some (.string ⟨#[]⟩) := Blk.cell HS4.out.txt rfl
          have c1 : w4.cell? ⟨pt, 1, none⟩ = some (.int .i64 0) := Blk.cell HS4.out.txt rfl
          have f0 : w4.frozen? ⟨pt, 0, none⟩ = false := Blk.free HS4.out.txt 0
          have f1 : w4.frozen? ⟨pt, 1, none⟩ = false := Blk.free HS4.out.txt 1
          clear hpe hbad hpos
          go_wp2_with fail
          generalize hwz : World.setCell _ _ _ = wz
          have hBz : Blk wz pt #[.string ⟨#[]⟩, .int .i64 1] 29 := by
            rw [← hwz]
            have h := (HS4.out.txt.set 0 (.string ⟨#[]⟩)).set 1 (.int .i64 1)
            simpa using h
          have hCz : Below B w wz := by
            rw [← hwz]
            exact (HS4.out.low.setCell (p := ⟨pt, 0, none⟩) HPt.out _).setCell (p := ⟨pt, 1, none⟩) HPt.out _
          have z0 : wz.cell? ⟨pt, 0, none⟩ = some (.string ⟨#[]⟩) := Blk.cell hBz rfl
          have z1 : wz.cell? ⟨pt, 1, none⟩ = some (.int .i64 1) := Blk.cell hBz rfl
          refine bodyPost_ret (v := .agg #[.string ⟨#[]⟩, .int .i64 1]) (by simp [results, Try.results11, go_sem, z0, z1]) rfl ?_
          exact ⟨by rw [HPe.out], hCz⟩
        · have tz : ((cn : Int) == 0) = false := by rw [beq_eq_false_iff_ne]; omega
          have hokc : okP L ((cN : Int), r) = true := by unfold okP; rw [HMay.out, Int.toNat_natCast, HGet.out]; simpa using hpos
          have HOkc := kept hokc
          clear hbad hokc
          go_upto_region 10 with fail
          have e0 := lat_cell (Blk.cell HS4.out.cds (i := 0) rfl)
          have e1 := lat_cell k0
          have e2 := lat_cell (HS4.out.own.cell HF1.out)
          have e3 := lat_cell (HS4.out.own.cell HF2.out)
          refine wp_region_mixL [] [0,1,2,3,4,5,6,7,8] [9,10] (by kernel_rfl) (by kernel_rfl) ?_
          intro K hK
          simp only [pick, List.filterMap_cons, List.filterMap_nil, List.getElem?_cons_zero, List.getElem?_cons_succ]
          iterate 9 (show wpQuiet _ _ _ _ (_ :: _) _; go_big_quiet_step (fail))
          refine wpQuiet_nil ?_
          show wpList _ _ _ [_, _] _ _
          clear e0 e1 e2 e3 k0 l0
          have hwd : Below w4.heap.size w4 w4.drew := (Below.refl _ _).drew
          generalize w4.drew = w4d at hwd ⊢
          have HSd := kept (HS4.out.later hwd)
          clear hwd
          go_wp2_with fail
          generalize hw5 : World.alloc w4d _ = w5
          obtain ⟨gd, hgd⟩ : ∃ gd, gd = w4d.heap.size := ⟨_, rfl⟩
          have hal : Below w4d.heap.size w4d w5 := by rw [← hw5]; exact (Below.refl _ _).alloc (Nat.le_refl _) _
          have hD5 : Blk w5 gd #[.int .i64 (cb : Int), .int .i64 (cn : Int)] 69 := by rw [hgd, ← hw5]; exact Blk.fresh _ _ _
          have HD5 := kept hD5
          have HS5 := kept (HSd.out.later hal)
          have d1 : w5.cell? ⟨gd, 1, none⟩ = some (.int .i64 (cn : Int)) := Blk.cell hD5 rfl
          rw [← hgd]
          refine hK _ _ ?_
          obtain ⟨E, hE⟩ : ∃ E, E = enc L ((ps.take i).map natP) := ⟨_, rfl⟩
          have hEl : E.length ≤ 100000000 := by
            have h := enc_len L HM.out ((ps.take i).map natP) (fun q hq => by
              obtain ⟨q0, hq0, rfl⟩ := List.mem_map.1 hq
              exact (okP_able HM.out (HOk.out q0 hq0)).2.2)
            rw [List.length_map, List.length_take] at h
            rw [hE]; omega
          rw [← hE] at HS5
          have HE := kept hE
          have HEl := kept hEl
          clear hw5 hgd hal hD5 hE hEl
          go_wp2_with fail
          go_loopw [9] (fun s9 wr => ∃ (k : Nat) (v1 : Value), k ≤ cn ∧ s9 = .int .i64 ((k : Int) - 1) ∧ StP B w wr pt pk pr gc cc v1 (E ++ (Hu.hi cb cn).take (cn - k)) L ∧ Blk wr gd #[.int .i64 (cb : Int), .int .i64 (cn : Int)] 69) (fun s9 _ => (intOf s9 + 1).toNat)
          case atStart => exact ⟨cn, _, Nat.le_refl _, rfl, by simpa using HS5.out, HD5.out⟩
          case round =>
            obtain ⟨k, v1, hk, rfl, hS, hD⟩ := hrel
            obtain ⟨wk, rfl⟩ : ∃ wk, wk = wr := ⟨wr, rfl⟩
            have HSk := kept hS
            have HDk := kept hD
            have hlen : (E ++ (Hu.hi cb cn).take (cn - k)).length < 1000000000000 := by have := HEl.out; simp; omega
            have HLen := kept hlen
            clear hS d1 hlen
            cases k with
            | succ k =>
              rw [show ((k + 1 : Nat) : Int) - 1 = (k : Int) by omega]
              have d0 : wk.cell? ⟨gd, 0, none⟩ = some (.int .i64 (cb : Int)) := Blk.cell hD rfl
              have hsh : cb / 2 ^ k < 18446744073709551616 := by have := Nat.div_le_self cb (2 ^ k); omega
              have HPut := kept (rput_chg B pr v1 _ (cb / 2 ^ k) 1 wk HSk.out.sz HSk.out.row HLen.out hsh (by decide) (by decide))
              rw [clamp1, bitsOf_one, List.append_assoc, ← hi_take cb cn k (by omega)] at HPut
              have ewr : IntKind.u64.wrap ((cb : Int) / 2 ^ k) = ((cb / 2 ^ k : Nat) : Int) := by
                have e : ((cb : Int) / 2 ^ k) = ((cb / 2 ^ k : Nat) : Int) := by simp
                rw [e, IntKind.wrap_u64]
                generalize cb / 2 ^ k = M at hsh
                omega
              have EWr := kept ewr
              clear hD hsh ewr
              go_wp2_with fail
              rw [EWr.out]
              refine HPut.out.mono ?_
              rintro e w7 ⟨rfl, v7, hW7, hB7, hC7⟩
              have HS7 := kept (HSk.out.put hW7 hB7 hC7)
              have HD7 : Own.Kept (Blk w7 gd #[.int .i64 (cb : Int), .int .i64 (cn : Int)] 69) := kept (hC7.keep HDk.out (HSk.out.row.apart HDk.out (by decide) (by decide)))
              clear hW7 hB7 hC7
              go_wp2_with fail
              go_roundw
              case rel => exact ⟨k, v7, by omega, rfl, HS7.out, HD7.out⟩
              case measure => simp [intOf]
            | zero =>
              have k0 := (HSk.out.low.cell HX.out.1).trans HK.out.1
              have k1 := cellN_next ((HSk.out.low.cell HX.out.2).trans HK.out.2)
              have HPut := kept (rrest_calls B pr v1 _ cN r wk HSk.out.sz HSk.out.row HLen.out w2c hc64)
              rw [Nat.sub_zero, List.take_of_length_le (by simp)] at HPut
              have hen : E ++ Hu.hi cb cn ++ bitsOf r (cN - 1) = enc L ((ps.take (i + 1)).map natP) := by
                rw [HTk.out, List.map_append, enc_append, ← HE.out, List.append_assoc]
                congr 1
                rw [HEe.out.1, HEe.out.2]
                simp [enc, encOne, natP]
              rw [hen] at HPut
              clear hen hD
              go_wp2_with fail
              refine HPut.out.mono ?_
              rintro e w7 ⟨rfl, v7, hW7, hB7, hC7⟩
              have HS7 := kept (HSk.out.put hW7 hB7 hC7)
              clear hW7 hB7 hC7 k0 k1
              go_wp2_with fail
              go_roundw
              case rel => exact ⟨i + 1, v7, by omega, by go_num, fun p hp => by
                rw [HTk.out] at hp
                rcases List.mem_append.1 hp with hp | hp
                · exact HOk.out p hp
                · rw [List.mem_singleton.1 hp]; exact HOkc.out, HS7.out⟩
              case measure => simp [intOf]; omega
    · have hie : i = n0 := by omega
      subst hie
      have htk : ps.take i = ps := List.take_of_length_le (by rw [HR.out.len]; exact Nat.le_refl _)
      rw [htk] at HOk HS
      have hpe : putE L ps = (textOf (pack (enc L (ps.map natP))), 0) := by
        unfold putE
        rw [if_pos HM.out, if_pos (List.all_eq_true.2 HOk.out)]
      have HPe := kept hpe
      have hlen := enc_len L HM.out (ps.map natP) (fun q hq => by
        obtain ⟨q0, hq0, rfl⟩ := List.mem_map.1 hq
        exact (okP_able HM.out (HOk.out q0 hq0)).2.2)
      rw [List.length_map, HR.out.len] at hlen
      have HBy := kept (rbytes_calls pr v _ wq HS.out.row.is (by omega))
      obtain ⟨tx, htx⟩ : ∃ tx, tx = textOf (pack (enc L (ps.map natP))) := ⟨_, rfl⟩
      rw [← htx] at HBy HPe
      clear htk hpe htx hlen
      go_wp2_with fail
      refine HBy.out.mono ?_
      rintro e w7 ⟨rfl, hb7⟩
      have HS7 := kept (HS.out.later hb7)
      have c0 : w7.cell? ⟨pt, 0, none⟩ = some (.string ⟨#[]⟩) := Blk.cell HS7.out.txt rfl
      have c1 : w7.cell? ⟨pt, 1, none⟩ = some (.int .i64 0) := Blk.cell HS7.out.txt rfl
      have f0 : w7.frozen? ⟨pt, 0, none⟩ = false := Blk.free HS7.out.txt 0
      have f1 : w7.frozen? ⟨pt, 1, none⟩ = false := Blk.free HS7.out.txt 1
      clear hb7
      go_wp2_with fail
      generalize hwz : World.setCell _ _ _ = wz
      have hBz : Blk wz pt #[.string tx, .int .i64 0] 29 := by
        rw [← hwz]
        have h := (HS7.out.txt.set 0 (.string tx)).set 1 (.int .i64 0)
        simpa using h
      have hCz : Below B w wz := by
        rw [← hwz]
        exact (HS7.out.low.setCell (p := ⟨pt, 0, none⟩) HPt.out _).setCell (p := ⟨pt, 1, none⟩) HPt.out _
      have z0 : wz.cell? ⟨pt, 0, none⟩ = some (.string tx) := Blk.cell hBz rfl
      have z1 : wz.cell? ⟨pt, 1, none⟩ = some (.int .i64 0) := Blk.cell hBz rfl
      refine bodyPost_ret (v := .agg #[.string tx, .int .i64 0]) (by simp [results, Try.results11, go_sem, z0, z1]) rfl ?_
      exact ⟨by rw [HPe.out], hCz⟩
end Go.Proofs.Ytnakjencodicmaa

-- ---- PAx39

namespace Go.Proofs.Ytnakjencodicmaa.PA
open Go.RowKit Go.Proofs.YtnakjencodicmaaW.PrintWords Go.Proofs.YtnakjencodicmaaW.PrintLast Go.Proofs.YtnakjencodicmaaW.PrintMore
attribute [local go_sem] max2_int min2_int max_two min_two max_three min_three max_four min_four   -- for this text's walks alone
set_option linter.unusedVariables false
set_option linter.unusedSimpArgs false

/-! ### wringerref1_Map: function 55 -/
def wringerref1_Map.f (a0 : Int) : Option (Int) := if a0 < 0 then (some (IntKind.u64.wrap ((IntKind.u64.wrap (2 * (IntKind.u64.wrap (wrap64 (-(wrap64 (a0 + 1))))))) + 1))) else (some (IntKind.u64.wrap (2 * (IntKind.u64.wrap (a0)))))
set_option maxHeartbeats 8000000 in
set_option maxRecDepth 100000 in
theorem wringerref1_Map.calls (a0 : Int) (r : Int) (w : World) (h : wringerref1_Map.f a0 = some r) :
    Calls Try.prog 55 #[.int .i64 a0] w fun e w' => e = .returned (.int .u64 r) ∧ Drawn0 w w' := by
  have H : (if a0 < 0 then (some (IntKind.u64.wrap ((IntKind.u64.wrap (2 * (IntKind.u64.wrap (wrap64 (-(wrap64 (a0 + 1))))))) + 1))) else (some (IntKind.u64.wrap (2 * (IntKind.u64.wrap (a0)))))) = some r := h
  clear h
  by_cases c2 : a0 < 0
  · rw [if_pos c2] at H
    have c2b0 : decide (a0 < 0) = true := decide_eq_true c2
    clear c2
    obtain rfl := Option.some.inj H
    go_enter Try.func55, Try.ntmps55
    go_wp2
    go_ret
    exact ⟨by first | rfl | (simp; done) | (simp [*]; done), by repeat (first | exact Drawn0.refl _ | apply Drawn0.step)⟩
  · rw [if_neg c2] at H
    have c2b0 : decide (a0 < 0) = false := decide_eq_false c2
    clear c2
    obtain rfl := Option.some.inj H
    go_enter Try.func55, Try.ntmps55
    go_wp2
    go_ret
    exact ⟨by first | rfl | (simp; done) | (simp [*]; done), by repeat (first | exact Drawn0.refl _ | apply Drawn0.step)⟩

end Go.Proofs.Ytnakjencodicmaa.PA

-- ---- PAx40

namespace Go.Proofs.Ytnakjencodicmaa.PA
open Go.RowKit Go.Proofs.YtnakjencodicmaaW.PrintWords Go.Proofs.YtnakjencodicmaaW.PrintLast Go.Proofs.YtnakjencodicmaaW.PrintMore
attribute [local go_sem] max2_int min2_int max_two min_two max_three min_three max_four min_four   -- for this text's walks alone
set_option linter.unusedVariables false
set_option linter.unusedSimpArgs false

/-! ### wringerref1_length: function 56 -/
def wringerref1_length.l0 : Nat → Int → Int → Option (Int)
  | 0, _, _ => none
  | k + 1, x0, x3 => if x0 > 0 then (wringerref1_length.l0 k (x0 / 2) (wrap64 (x3 + 1))) else (some x3)
def wringerref1_length.f (k : Nat) (a0 : Int) : Option (Int) := wringerref1_length.l0 k a0 0
theorem wringerref1_length.mono_l : ∀ k, (∀ y0 y1, LeO (wringerref1_length.l0 k y0 y1) (wringerref1_length.l0 (k + 1) y0 y1))
  | 0 => fun _ _ r h => by simp [wringerref1_length.l0] at h
  | k + 1 => by
    have ih0 := wringerref1_length.mono_l k
    · intro y0 y1
      unfold wringerref1_length.l0
      repeat' first
      | (with_reducible exact ih0 _ _)
      | (with_reducible exact LeO.refl _)
      | (with_reducible exact LeO.none _)
      | (with_reducible refine LeO.ite ?_ ?_)
      | (with_reducible refine LeO.bind ?_ (fun _ => ?_))
      | exact ih0 _ _
      | exact LeO.none _
      | refine LeO.ite ?_ ?_
      | refine LeO.bind ?_ (fun _ => ?_)
theorem wringerref1_length.mono : ∀ a0 k, LeO (wringerref1_length.f k a0) (wringerref1_length.f (k + 1) a0) := by
  intro a0 k
  have ih0 := wringerref1_length.mono_l k
  unfold wringerref1_length.f
  repeat' first
      | (with_reducible exact ih0 _ _)
      | (with_reducible exact LeO.refl _)
      | (with_reducible exact LeO.none _)
      | (with_reducible refine LeO.ite ?_ ?_)
      | (with_reducible refine LeO.bind ?_ (fun _ => ?_))
      | exact ih0 _ _
      | exact LeO.none _
      | refine LeO.ite ?_ ?_
      | refine LeO.bind ?_ (fun _ => ?_)
set_option maxHeartbeats 8000000 in
set_option maxRecDepth 100000 in
theorem wringerref1_length.calls (k : Nat) (a0 : Int) (r : Int) (w : World) (h : wringerref1_length.f k a0 = some r) :
    Calls Try.prog 56 #[.int .u64 a0] w fun e w' => e = .returned (.int .i64 r) ∧ Drawn0 w w' := by
  have H : (wringerref1_length.l0 k a0 0) = some r := h
  clear h
  have H' := Aside0.mk H
  clear H
  go_enter Try.func56, Try.ntmps56
  go_wp2
  go_loopg [0, 3] k (fun kq v0 v3 w' => ∃ (x0_1 : Int) (x3_1 : Int), v0 = .int .u64 x0_1 ∧ v3 = .int .i64 x3_1 ∧ Aside0 (wringerref1_length.l0 kq x0_1 x3_1 = some r) ∧ Aside0 (kq ≤ k) ∧ Drawn0 w w')
  case atStart => exact ⟨(a0), (0), (by first | rfl | (simp; done) | (simp [*]; done)), (by first | rfl | (simp; done) | (simp [*]; done)), H', ⟨Nat.le_refl _⟩, by repeat (first | exact Drawn0.refl _ | apply Drawn0.step)⟩
  case round =>
    clear H'
    obtain ⟨x0_1, x3_1, rfl, rfl, HA, HK1, ⟨m1, rfl⟩⟩ := hrel
    cases gk with
    | zero => exact absurd HA.out (by simp [wringerref1_length.l0])
    | succ k1 =>
      have H := HA.out
      clear HA
      simp only [wringerref1_length.l0] at H
      by_cases c2 : x0_1 > 0
      · rw [if_pos c2] at H
        have c2b0 : decide (0 < x0_1) = true := decide_eq_true c2
        clear c2
        have H' := Aside0.mk H
        clear H
        go_wp2
        go_roundg k1
        case measure => have := HK1.out; omega
        case rel => exact ⟨(x0_1 / 2), (wrap64 (x3_1 + 1)), (by first | rfl | (simp; done) | (simp [*]; done)), (by first | rfl | (simp; done) | (simp [*]; done)), H', ⟨by have := HK1.out; omega⟩, by repeat (first | exact Drawn0.refl _ | apply Drawn0.step)⟩
      · rw [if_neg c2] at H
        have c2b0 : decide (0 < x0_1) = false := decide_eq_false c2
        clear c2
        obtain rfl := Option.some.inj H
        go_wp2
        go_ret
        exact ⟨by first | rfl | (simp; done) | (simp [*]; done), by repeat (first | exact Drawn0.refl _ | apply Drawn0.step)⟩

end Go.Proofs.Ytnakjencodicmaa.PA

-- ---- PAx41

namespace Go.Proofs.Ytnakjencodicmaa.PA
open Go.RowKit Go.Proofs.YtnakjencodicmaaW.PrintWords Go.Proofs.YtnakjencodicmaaW.PrintLast Go.Proofs.YtnakjencodicmaaW.PrintMore
attribute [local go_sem] max2_int min2_int max_two min_two max_three min_three max_four min_four   -- for this text's walks alone
set_option linter.unusedVariables false
set_option linter.unusedSimpArgs false

/-! ### wringerref1_Split: function 40 -/
def wringerref1_Split.f (k : Nat) (a0 : Int) : Option (Int × Int) := (wringerref1_Map.f a0).bind fun t206 => ((wringerref1_length.f k t206).bind fun t207 => (if t207 = 0 then (some (0, 0)) else (if 0 ≤ (wrap64 (t207 - 1)) then (some (t207, IntKind.u64.wrap (t206 - (shl .u64 1 (wrap64 (t207 - 1)))))) else (none))))
theorem wringerref1_Split.mono : ∀ a0 k, LeO (wringerref1_Split.f k a0) (wringerref1_Split.f (k + 1) a0) := by
  intro a0 k
  unfold wringerref1_Split.f
  repeat' first
      | (with_reducible exact wringerref1_length.mono _ _)
      | (with_reducible exact LeO.refl _)
      | (with_reducible exact LeO.none _)
      | (with_reducible refine LeO.ite ?_ ?_)
      | (with_reducible refine LeO.bind ?_ (fun _ => ?_))
      | exact wringerref1_length.mono _ _
      | exact LeO.none _
      | refine LeO.ite ?_ ?_
      | refine LeO.bind ?_ (fun _ => ?_)
set_option maxHeartbeats 8000000 in
set_option maxRecDepth 100000 in
theorem wringerref1_Split.calls (k : Nat) (a0 : Int) (r1 : Int) (r2 : Int) (w : World) (h : wringerref1_Split.f k a0 = some (r1, r2)) :
    Calls Try.prog 40 #[.int .i64 a0] w fun e w' => e = .returned (.agg #[.int .i64 r1, .int .u64 r2]) ∧ Below w.heap.size w w' := by
  have hu54 := Try.underlying54
  have HB := Aside0.mk (Below.refl w.heap.size w)
  have H : ((wringerref1_Map.f a0).bind fun t206 => ((wringerref1_length.f k t206).bind fun t207 => (if t207 = 0 then (some (0, 0)) else (if 0 ≤ (wrap64 (t207 - 1)) then (some (t207, IntKind.u64.wrap (t206 - (shl .u64 1 (wrap64 (t207 - 1)))))) else (none))))) = some (r1, r2) := h
  clear h
  replace H := Option.bind_eq_some_iff.mp H
  obtain ⟨t206, A20, H⟩ := H
  replace H : ((wringerref1_length.f k t206).bind fun t207 => (if t207 = 0 then (some (0, 0)) else (if 0 ≤ (wrap64 (t207 - 1)) then (some (t207, IntKind.u64.wrap (t206 - (shl .u64 1 (wrap64 (t207 - 1)))))) else (none)))) = some (r1, r2) := H
  have A2 := Aside0.mk A20
  clear A20
  replace H := Option.bind_eq_some_iff.mp H
  obtain ⟨t207, A30, H⟩ := H
  replace H : (if t207 = 0 then (some (0, 0)) else (if 0 ≤ (wrap64 (t207 - 1)) then (some (t207, IntKind.u64.wrap (t206 - (shl .u64 1 (wrap64 (t207 - 1)))))) else (none))) = some (r1, r2) := H
  have A3 := Aside0.mk A30
  clear A30
  by_cases c4 : t207 = 0
  · rw [if_pos c4] at H
    have c4b0 : (t207 == 0) = true := beq_iff_eq.mpr c4
    have c4b1 : (t207 != 0) = false := bne_eq_false_iff_eq.mpr c4
    clear c4
    simp only [Option.some.injEq, Prod.mk.injEq] at H
    obtain ⟨rfl, rfl⟩ := H
    go_enter Try.func40, Try.ntmps40
    go_wp2_with (first | ((with_reducible refine gate_dst (N := 2) rfl ?_); refine box_event ?hg (N := 2) ?hd (cs := #[.int .i64 0, .int .u64 0]) (t := 54) ?hr ?_; (case hd => rfl); (case hg => rfl); (case hr => first | (go_simp; done) | (go_simp; rfl)); intro gb205 hg w5 hbox hb; have n0_ := Aside0.mk (below_step (by repeat (first | (with_reducible first | exact HB.out | apply below_alloc | apply pw_below_drewN | apply below_drew1) | exact HB.out)) hb); have n1_ := Aside0.mk (hbox); have n2_ := Aside0.mk ((by rw [hg]; exact (below_size (by repeat (first | (with_reducible first | exact HB.out | apply below_alloc | apply pw_below_drewN | apply below_drew1) | exact HB.out))) : w.heap.size ≤ gb205)); have n3_ := Aside0.mk ((by rw [hg]; exact (below_size (by repeat (first | (with_reducible first | exact HB.out | apply below_alloc | apply pw_below_drewN | apply below_drew1) | exact HB.out))) : w.heap.size ≤ gb205)); clear HB; have HB := n0_; have BK205 := n1_; have GW205 := n2_; have GE205 := n3_; clear n0_ n1_ n2_ n3_; clear hb hbox hg) | ((with_reducible refine gate_callee (f := 55) rfl ?_); refine goesL_ (some 6) rfl rfl Try.func55 (by kernel_rfl) rfl #[.int .i64 a0] rfl (by (try simp only [List.map_toArray, List.map_cons, List.map_nil]); first | done | rfl | (simp only [List.length_drop, List.length_take]; rfl)) ?_; (with_reducible refine (wringerref1_Map.calls a0 t206 _ A2.out).mono ?_); rintro e w' ⟨rfl, ⟨nd, rfl⟩⟩; refine ⟨_, rfl, ?_⟩; (try (rw [drewN_self w5]; generalize hq_ : World.drewN w5 _ = w5; have n0_ : Aside0 (w5.heap[gb205]? = some (.cells #[.int .i64 0, .int .u64 0] 54 (0, 0))) := ⟨by rw [← hq_]; exact (by (with_reducible repeat (first | refine blk_drewN ?_ _ | refine blk_drew ?_ | refine blk_alloc ?_ _)); exact BK205.out)⟩; have n1_ : Aside0 (Below w.heap.size w w5) := ⟨by rw [← hq_]; exact (by repeat (first | (with_reducible first | exact HB.out | apply below_alloc | apply pw_below_drewN | apply below_drew1 | refine below_set ?_ GE205.out) | exact HB.out))⟩; clear BK205 HB hq_; have BK205 := n0_; have HB := n1_; clear n0_ n1_))) | ((with_reducible refine gate_callee (f := 56) rfl ?_); refine goesL_ (some 8) rfl rfl Try.func56 (by kernel_rfl) rfl #[.int .u64 t206] rfl (by (try simp only [List.map_toArray, List.map_cons, List.map_nil]); first | done | rfl | (simp only [List.length_drop, List.length_take]; rfl)) ?_; (with_reducible refine (wringerref1_length.calls k t206 t207 _ A3.out).mono ?_); rintro e w' ⟨rfl, ⟨nd, rfl⟩⟩; refine ⟨_, rfl, ?_⟩; (try (rw [drewN_self w5]; generalize hq_ : World.drewN w5 _ = w5; have n0_ : Aside0 (w5.heap[gb205]? = some (.cells #[.int .i64 0, .int .u64 0] 54 (0, 0))) := ⟨by rw [← hq_]; exact (by (with_reducible repeat (first | refine blk_drewN ?_ _ | refine blk_drew ?_ | refine blk_alloc ?_ _)); exact BK205.out)⟩; have n1_ : Aside0 (Below w.heap.size w w5) := ⟨by rw [← hq_]; exact (by repeat (first | (with_reducible first | exact HB.out | apply below_alloc | apply pw_below_drewN | apply below_drew1 | refine below_set ?_ GE205.out) | exact HB.out))⟩; clear BK205 HB hq_; have BK205 := n0_; have HB := n1_; clear n0_ n1_)); have hcz6_0 : w5.cell? ⟨gb205, 0, none⟩ = some (.int .i64 0) := (blk_cell BK205.out 0).trans rfl; have hcz6_1 : w5.cell? ⟨gb205, 1, none⟩ = some (.int .u64 0) := (blk_cell BK205.out 1).trans rfl; have hfz6_0 := blk_frozen BK205.out 0; have hfz6_1 := blk_frozen BK205.out 1))
    refine bodyPost_ret (results_cell_row rfl _ _ gb205 54 #[.int .i64 0, .int .u64 0] (0, 0) _ rfl (by (with_reducible repeat (first | refine blk_drewN ?_ _ | refine blk_drew ?_ | refine blk_alloc ?_ _)); refine blk_put (cs := #[.int .i64 0, .int .u64 0]) ?_ 1 _ rfl; (with_reducible repeat (first | refine blk_drewN ?_ _ | refine blk_drew ?_ | refine blk_alloc ?_ _)); refine blk_put (cs := #[.int .i64 0, .int .u64 0]) ?_ 0 _ rfl; (with_reducible repeat (first | refine blk_drewN ?_ _ | refine blk_drew ?_ | refine blk_alloc ?_ _)); exact BK205.out) Try.underlying54 rfl (by kernel_rfl)) rfl ?_
    exact ⟨by first | rfl | (simp [errW_none, errW_some] <;> rfl) | (simp [*, errW_none, errW_some] <;> rfl), by repeat (first | (with_reducible first | exact HB.out | apply below_alloc | apply pw_below_drewN | apply below_drew1 | refine below_set ?_ GE205.out) | exact HB.out)⟩
  · rw [if_neg c4] at H
    have c4b0 : (t207 == 0) = false := beq_eq_false_iff_ne.mpr c4
    have c4b1 : (t207 != 0) = true := bne_iff_ne.mpr c4
    obtain ⟨ji7, hji7⟩ : ∃ j_ : Int, (wrap64 (t207 - 1)) = j_ := ⟨_, rfl⟩
    replace H : (if 0 ≤ (ji7) then (some (t207, IntKind.u64.wrap (t206 - (shl .u64 1 (ji7))))) else (none)) = some (r1, r2) := by first | (rw [hji7] at H; exact H) | (simp only [hji7] at H ⊢; exact H)
    (try rw [hji7] at A2)
    (try rw [hji7] at A3)
    have hji7w : (IntKind.i64.wrap (t207 - 1)) = ji7 := (i64_w _).trans hji7
    by_cases c8 : 0 ≤ (ji7)
    · rw [if_pos c8] at H
      have c8b0 := eq_true c8
      have c8b1 : decide (0 ≤ (ji7)) = true := decide_eq_true c8
      clear c8
      obtain ⟨ji9, hji9⟩ : ∃ j_ : Int, (shl .u64 1 (ji7)) = j_ := ⟨_, rfl⟩
      replace H : (some (t207, IntKind.u64.wrap (t206 - (ji9)))) = some (r1, r2) := by first | (rw [hji9] at H; exact H) | (simp only [hji9] at H ⊢; exact H)
      (try rw [hji9] at A2)
      (try rw [hji9] at A3)
      have hji9_ : (IntKind.u64.wrap (1 * 2 ^ min (ji7).toNat 64)) = ji9 := hji9
      have hji9z : (ji7) ≤ 64 → (IntKind.u64.wrap (1 * 2 ^ (ji7).toNat)) = ji9 := shl_small hji9
      have hji9u : (IntKind.u64.wrap (2 ^ min (ji7).toNat 64)) = ji9 := by have h_ := hji9_; rw [Int.one_mul] at h_; exact h_
      have hji9v : (ji7) ≤ 64 → (IntKind.u64.wrap (2 ^ (ji7).toNat)) = ji9 := fun hle_ => by have h_ := hji9z hle_; rw [Int.one_mul] at h_; exact h_
      simp only [Option.some.injEq, Prod.mk.injEq] at H
      obtain ⟨rfl, rfl⟩ := H
      go_enter Try.func40, Try.ntmps40
      go_wp2_with (first | ((with_reducible refine gate_dst (N := 2) rfl ?_); refine box_event ?hg (N := 2) ?hd (cs := #[.int .i64 0, .int .u64 0]) (t := 54) ?hr ?_; (case hd => rfl); (case hg => rfl); (case hr => first | (go_simp; done) | (go_simp; rfl)); intro gb205 hg w10 hbox hb; have n0_ := Aside0.mk (below_step (by repeat (first | (with_reducible first | exact HB.out | apply below_alloc | apply pw_below_drewN | apply below_drew1) | exact HB.out)) hb); have n1_ := Aside0.mk (hbox); have n2_ := Aside0.mk ((by rw [hg]; exact (below_size (by repeat (first | (with_reducible first | exact HB.out | apply below_alloc | apply pw_below_drewN | apply below_drew1) | exact HB.out))) : w.heap.size ≤ gb205)); have n3_ := Aside0.mk ((by rw [hg]; exact (below_size (by repeat (first | (with_reducible first | exact HB.out | apply below_alloc | apply pw_below_drewN | apply below_drew1) | exact HB.out))) : w.heap.size ≤ gb205)); clear HB; have HB := n0_; have BK205 := n1_; have GW205 := n2_; have GE205 := n3_; clear n0_ n1_ n2_ n3_; clear hb hbox hg) | ((with_reducible refine gate_callee (f := 55) rfl ?_); refine goesL_ (some 6) rfl rfl Try.func55 (by kernel_rfl) rfl #[.int .i64 a0] rfl (by (try simp only [List.map_toArray, List.map_cons, List.map_nil]); first | done | rfl | (simp only [List.length_drop, List.length_take]; rfl)) ?_; (with_reducible refine (wringerref1_Map.calls a0 t206 _ A2.out).mono ?_); rintro e w' ⟨rfl, ⟨nd, rfl⟩⟩; refine ⟨_, rfl, ?_⟩; (try (rw [drewN_self w10]; generalize hq_ : World.drewN w10 _ = w10; have n0_ : Aside0 (w10.heap[gb205]? = some (.cells #[.int .i64 0, .int .u64 0] 54 (0, 0))) := ⟨by rw [← hq_]; exact (by (with_reducible repeat (first | refine blk_drewN ?_ _ | refine blk_drew ?_ | refine blk_alloc ?_ _)); exact BK205.out)⟩; have n1_ : Aside0 (Below w.heap.size w w10) := ⟨by rw [← hq_]; exact (by repeat (first | (with_reducible first | exact HB.out | apply below_alloc | apply pw_below_drewN | apply below_drew1 | refine below_set ?_ GE205.out) | exact HB.out))⟩; clear BK205 HB hq_; have BK205 := n0_; have HB := n1_; clear n0_ n1_))) | ((with_reducible refine gate_callee (f := 56) rfl ?_); refine goesL_ (some 8) rfl rfl Try.func56 (by kernel_rfl) rfl #[.int .u64 t206] rfl (by (try simp only [List.map_toArray, List.map_cons, List.map_nil]); first | done | rfl | (simp only [List.length_drop, List.length_take]; rfl)) ?_; (with_reducible refine (wringerref1_length.calls k t206 t207 _ A3.out).mono ?_); rintro e w' ⟨rfl, ⟨nd, rfl⟩⟩; refine ⟨_, rfl, ?_⟩; (try (rw [drewN_self w10]; generalize hq_ : World.drewN w10 _ = w10; have n0_ : Aside0 (w10.heap[gb205]? = some (.cells #[.int .i64 0, .int .u64 0] 54 (0, 0))) := ⟨by rw [← hq_]; exact (by (with_reducible repeat (first | refine blk_drewN ?_ _ | refine blk_drew ?_ | refine blk_alloc ?_ _)); exact BK205.out)⟩; have n1_ : Aside0 (Below w.heap.size w w10) := ⟨by rw [← hq_]; exact (by repeat (first | (with_reducible first | exact HB.out | apply below_alloc | apply pw_below_drewN | apply below_drew1 | refine below_set ?_ GE205.out) | exact HB.out))⟩; clear BK205 HB hq_; have BK205 := n0_; have HB := n1_; clear n0_ n1_)); have hcz11_0 : w10.cell? ⟨gb205, 0, none⟩ = some (.int .i64 0) := (blk_cell BK205.out 0).trans rfl; have hcz11_1 : w10.cell? ⟨gb205, 1, none⟩ = some (.int .u64 0) := (blk_cell BK205.out 1).trans rfl; have hfz11_0 := blk_frozen BK205.out 0; have hfz11_1 := blk_frozen BK205.out 1))
      refine bodyPost_ret (results_cell_row rfl _ _ gb205 54 #[.int .i64 t207, .int .u64 (IntKind.u64.wrap (t206 - (ji9)))] (0, 0) _ rfl (by (with_reducible repeat (first | refine blk_drewN ?_ _ | refine blk_drew ?_ | refine blk_alloc ?_ _)); refine blk_put (cs := #[.int .i64 t207, .int .u64 0]) ?_ 1 _ rfl; (with_reducible repeat (first | refine blk_drewN ?_ _ | refine blk_drew ?_ | refine blk_alloc ?_ _)); refine blk_put (cs := #[.int .i64 0, .int .u64 0]) ?_ 0 _ rfl; (with_reducible repeat (first | refine blk_drewN ?_ _ | refine blk_drew ?_ | refine blk_alloc ?_ _)); exact BK205.out) Try.underlying54 rfl (by kernel_rfl)) rfl ?_
      exact ⟨by first | rfl | (simp [errW_none, errW_some] <;> rfl) | (simp only [← hji7, ← hji9]; first | rfl | (simp [errW_none, errW_some] <;> rfl)) | (simp [*, errW_none, errW_some] <;> rfl), by repeat (first | (with_reducible first | exact HB.out | apply below_alloc | apply pw_below_drewN | apply below_drew1 | refine below_set ?_ GE205.out) | exact HB.out)⟩
    · rw [if_neg c8] at H
      exact absurd H (by simp)

end Go.Proofs.Ytnakjencodicmaa.PA

-- ---- PAx42

namespace Go.Proofs.Ytnakjencodicmaa.PA
open Go.RowKit Go.Proofs.YtnakjencodicmaaW.PrintWords Go.Proofs.YtnakjencodicmaaW.PrintLast Go.Proofs.YtnakjencodicmaaW.PrintMore
attribute [local go_sem] max2_int min2_int max_two min_two max_three min_three max_four min_four   -- for this text's walks alone
set_option linter.unusedVariables false
set_option linter.unusedSimpArgs false

/-! ### wringerref7_Parts: function 16 -/
def wringerref7_Parts.l0 : Nat → List Int → List (S54) → Int → Option ((List (S54)))
  | 0, _, _, _ => none
  | k + 1, x0, x3, x4 => if x4 < (x0.length : Int) then (if 0 ≤ x4 then ((wringerref1_Split.f k (rd x0 x4)).bind fun bt209 => (if x3.length < 8796093022208 then (wringerref7_Parts.l0 k x0 (x3 ++ [(⟨bt209.1, bt209.2⟩ : S54)]) (wrap64 (x4 + 1))) else (none))) else (none)) else (some x3)
def wringerref7_Parts.f (k : Nat) (l0 : List Int) : Option ((List (S54))) := wringerref7_Parts.l0 k l0 ([] : List (S54)) 0
theorem wringerref7_Parts.mono_l : ∀ k, (∀ y0 y1 y2, LeO (wringerref7_Parts.l0 k y0 y1 y2) (wringerref7_Parts.l0 (k + 1) y0 y1 y2))
  | 0 => fun _ _ _ r h => by simp [wringerref7_Parts.l0] at h
  | k + 1 => by
    have ih0 := wringerref7_Parts.mono_l k
    · intro y0 y1 y2
      unfold wringerref7_Parts.l0
      repeat' first
      | (with_reducible exact ih0 _ _ _)
      | (with_reducible exact wringerref1_Split.mono _ _)
      | (with_reducible exact LeO.refl _)
      | (with_reducible exact LeO.none _)
      | (with_reducible refine LeO.ite ?_ ?_)
      | (with_reducible refine LeO.bind ?_ (fun _ => ?_))
      | exact ih0 _ _ _
      | exact wringerref1_Split.mono _ _
      | exact LeO.none _
      | refine LeO.ite ?_ ?_
      | refine LeO.bind ?_ (fun _ => ?_)
theorem wringerref7_Parts.mono : ∀ a0 k, LeO (wringerref7_Parts.f k a0) (wringerref7_Parts.f (k + 1) a0) := by
  intro a0 k
  have ih0 := wringerref7_Parts.mono_l k
  unfold wringerref7_Parts.f
  repeat' first
      | (with_reducible exact ih0 _ _ _)
      | (with_reducible exact wringerref1_Split.mono _ _)
      | (with_reducible exact LeO.refl _)
      | (with_reducible exact LeO.none _)
      | (with_reducible refine LeO.ite ?_ ?_)
      | (with_reducible refine LeO.bind ?_ (fun _ => ?_))
      | exact ih0 _ _ _
      | exact wringerref1_Split.mono _ _
      | exact LeO.none _
      | refine LeO.ite ?_ ?_
      | refine LeO.bind ?_ (fun _ => ?_)
set_option maxHeartbeats 8000000 in
set_option maxRecDepth 100000 in
theorem wringerref7_Parts.calls (k : Nat) (A0 : Option Addr) (c0 : Nat) (l0 : List Int) (r : List (S54)) (w : World) (hr0 : Kd.C (Kd.int .i64) w A0 l0.length l0) (hc0 : l0.length ≤ c0) (h : wringerref7_Parts.f k l0 = some r) :
    Calls Try.prog 16 #[.slice A0 l0.length c0] w fun e w' => ∃ v0_ : Value, e = .returned (v0_) ∧ Kd.R k54 54 w' w.heap.size (fun _ => True) v0_ r ∧ Below w.heap.size w w' := by
  have HR0 := Aside0.mk hr0
  have HC0 := Aside0.mk hc0
  clear hr0 hc0
  have HB := Aside0.mk (Below.refl w.heap.size w)
  have H : (wringerref7_Parts.l0 k l0 ([] : List (S54)) 0) = some r := h
  clear h
  have H' := Aside0.mk H
  clear H
  go_enter Try.func16, Try.ntmps16
  go_wp2
  go_loopg [3, 4] k (fun kq v3 v4 w' => ∃ (x3_1 : List (S54)) (x4_1 : Int), v4 = .int .i64 x4_1 ∧ Aside0 (wringerref7_Parts.l0 kq l0 x3_1 x4_1 = some r) ∧ Aside0 (kq ≤ k) ∧ Aside0 (Kd.R k54 54 w' w.heap.size (fun _ => True) v3 x3_1) ∧ Aside0 (Below w.heap.size w w'))
  case atStart => exact ⟨(([] : List (S54))), (0), (by first | rfl | (simp; done) | (simp [*]; done)), H', ⟨Nat.le_refl _⟩, ⟨by first | exact Kd.R_nil _ _ _ _ _ | exact Kd.N_nil _ _ _ _ _ | exact Kd.V_nil _ _ _ _ _ | exact Kd.Q_nil _ _ _ _ _ | exact Kd.S_nil _ _ _ _ _⟩, ⟨by repeat (first | (with_reducible first | exact HB.out | apply below_alloc | apply pw_below_drewN | apply below_drew1) | exact HB.out)⟩⟩
  case round =>
    clear H'
    try clear c1
    obtain ⟨x3_1, x4_1, rfl, HA, HK1, HO_3, HB⟩ := hrel
    cases gk with
    | zero => exact absurd HA.out (by simp [wringerref7_Parts.l0])
    | succ k1 =>
      have H := HA.out
      clear HA
      simp only [wringerref7_Parts.l0] at H
      by_cases c2 : x4_1 < (l0.length : Int)
      · rw [if_pos c2] at H
        have c2b0 : decide (x4_1 < (l0.length : Int)) = true := decide_eq_true c2
        clear c2
        by_cases c3 : 0 ≤ x4_1
        · rw [if_pos c3] at H
          have c3b0 : decide (0 ≤ x4_1) = true := decide_eq_true c3
          clear c3
          replace H := Option.bind_eq_some_iff.mp H
          obtain ⟨⟨t209, t210⟩, A40, H⟩ := H
          replace H : (if x3_1.length < 8796093022208 then (wringerref7_Parts.l0 k1 l0 (x3_1 ++ [(⟨t209, t210⟩ : S54)]) (wrap64 (x4_1 + 1))) else (none)) = some r := H
          have A4 := Aside0.mk A40
          clear A40
          by_cases c5 : x3_1.length < 8796093022208
          · rw [if_pos c5] at H
            have LMc5 := Aside0.mk c5
            clear c5
            obtain ⟨y211, hy211⟩ : ∃ y_ : List (S54), y_ = (x3_1 ++ [(⟨t209, t210⟩ : S54)]) := ⟨_, rfl⟩
            replace H : (wringerref7_Parts.l0 k1 l0 y211 (wrap64 (x4_1 + 1))) = some r := by first | (rw [hy211]; with_reducible exact H) | (have H2_ := (Option.bind_some _ _).symm.trans H; rw [hy211]; with_reducible exact H2_) | (have H2_ := (Option.bind_some _ _).symm.trans H; with_reducible exact H2_) | with_reducible exact H | (rw [hy211]; exact H) | exact H
            have Ny211 := Aside0.mk hy211
            clear hy211
            have H' := Aside0.mk H
            clear H
            have p208 : 0 ≤ (x4_1 : Int) := of_decide_eq_true (by first | (with_reducible assumption) | assumption)
            have q208 : x4_1 < (l0.length : Int) := of_decide_eq_true (by first | (with_reducible assumption) | assumption)
            obtain ⟨ad208, e208, hx208_0⟩ := Kd.at_int HR0.out x4_1 p208 q208
            cases e208
            replace hx208_0 := (HB.out.cell (World.block_lt_of_cell? w _ hx208_0)).trans hx208_0
            replace p208 := eq_true p208
            replace q208 := eq_true q208
            go_wp2_with (first | ((with_reducible refine gate_callee (f := 40) rfl ?_); refine goesL_ (some 16) rfl rfl Try.func40 (by kernel_rfl) rfl #[.int .i64 (rd l0 x4_1)] rfl (by (try simp only [List.map_toArray, List.map_cons, List.map_nil]); first | done | rfl | (simp only [List.length_drop, List.length_take]; rfl)) ?_; (with_reducible refine (wringerref1_Split.calls k1 (rd l0 x4_1) t209 t210 _ A4.out).mono ?_); rintro e w6 ⟨rfl, hb⟩; refine ⟨_, rfl, ?_⟩; have n0_ := Aside0.mk (Kd.R_below (by (with_reducible repeat (first | apply Kd.R_alloc | apply Kd.R_drewN | apply Kd.R_drew)); exact HO_3.out) hb); have n1_ := Aside0.mk (below_step (by repeat (first | (with_reducible first | exact HB.out | apply below_alloc | apply pw_below_drewN | apply below_drew1) | exact HB.out)) hb); clear HO_3; clear HB; have HO_3 := n0_; have HB := n1_; clear n0_ n1_; (try clear hb); (try clear hb2); (try clear hk); (try clear hi)) | ((with_reducible refine gate_builtin (b := .append) (xs := #[.tmp 11, .tmp 17]) rfl ?_); at_builtin; refine Kd.R_append k54 (w0 := w) w.heap.size rfl (.tmp 11) (.tmp 17) 22 54 (.agg #[(.int .i64 0), (.int .u64 0)]) 16 rfl Try.underlying22 info54 rfl (by decide) (by omega) u3 x3_1 (⟨t209, t210⟩ : S54) [.int .i64 t209, .int .u64 t210] (fun _ => True) (fun _ => False) rfl rfl ?aP (fun _ hk => hk.elim) ?aF ?aO ?aB ?aS ?aL ?_; (case aP => exact k54_mkM _ _ _ (⟨t209, t210⟩ : S54)); (case aB => exact (by repeat (first | (with_reducible first | exact HB.out | apply below_alloc | apply pw_below_drewN | apply below_drew1) | exact HB.out))); (case aF => exact (fun _ _ => trivial)); (case aO => exact (by (with_reducible repeat (first | apply Kd.R_alloc | apply Kd.R_drewN | apply Kd.R_drew)); exact HO_3.out)); (case aS => exact (below_size (by repeat (first | (with_reducible first | exact HB.out | apply below_alloc | apply pw_below_drewN | apply below_drew1) | exact HB.out)))); (case aL => have := LMc5.out; omega); intro v212 w7 ho hb hg hat; rw [← Ny211.out] at ho; have n0_ := Aside0.mk (hb); have n1_ := Aside0.mk (ho); clear HB; clear HO_3; have HB := n0_; have HO213 := n1_; clear n0_ n1_; clear ho hb hg hat))
            go_roundg k1
            case measure => have := HK1.out; omega
            case rel => exact ⟨(y211), (wrap64 (x4_1 + 1)), (by first | rfl | (simp; done) | (simp [*]; done)), H', ⟨by have := HK1.out; omega⟩, ⟨by (with_reducible repeat (first | apply Kd.R_alloc | apply Kd.R_drewN | apply Kd.R_drew)); exact HO213.out⟩, ⟨by repeat (first | (with_reducible first | exact HB.out | apply below_alloc | apply pw_below_drewN | apply below_drew1) | exact HB.out)⟩⟩
          · rw [if_neg c5] at H
            exact absurd H (by simp)
        · rw [if_neg c3] at H
          exact absurd H (by simp)
      · rw [if_neg c2] at H
        have c2b0 : decide (x4_1 < (l0.length : Int)) = false := decide_eq_false c2
        clear c2
        obtain rfl := Option.some.inj H
        go_wp2
        go_ret
        exact ⟨_, by first | rfl | (simp [errW_none, errW_some] <;> rfl) | (simp [*, errW_none, errW_some] <;> rfl), by (with_reducible repeat (first | apply Kd.R_alloc | apply Kd.R_drewN | apply Kd.R_drew)); exact HO_3.out, by repeat (first | (with_reducible first | exact HB.out | apply below_alloc | apply pw_below_drewN | apply below_drew1) | exact HB.out)⟩

end Go.Proofs.Ytnakjencodicmaa.PA

-- ---- PAx50

namespace Go.Proofs.Ytnakjencodicmaa.PA
open Go.RowKit Go.Proofs.YtnakjencodicmaaW.PrintWords Go.Proofs.YtnakjencodicmaaW.PrintLast Go.Proofs.YtnakjencodicmaaW.PrintMore
attribute [local go_sem] max2_int min2_int max_two min_two max_three min_three max_four min_four   -- for this text's walks alone
set_option linter.unusedVariables false
set_option linter.unusedSimpArgs false

/-! ### wringerref7_Of: function 19 -/
def wringerref7_Of.l0 : Nat → List (S54) → List Int → Int → Option (List Int)
  | 0, _, _, _ => none
  | k + 1, x0, x3, x4 => if x4 < (x0.length : Int) then (if 0 ≤ x4 then (if ((rd_T54 x0 x4).f0) ≥ 0 then (if ((rd_T54 x0 x4).f0) < 65 then (if 0 ≤ ((rd_T54 x0 x4).f0) then (if ((rd_T54 x0 x4).f0) < (x3.length : Int) then (wringerref7_Of.l0 k x0 (x3.set (((rd_T54 x0 x4).f0) : Int).toNat (wrap64 ((rd x3 ((rd_T54 x0 x4).f0)) + 1))) (wrap64 (x4 + 1))) else (none)) else (none)) else (wringerref7_Of.l0 k x0 x3 (wrap64 (x4 + 1)))) else (wringerref7_Of.l0 k x0 x3 (wrap64 (x4 + 1)))) else (none)) else (some x3)
def wringerref7_Of.f (k : Nat) (l0 : List (S54)) : Option (List Int) := if 65 ≤ 35184372088832 then (wringerref7_Of.l0 k l0 (List.replicate 65 0) 0) else (none)
theorem wringerref7_Of.mono_l : ∀ k, (∀ y0 y1 y2, LeO (wringerref7_Of.l0 k y0 y1 y2) (wringerref7_Of.l0 (k + 1) y0 y1 y2))
  | 0 => fun _ _ _ r h => by simp [wringerref7_Of.l0] at h
  | k + 1 => by
    have ih0 := wringerref7_Of.mono_l k
    · intro y0 y1 y2
      unfold wringerref7_Of.l0
      repeat' first
      | (with_reducible exact ih0 _ _ _)
      | (with_reducible exact LeO.refl _)
      | (with_reducible exact LeO.none _)
      | (with_reducible refine LeO.ite ?_ ?_)
      | (with_reducible refine LeO.bind ?_ (fun _ => ?_))
      | exact ih0 _ _ _
      | exact LeO.none _
      | refine LeO.ite ?_ ?_
      | refine LeO.bind ?_ (fun _ => ?_)
theorem wringerref7_Of.mono : ∀ a0 k, LeO (wringerref7_Of.f k a0) (wringerref7_Of.f (k + 1) a0) := by
  intro a0 k
  have ih0 := wringerref7_Of.mono_l k
  unfold wringerref7_Of.f
  repeat' first
      | (with_reducible exact ih0 _ _ _)
      | (with_reducible exact LeO.refl _)
      | (with_reducible exact LeO.none _)
      | (with_reducible refine LeO.ite ?_ ?_)
      | (with_reducible refine LeO.bind ?_ (fun _ => ?_))
      | exact ih0 _ _ _
      | exact LeO.none _
      | refine LeO.ite ?_ ?_
      | refine LeO.bind ?_ (fun _ => ?_)
set_option maxHeartbeats 8000000 in
set_option maxRecDepth 100000 in
theorem wringerref7_Of.calls (k : Nat) (A0 : Option Addr) (c0 : Nat) (l0 : List (S54)) (r : List Int) (w : World) (hr0 : Kd.C k54 w A0 l0.length l0) (hc0 : l0.length ≤ c0) (h : wringerref7_Of.f k l0 = some r) :
    Calls Try.prog 19 #[.slice A0 l0.length c0] w fun e w' => ∃ v0_ : Value, e = .returned (v0_) ∧ Kd.R (Kd.int .i64) 3 w' w.heap.size (fun _ => True) v0_ r ∧ Below w.heap.size w w' := by
  have HR0 := Aside0.mk hr0
  have HC0 := Aside0.mk hc0
  clear hr0 hc0
  have HB := Aside0.mk (Below.refl w.heap.size w)
  have H : (if 65 ≤ 35184372088832 then (wringerref7_Of.l0 k l0 (List.replicate 65 0) 0) else (none)) = some r := h
  clear h
  by_cases c2 : 65 ≤ 35184372088832
  · rw [if_pos c2] at H
    have c2b0 := eq_true c2
    have c2b1 : decide (65 ≤ 35184372088832) = true := decide_eq_true c2
    clear c2
    obtain ⟨y288, hy288⟩ : ∃ y_ : List Int, y_ = (List.replicate 65 0) := ⟨_, rfl⟩
    replace H : (wringerref7_Of.l0 k l0 y288 0) = some r := by first | (rw [hy288]; with_reducible exact H) | (have H2_ := (Option.bind_some _ _).symm.trans H; rw [hy288]; with_reducible exact H2_) | (have H2_ := (Option.bind_some _ _).symm.trans H; with_reducible exact H2_) | with_reducible exact H | (rw [hy288]; exact H) | exact H
    have Ny288 := Aside0.mk hy288
    clear hy288
    have H' := Aside0.mk H
    clear H
    go_enter Try.func19, Try.ntmps19
    go_wp2_with (first | ((with_reducible refine gate_dst (N := 5) rfl ?_); refine Kd.R_make (Kd.int .i64) _ 3 rfl (N := 5) rfl 23 _ _ rfl 65 rfl rfl Try.underlying23 (.int .i64 0) 8 info3 rfl (by decide) (by omega) 0 (ok := fun _ => True) (okp := fun _ => True) rfl (fun _ hk => hk) trivial (by omega) (by omega) (Below.refl _ _) (Nat.le_refl _) ?_; intro v289 w3 ho4 hb hg_ hnew_; clear hg_ hnew_; (first | rw [← Ny288.out] at ho4 | (simp only [Int.reduceToNat] at ho4; rw [← Ny288.out] at ho4)); have n0_ := Aside0.mk (Kd.R_lower ho4 (below_size (by repeat (first | (with_reducible first | exact HB.out | apply below_alloc | apply pw_below_drewN | apply below_drew1) | exact HB.out)))); have n1_ := Aside0.mk (below_step (by repeat (first | (with_reducible first | exact HB.out | apply below_alloc | apply pw_below_drewN | apply below_drew1) | exact HB.out)) hb); clear HB; have HO290 := n0_; have HB := n1_; clear n0_ n1_; clear hb ho4))
    go_loopg [4] k (fun kq v4 w' => ∃ (x3_1 : List Int) (x4_1 : Int), v4 = .int .i64 x4_1 ∧ Aside0 (wringerref7_Of.l0 kq l0 x3_1 x4_1 = some r) ∧ Aside0 (kq ≤ k) ∧ Aside0 (Kd.R (Kd.int .i64) 3 w' w.heap.size (fun _ => True) v289 x3_1) ∧ Aside0 (Below w.heap.size w w'))
    case atStart => exact ⟨(y288), (0), (by first | rfl | (simp; done) | (simp [*]; done)), H', ⟨Nat.le_refl _⟩, ⟨by (with_reducible repeat (first | apply Kd.R_alloc | apply Kd.R_drewN | apply Kd.R_drew)); exact HO290.out⟩, ⟨by repeat (first | (with_reducible first | exact HB.out | apply below_alloc | apply pw_below_drewN | apply below_drew1) | exact HB.out)⟩⟩
    case round =>
      clear H'
      try clear c1
      try clear c2
      try clear c2b0
      try clear c2b1
      try clear p2
      obtain ⟨x3_1, x4_1, rfl, HA, HK1, HO_3, HB⟩ := hrel
      cases gk with
      | zero => exact absurd HA.out (by simp [wringerref7_Of.l0])
      | succ k1 =>
        have H := HA.out
        clear HA
        simp only [wringerref7_Of.l0] at H
        by_cases c5 : x4_1 < (l0.length : Int)
        · rw [if_pos c5] at H
          have c5b0 : decide (x4_1 < (l0.length : Int)) = true := decide_eq_true c5
          clear c5
          by_cases c6 : 0 ≤ x4_1
          · rw [if_pos c6] at H
            have c6b0 : decide (0 ≤ x4_1) = true := decide_eq_true c6
            clear c6
            by_cases c7 : ((rd_T54 l0 x4_1).f0) ≥ 0
            · rw [if_pos c7] at H
              have c7b0 : decide (0 ≤ ((rd_T54 l0 x4_1).f0)) = true := decide_eq_true c7
              clear c7
              by_cases c8 : ((rd_T54 l0 x4_1).f0) < 65
              · rw [if_pos c8] at H
                have c8b0 : decide (((rd_T54 l0 x4_1).f0) < 65) = true := decide_eq_true c8
                clear c8
                by_cases c9 : 0 ≤ ((rd_T54 l0 x4_1).f0)
                · rw [if_pos c9] at H
                  have c9b0 : decide (0 ≤ ((rd_T54 l0 x4_1).f0)) = true := decide_eq_true c9
                  clear c9
                  by_cases c10 : ((rd_T54 l0 x4_1).f0) < (x3_1.length : Int)
                  · rw [if_pos c10] at H
                    have c10b0 : decide (((rd_T54 l0 x4_1).f0) < (x3_1.length : Int)) = true := decide_eq_true c10
                    clear c10
                    obtain ⟨y295, hy295⟩ : ∃ y_ : List Int, y_ = (x3_1.set (((rd_T54 l0 x4_1).f0) : Int).toNat (wrap64 ((rd x3_1 ((rd_T54 l0 x4_1).f0)) + 1))) := ⟨_, rfl⟩
                    replace H : (wringerref7_Of.l0 k1 l0 y295 (wrap64 (x4_1 + 1))) = some r := by first | (rw [hy295]; with_reducible exact H) | (have H2_ := (Option.bind_some _ _).symm.trans H; rw [hy295]; with_reducible exact H2_) | (have H2_ := (Option.bind_some _ _).symm.trans H; with_reducible exact H2_) | with_reducible exact H | (rw [hy295]; exact H) | exact H
                    have Ny295 := Aside0.mk hy295
                    clear hy295
                    have H' := Aside0.mk H
                    clear H
                    have p291 : 0 ≤ (x4_1 : Int) := of_decide_eq_true (by first | (with_reducible assumption) | assumption)
                    have q291 : x4_1 < (l0.length : Int) := of_decide_eq_true (by first | (with_reducible assumption) | assumption)
                    obtain ⟨ad291, e291, hx291_0, hx291_1⟩ := at_T54 HR0.out x4_1 p291 q291
                    cases e291
                    replace hx291_0 := (HB.out.cell (World.block_lt_of_cell? w _ hx291_0)).trans hx291_0
                    replace hx291_1 := (HB.out.cell (World.block_lt_of_cell? w _ hx291_1)).trans hx291_1
                    replace p291 := eq_true p291
                    replace q291 := eq_true q291
                    have p292 : 0 ≤ (x4_1 : Int) := of_decide_eq_true (by first | (with_reducible assumption) | assumption)
                    have q292 : x4_1 < (l0.length : Int) := of_decide_eq_true (by first | (with_reducible assumption) | assumption)
                    obtain ⟨ad292, e292, hx292_0, hx292_1⟩ := at_T54 HR0.out x4_1 p292 q292
                    obtain rfl : ad291 = ad292 := (by injection e292)
                    replace hx292_0 := (HB.out.cell (World.block_lt_of_cell? w _ hx292_0)).trans hx292_0
                    replace hx292_1 := (HB.out.cell (World.block_lt_of_cell? w _ hx292_1)).trans hx292_1
                    replace p292 := eq_true p292
                    replace q292 := eq_true q292
                    have p293 : 0 ≤ (x4_1 : Int) := of_decide_eq_true (by first | (with_reducible assumption) | assumption)
                    have q293 : x4_1 < (l0.length : Int) := of_decide_eq_true (by first | (with_reducible assumption) | assumption)
                    obtain ⟨ad293, e293, hx293_0, hx293_1⟩ := at_T54 HR0.out x4_1 p293 q293
                    obtain rfl : ad291 = ad293 := (by injection e293)
                    replace hx293_0 := (HB.out.cell (World.block_lt_of_cell? w _ hx293_0)).trans hx293_0
                    replace hx293_1 := (HB.out.cell (World.block_lt_of_cell? w _ hx293_1)).trans hx293_1
                    replace p293 := eq_true p293
                    replace q293 := eq_true q293
                    obtain ⟨Ao12, co12, eo12⟩ := Kd.R_slice HO_3.out
                    subst eo12
                    have p294 : 0 ≤ (((rd_T54 l0 x4_1).f0) : Int) := of_decide_eq_true (by first | (with_reducible assumption) | assumption)
                    have q294 : ((rd_T54 l0 x4_1).f0) < (x3_1.length : Int) := of_decide_eq_true (by first | (with_reducible assumption) | assumption)
                    obtain ⟨ad294, e294, hx294_0⟩ := Kd.at_int (Kd.R_reads' HO_3.out).2.2 ((rd_T54 l0 x4_1).f0) p294 q294
                    cases e294
                    replace p294 := eq_true p294
                    replace q294 := eq_true q294
                    have p11 : 0 ≤ (((rd_T54 l0 x4_1).f0) : Int) := of_decide_eq_true (by first | (with_reducible assumption) | assumption)
                    have q11 : (((rd_T54 l0 x4_1).f0) : Int) < ((x3_1.length : Int) : Int) := of_decide_eq_true (by first | (with_reducible assumption) | assumption)
                    obtain ⟨go11, co11, eo11, gb11, gl11, cl11, HG11⟩ := Kd.R_form HO_3.out (by omega)
                    (first | cases eo11 | (injection eo11 with ea_ en_ ec_; (first | subst ea_ | (injection ea_ with ea_; subst ea_)); subst ec_; clear en_))
                    have GB11 := Aside0.mk gb11
                    have GG11 := Aside0.mk HG11
                    clear gb11 gl11 HG11
                    (first | simp only [add_plain] at hx294_0 | skip)
                    obtain ⟨hx11_0, hf11_0⟩ := Kd.R_celln 0 HO_3.out (((rd_T54 l0 x4_1).f0) : Int) p11 q11
                    replace p11 := eq_true p11
                    replace q11 := eq_true q11
                    have HP13 := Kd.R_putg HO_3.out (((rd_T54 l0 x4_1).f0) : Int) (wrap64 ((rd x3_1 ((rd_T54 l0 x4_1).f0)) + 1))
                    go_wp2_with (first | ((with_reducible refine gate_store (t := 3) (p := 35) rfl ?_); refine store_event (t := 3) (p := 35) (v := ?vo_w14) (w1 := (wr.setCell ⟨go11, (((rd_T54 l0 x4_1).f0) : Int).toNat, none⟩ (.int .i64 (wrap64 ((rd x3_1 ((rd_T54 l0 x4_1).f0)) + 1))))) ?hg ?ho ?hn ?hr ?_; (case ho => rfl); (case hg => rfl); (case hn => rfl); (case hr => first | (go_simp; done) | (go_simp; rfl)); intro w14 hw; have hg : wr.grownBy w14 (some go11) := (by rw [hw]; exact HP13.2); have hp_ : Kd.R (Kd.int .i64) 3 w14 w.heap.size (fun _ => True) (.slice (some ⟨go11, 0, none⟩) x3_1.length co12) y295 := (by rw [hw, Ny295.out]; exact HP13.1); clear HP13; have n0_ := Aside0.mk (hp_); have n1_ := Aside0.mk ((by rw [hw]; exact below_set (HB.out) GB11.out : Below w.heap.size w w14)); clear HO_3; clear HB; have HO_3 := n0_; have HB := n1_; clear n0_ n1_; clear hg hw hp_))
                    go_roundg k1
                    case measure => have := HK1.out; omega
                    case rel => exact ⟨(y295), (wrap64 (x4_1 + 1)), (by first | rfl | (simp; done) | (simp [*]; done)), H', ⟨by have := HK1.out; omega⟩, ⟨by (with_reducible repeat (first | apply Kd.R_alloc | apply Kd.R_drewN | apply Kd.R_drew)); exact HO_3.out⟩, ⟨by repeat (first | (with_reducible first | exact HB.out | apply below_alloc | apply pw_below_drewN | apply below_drew1) | exact HB.out)⟩⟩
                  · rw [if_neg c10] at H
                    exact absurd H (by simp)
                · rw [if_neg c9] at H
                  exact absurd H (by simp)
              · rw [if_neg c8] at H
                have c8b0 : decide (((rd_T54 l0 x4_1).f0) < 65) = false := decide_eq_false c8
                clear c8
                have H' := Aside0.mk H
                clear H
                have p291 : 0 ≤ (x4_1 : Int) := of_decide_eq_true (by first | (with_reducible assumption) | assumption)
                have q291 : x4_1 < (l0.length : Int) := of_decide_eq_true (by first | (with_reducible assumption) | assumption)
                obtain ⟨ad291, e291, hx291_0, hx291_1⟩ := at_T54 HR0.out x4_1 p291 q291
                cases e291
                replace hx291_0 := (HB.out.cell (World.block_lt_of_cell? w _ hx291_0)).trans hx291_0
                replace hx291_1 := (HB.out.cell (World.block_lt_of_cell? w _ hx291_1)).trans hx291_1
                replace p291 := eq_true p291
                replace q291 := eq_true q291
                have p292 : 0 ≤ (x4_1 : Int) := of_decide_eq_true (by first | (with_reducible assumption) | assumption)
                have q292 : x4_1 < (l0.length : Int) := of_decide_eq_true (by first | (with_reducible assumption) | assumption)
                obtain ⟨ad292, e292, hx292_0, hx292_1⟩ := at_T54 HR0.out x4_1 p292 q292
                obtain rfl : ad291 = ad292 := (by injection e292)
                replace hx292_0 := (HB.out.cell (World.block_lt_of_cell? w _ hx292_0)).trans hx292_0
                replace hx292_1 := (HB.out.cell (World.block_lt_of_cell? w _ hx292_1)).trans hx292_1
                replace p292 := eq_true p292
                replace q292 := eq_true q292
                go_wp2
                go_roundg k1
                case measure => have := HK1.out; omega
                case rel => exact ⟨(x3_1), (wrap64 (x4_1 + 1)), (by first | rfl | (simp; done) | (simp [*]; done)), H', ⟨by have := HK1.out; omega⟩, ⟨by (with_reducible repeat (first | apply Kd.R_alloc | apply Kd.R_drewN | apply Kd.R_drew)); exact HO_3.out⟩, ⟨by repeat (first | (with_reducible first | exact HB.out | apply below_alloc | apply pw_below_drewN | apply below_drew1) | exact HB.out)⟩⟩
            · rw [if_neg c7] at H
              have c7b0 : decide (0 ≤ ((rd_T54 l0 x4_1).f0)) = false := decide_eq_false c7
              clear c7
              have H' := Aside0.mk H
              clear H
              have p291 : 0 ≤ (x4_1 : Int) := of_decide_eq_true (by first | (with_reducible assumption) | assumption)
              have q291 : x4_1 < (l0.length : Int) := of_decide_eq_true (by first | (with_reducible assumption) | assumption)
              obtain ⟨ad291, e291, hx291_0, hx291_1⟩ := at_T54 HR0.out x4_1 p291 q291
              cases e291
              replace hx291_0 := (HB.out.cell (World.block_lt_of_cell? w _ hx291_0)).trans hx291_0
              replace hx291_1 := (HB.out.cell (World.block_lt_of_cell? w _ hx291_1)).trans hx291_1
              replace p291 := eq_true p291
              replace q291 := eq_true q291
              go_wp2
              go_roundg k1
              case measure => have := HK1.out; omega
              case rel => exact ⟨(x3_1), (wrap64 (x4_1 + 1)), (by first | rfl | (simp; done) | (simp [*]; done)), H', ⟨by have := HK1.out; omega⟩, ⟨by (with_reducible repeat (first | apply Kd.R_alloc | apply Kd.R_drewN | apply Kd.R_drew)); exact HO_3.out⟩, ⟨by repeat (first | (with_reducible first | exact HB.out | apply below_alloc | apply pw_below_drewN | apply below_drew1) | exact HB.out)⟩⟩
          · rw [if_neg c6] at H
            exact absurd H (by simp)
        · rw [if_neg c5] at H
          have c5b0 : decide (x4_1 < (l0.length : Int)) = false := decide_eq_false c5
          clear c5
          obtain rfl := Option.some.inj H
          go_wp2
          go_ret
          exact ⟨_, by first | rfl | (simp [errW_none, errW_some] <;> rfl) | (simp [*, errW_none, errW_some] <;> rfl), by (with_reducible repeat (first | apply Kd.R_alloc | apply Kd.R_drewN | apply Kd.R_drew)); exact HO_3.out, by repeat (first | (with_reducible first | exact HB.out | apply below_alloc | apply pw_below_drewN | apply below_drew1) | exact HB.out)⟩
  · rw [if_neg c2] at H
    exact absurd H (by simp)

end Go.Proofs.Ytnakjencodicmaa.PA

-- ---- PAx43

namespace Go.Proofs.Ytnakjencodicmaa.PA
open Go.RowKit Go.Proofs.YtnakjencodicmaaW.PrintWords Go.Proofs.YtnakjencodicmaaW.PrintLast Go.Proofs.YtnakjencodicmaaW.PrintMore
attribute [local go_sem] max2_int min2_int max_two min_two max_three min_three max_four min_four   -- for this text's walks alone
set_option linter.unusedVariables false
set_option linter.unusedSimpArgs false

/-! ### wringerlaw11_Numbers: function 17 -/
mutual
def wringerlaw11_Numbers.l0 : Nat → List Int → List Int → Int → Option (List Int)
  | 0, _, _, _ => none
  | k + 1, x0, x3, x4 => if x4 < (x0.length : Int) then (wringerlaw11_Numbers.j1 k x0 x3 x4 (decide (x4 < 60))) else (wringerlaw11_Numbers.j1 k x0 x3 x4 false)
def wringerlaw11_Numbers.j1 : Nat → List Int → List Int → Int → Bool → Option (List Int)
  | 0, _, _, _, _ => none
  | k + 1, x0, x3, x4, x13 => if x13 = true then (if 0 ≤ x4 then (if x4 < (x0.length : Int) then (if (Int.tmod (IntKind.u16.wrap (Int.tdiv (rd x0 x4) 1024)) 6) = 0 then (if x3.length < 17592186044416 then (wringerlaw11_Numbers.l0 k x0 (x3 ++ [Int.tmod (wrap64 (Int.tmod (rd x0 x4) 1024)) 3]) (wrap64 (x4 + 1))) else (none)) else (if (Int.tmod (IntKind.u16.wrap (Int.tdiv (rd x0 x4) 1024)) 6) = 1 then (if x3.length < 17592186044416 then (wringerlaw11_Numbers.l0 k x0 (x3 ++ [wrap64 (-(wrap64 (Int.tmod (rd x0 x4) 1024)))]) (wrap64 (x4 + 1))) else (none)) else (if (Int.tmod (IntKind.u16.wrap (Int.tdiv (rd x0 x4) 1024)) 6) = 2 then (if 0 ≤ (Int.tmod (rd x0 x4) 53) then (if x3.length < 17592186044416 then (wringerlaw11_Numbers.l0 k x0 (x3 ++ [shl .i64 (wrap64 (Int.tmod (rd x0 x4) 1024)) (Int.tmod (rd x0 x4) 53)]) (wrap64 (x4 + 1))) else (none)) else (none)) else (if (Int.tmod (IntKind.u16.wrap (Int.tdiv (rd x0 x4) 1024)) 6) = 3 then (if 0 ≤ (Int.tmod (rd x0 x4) 54) then (if x3.length < 17592186044416 then (wringerlaw11_Numbers.l0 k x0 (x3 ++ [shl .i64 (wrap64 (-(wrap64 (Int.tmod (rd x0 x4) 1024)))) (Int.tmod (rd x0 x4) 54)]) (wrap64 (x4 + 1))) else (none)) else (none)) else (if x3.length < 17592186044416 then (wringerlaw11_Numbers.l0 k x0 (x3 ++ [wrap64 (Int.tmod (rd x0 x4) 1024)]) (wrap64 (x4 + 1))) else (none)))))) else (none)) else (none)) else (some x3)
end
def wringerlaw11_Numbers.f (k : Nat) (l0 : List Int) : Option (List Int) := wringerlaw11_Numbers.l0 k l0 ([] : List Int) 0
theorem wringerlaw11_Numbers.mono_l : ∀ k, (∀ y0 y1 y2, LeO (wringerlaw11_Numbers.l0 k y0 y1 y2) (wringerlaw11_Numbers.l0 (k + 1) y0 y1 y2)) ∧ (∀ y0 y1 y2 y3, LeO (wringerlaw11_Numbers.j1 k y0 y1 y2 y3) (wringerlaw11_Numbers.j1 (k + 1) y0 y1 y2 y3))
  | 0 => ⟨fun _ _ _ r h => by simp [wringerlaw11_Numbers.l0] at h, fun _ _ _ _ r h => by simp [wringerlaw11_Numbers.j1] at h⟩
  | k + 1 => by
    obtain ⟨ih0, ih1⟩ := wringerlaw11_Numbers.mono_l k
    refine ⟨?_, ?_⟩
    · intro y0 y1 y2
      unfold wringerlaw11_Numbers.l0
      repeat' first
      | (with_reducible exact ih0 _ _ _)
      | (with_reducible exact ih1 _ _ _ _)
      | (with_reducible exact LeO.refl _)
      | (with_reducible exact LeO.none _)
      | (with_reducible refine LeO.ite ?_ ?_)
      | (with_reducible refine LeO.bind ?_ (fun _ => ?_))
      | exact ih0 _ _ _
      | exact ih1 _ _ _ _
      | exact LeO.none _
      | refine LeO.ite ?_ ?_
      | refine LeO.bind ?_ (fun _ => ?_)
    · intro y0 y1 y2 y3
      unfold wringerlaw11_Numbers.j1
      repeat' first
      | (with_reducible exact ih0 _ _ _)
      | (with_reducible exact ih1 _ _ _ _)
      | (with_reducible exact LeO.refl _)
      | (with_reducible exact LeO.none _)
      | (with_reducible refine LeO.ite ?_ ?_)
      | (with_reducible refine LeO.bind ?_ (fun _ => ?_))
      | exact ih0 _ _ _
      | exact ih1 _ _ _ _
      | exact LeO.none _
      | refine LeO.ite ?_ ?_
      | refine LeO.bind ?_ (fun _ => ?_)
theorem wringerlaw11_Numbers.mono : ∀ a0 k, LeO (wringerlaw11_Numbers.f k a0) (wringerlaw11_Numbers.f (k + 1) a0) := by
  intro a0 k
  obtain ⟨ih0, ih1⟩ := wringerlaw11_Numbers.mono_l k
  unfold wringerlaw11_Numbers.f
  repeat' first
      | (with_reducible exact ih0 _ _ _)
      | (with_reducible exact ih1 _ _ _ _)
      | (with_reducible exact LeO.refl _)
      | (with_reducible exact LeO.none _)
      | (with_reducible refine LeO.ite ?_ ?_)
      | (with_reducible refine LeO.bind ?_ (fun _ => ?_))
      | exact ih0 _ _ _
      | exact ih1 _ _ _ _
      | exact LeO.none _
      | refine LeO.ite ?_ ?_
      | refine LeO.bind ?_ (fun _ => ?_)
set_option maxHeartbeats 8000000 in
set_option maxRecDepth 100000 in
theorem wringerlaw11_Numbers.calls (k : Nat) (A0 : Option Addr) (c0 : Nat) (l0 : List Int) (r : List Int) (w : World) (hr0 : Kd.C (Kd.int .u16) w A0 l0.length l0) (hc0 : l0.length ≤ c0) (h : wringerlaw11_Numbers.f k l0 = some r) :
    Calls Try.prog 17 #[.slice A0 l0.length c0] w fun e w' => ∃ v0_ : Value, e = .returned (v0_) ∧ Kd.R (Kd.int .i64) 2 w' w.heap.size (fun _ => True) v0_ r ∧ Below w.heap.size w w' := by
  have HR0 := Aside0.mk hr0
  have HC0 := Aside0.mk hc0
  clear hr0 hc0
  have HB := Aside0.mk (Below.refl w.heap.size w)
  have H : (wringerlaw11_Numbers.l0 k l0 ([] : List Int) 0) = some r := h
  clear h
  have H' := Aside0.mk H
  clear H
  go_enter Try.func17, Try.ntmps17
  go_wp2
  go_loopg [3, 4] k (fun kq v3 v4 w' => ∃ (x3_1 : List Int) (x4_1 : Int), v4 = .int .i64 x4_1 ∧ Aside0 (wringerlaw11_Numbers.l0 kq l0 x3_1 x4_1 = some r) ∧ Aside0 (kq ≤ k) ∧ Aside0 (Kd.R (Kd.int .i64) 2 w' w.heap.size (fun _ => True) v3 x3_1) ∧ Aside0 (Below w.heap.size w w'))
  case atStart => exact ⟨(([] : List Int)), (0), (by first | rfl | (simp; done) | (simp [*]; done)), H', ⟨Nat.le_refl _⟩, ⟨by first | exact Kd.R_nil _ _ _ _ _ | exact Kd.N_nil _ _ _ _ _ | exact Kd.V_nil _ _ _ _ _ | exact Kd.Q_nil _ _ _ _ _ | exact Kd.S_nil _ _ _ _ _⟩, ⟨by repeat (first | (with_reducible first | exact HB.out | apply below_alloc | apply pw_below_drewN | apply below_drew1) | exact HB.out)⟩⟩
  case round =>
    clear H'
    try clear c1
    obtain ⟨x3_1, x4_1, rfl, HA, HK1, HO_3, HB⟩ := hrel
    cases gk with
    | zero => exact absurd HA.out (by simp [wringerlaw11_Numbers.l0])
    | succ k1 =>
      have H := HA.out
      clear HA
      simp only [wringerlaw11_Numbers.l0] at H
      have HC2 := Aside0.mk H
      clear H
      go_upto_region 3 with (fail)
      go_cut [13] (fun v13 wc => ∃ (kq : Nat) (x13_1 : Bool), v13 = .bool x13_1 ∧ Aside0 (wringerlaw11_Numbers.j1 kq l0 x3_1 x4_1 x13_1 = some r) ∧ Aside0 (kq ≤ k1) ∧ Aside0 (Kd.R (Kd.int .i64) 2 wc w.heap.size (fun _ => True) u3 x3_1) ∧ Aside0 (Below w.heap.size w wc))
      case first =>
        have H := HC2.out
        clear HC2
        by_cases c3 : x4_1 < (l0.length : Int)
        · rw [if_pos c3] at H
          have c3b0 : decide (x4_1 < (l0.length : Int)) = true := decide_eq_true c3
          clear c3
          (first | rw [c3b0] | (simp only [i64_w, i32_w]; rw [c3b0]) | skip)
          have H' := Aside0.mk H
          clear H
          go_wp2
          go_meet
          case rel => exact ⟨_, (decide (x4_1 < 60)), (by first | rfl | (simp; done) | (simp [*]; done)), H', ⟨by have := HK1.out; first | omega | exact Nat.le_refl _⟩, ⟨by (with_reducible repeat (first | apply Kd.R_alloc | apply Kd.R_drewN | apply Kd.R_drew)); exact HO_3.out⟩, ⟨by repeat (first | (with_reducible first | exact HB.out | apply below_alloc | apply pw_below_drewN | apply below_drew1) | exact HB.out)⟩⟩
        · rw [if_neg c3] at H
          have c3b0 : decide (x4_1 < (l0.length : Int)) = false := decide_eq_false c3
          clear c3
          (first | rw [c3b0] | (simp only [i64_w, i32_w]; rw [c3b0]) | skip)
          have H' := Aside0.mk H
          clear H
          go_wp2
          go_meet
          case rel => exact ⟨_, (false), (by first | rfl | (simp; done) | (simp [*]; done)), H', ⟨by have := HK1.out; first | omega | exact Nat.le_refl _⟩, ⟨by (with_reducible repeat (first | apply Kd.R_alloc | apply Kd.R_drewN | apply Kd.R_drew)); exact HO_3.out⟩, ⟨by repeat (first | (with_reducible first | exact HB.out | apply below_alloc | apply pw_below_drewN | apply below_drew1) | exact HB.out)⟩⟩
      case rest =>
        clear HC2
        try clear c1
        try clear p2
        try clear c3
        try clear c3b0
        obtain ⟨kq, x13_1, rfl, HA, HJ1, HO_3, HB⟩ := hcut
        cases kq with
        | zero => exact absurd HA.out (by simp [wringerlaw11_Numbers.j1])
        | succ kj1 =>
          have H := HA.out
          clear HA
          simp only [wringerlaw11_Numbers.j1] at H
          by_cases c4 : x13_1 = true
          · subst c4
            have H1 : (if 0 ≤ x4_1 then (if x4_1 < (l0.length : Int) then (if (Int.tmod (IntKind.u16.wrap (Int.tdiv (rd l0 x4_1) 1024)) 6) = 0 then (if x3_1.length < 17592186044416 then (wringerlaw11_Numbers.l0 kj1 l0 (x3_1 ++ [Int.tmod (wrap64 (Int.tmod (rd l0 x4_1) 1024)) 3]) (wrap64 (x4_1 + 1))) else (none)) else (if (Int.tmod (IntKind.u16.wrap (Int.tdiv (rd l0 x4_1) 1024)) 6) = 1 then (if x3_1.length < 17592186044416 then (wringerlaw11_Numbers.l0 kj1 l0 (x3_1 ++ [wrap64 (-(wrap64 (Int.tmod (rd l0 x4_1) 1024)))]) (wrap64 (x4_1 + 1))) else (none)) else (if (Int.tmod (IntKind.u16.wrap (Int.tdiv (rd l0 x4_1) 1024)) 6) = 2 then (if 0 ≤ (Int.tmod (rd l0 x4_1) 53) then (if x3_1.length < 17592186044416 then (wringerlaw11_Numbers.l0 kj1 l0 (x3_1 ++ [shl .i64 (wrap64 (Int.tmod (rd l0 x4_1) 1024)) (Int.tmod (rd l0 x4_1) 53)]) (wrap64 (x4_1 + 1))) else (none)) else (none)) else (if (Int.tmod (IntKind.u16.wrap (Int.tdiv (rd l0 x4_1) 1024)) 6) = 3 then (if 0 ≤ (Int.tmod (rd l0 x4_1) 54) then (if x3_1.length < 17592186044416 then (wringerlaw11_Numbers.l0 kj1 l0 (x3_1 ++ [shl .i64 (wrap64 (-(wrap64 (Int.tmod (rd l0 x4_1) 1024)))) (Int.tmod (rd l0 x4_1) 54)]) (wrap64 (x4_1 + 1))) else (none)) else (none)) else (if x3_1.length < 17592186044416 then (wringerlaw11_Numbers.l0 kj1 l0 (x3_1 ++ [wrap64 (Int.tmod (rd l0 x4_1) 1024)]) (wrap64 (x4_1 + 1))) else (none)))))) else (none)) else (none)) = some r := by rw [if_pos rfl] at H; exact H
            clear H
            have H := H1
            clear H1
            by_cases c5 : 0 ≤ x4_1
            · rw [if_pos c5] at H
              have c5b0 : decide (0 ≤ x4_1) = true := decide_eq_true c5
              clear c5
              by_cases c6 : x4_1 < (l0.length : Int)
              · rw [if_pos c6] at H
                have c6b0 : decide (x4_1 < (l0.length : Int)) = true := decide_eq_true c6
                clear c6
                by_cases c7 : (Int.tmod (IntKind.u16.wrap (Int.tdiv (rd l0 x4_1) 1024)) 6) = 0
                · rw [if_pos c7] at H
                  have c7b0 : ((Int.tmod (IntKind.u16.wrap (Int.tdiv (rd l0 x4_1) 1024)) 6) == 0) = true := beq_iff_eq.mpr c7
                  have c7b1 : ((Int.tmod (IntKind.u16.wrap (Int.tdiv (rd l0 x4_1) 1024)) 6) != 0) = false := bne_eq_false_iff_eq.mpr c7
                  clear c7
                  by_cases c8 : x3_1.length < 17592186044416
                  · rw [if_pos c8] at H
                    have LMc8 := Aside0.mk c8
                    clear c8
                    obtain ⟨y216, hy216⟩ : ∃ y_ : List Int, y_ = (x3_1 ++ [Int.tmod (wrap64 (Int.tmod (rd l0 x4_1) 1024)) 3]) := ⟨_, rfl⟩
                    replace H : (wringerlaw11_Numbers.l0 kj1 l0 y216 (wrap64 (x4_1 + 1))) = some r := by first | (rw [hy216]; with_reducible exact H) | (have H2_ := (Option.bind_some _ _).symm.trans H; rw [hy216]; with_reducible exact H2_) | (have H2_ := (Option.bind_some _ _).symm.trans H; with_reducible exact H2_) | with_reducible exact H | (rw [hy216]; exact H) | exact H
                    have Ny216 := Aside0.mk hy216
                    clear hy216
                    have H' := Aside0.mk H
                    clear H
                    have p214 : 0 ≤ (x4_1 : Int) := of_decide_eq_true (by first | (with_reducible assumption) | assumption)
                    have q214 : x4_1 < (l0.length : Int) := of_decide_eq_true (by first | (with_reducible assumption) | assumption)
                    obtain ⟨ad214, e214, hx214_0⟩ := Kd.at_int HR0.out x4_1 p214 q214
                    cases e214
                    replace hx214_0 := (HB.out.cell (World.block_lt_of_cell? w _ hx214_0)).trans hx214_0
                    replace p214 := eq_true p214
                    replace q214 := eq_true q214
                    have p215 : 0 ≤ (x4_1 : Int) := of_decide_eq_true (by first | (with_reducible assumption) | assumption)
                    have q215 : x4_1 < (l0.length : Int) := of_decide_eq_true (by first | (with_reducible assumption) | assumption)
                    obtain ⟨ad215, e215, hx215_0⟩ := Kd.at_int HR0.out x4_1 p215 q215
                    obtain rfl : ad214 = ad215 := (by injection e215)
                    replace hx215_0 := (HB.out.cell (World.block_lt_of_cell? w _ hx215_0)).trans hx215_0
                    replace p215 := eq_true p215
                    replace q215 := eq_true q215
                    go_wp2_with (first | ((with_reducible refine gate_builtin (b := .append) (xs := #[.tmp 55, .tmp 57]) rfl ?_); at_builtin; refine Kd.R_append (Kd.int .i64) (w0 := w) w.heap.size rfl (.tmp 55) (.tmp 57) 42 2 (.int .i64 0) 8 rfl Try.underlying42 info2 rfl (by decide) (by omega) u3 x3_1 (Int.tmod (wrap64 (Int.tmod (rd l0 x4_1) 1024)) 3) [.int .i64 (Int.tmod (wrap64 (Int.tmod (rd l0 x4_1) 1024)) 3)] (fun _ => True) (fun _ => False) rfl rfl ?aP (fun _ hk => hk.elim) ?aF ?aO ?aB ?aS ?aL ?_; (case aP => exact rfl); (case aB => exact (by repeat (first | (with_reducible first | exact HB.out | apply below_alloc | apply pw_below_drewN | apply below_drew1) | exact HB.out))); (case aF => exact (fun _ _ => trivial)); (case aO => exact (by (with_reducible repeat (first | apply Kd.R_alloc | apply Kd.R_drewN | apply Kd.R_drew)); exact HO_3.out)); (case aS => exact (below_size (by repeat (first | (with_reducible first | exact HB.out | apply below_alloc | apply pw_below_drewN | apply below_drew1) | exact HB.out)))); (case aL => have := LMc8.out; omega); intro v217 w9 ho hb hg hat; rw [← Ny216.out] at ho; have n0_ := Aside0.mk (hb); have n1_ := Aside0.mk (ho); clear HB; clear HO_3; have HB := n0_; have HO218 := n1_; clear n0_ n1_; clear ho hb hg hat))
                    go_roundg kj1
                    case measure => have := HK1.out; have := HJ1.out; omega
                    case rel => exact ⟨(y216), (wrap64 (x4_1 + 1)), (by first | rfl | (simp; done) | (simp [*]; done)), H', ⟨by have := HK1.out; have := HJ1.out; omega⟩, ⟨by (with_reducible repeat (first | apply Kd.R_alloc | apply Kd.R_drewN | apply Kd.R_drew)); exact HO218.out⟩, ⟨by repeat (first | (with_reducible first | exact HB.out | apply below_alloc | apply pw_below_drewN | apply below_drew1) | exact HB.out)⟩⟩
                  · rw [if_neg c8] at H
                    exact absurd H (by simp)
                · rw [if_neg c7] at H
                  have c7b0 : ((Int.tmod (IntKind.u16.wrap (Int.tdiv (rd l0 x4_1) 1024)) 6) == 0) = false := beq_eq_false_iff_ne.mpr c7
                  have c7b1 : ((Int.tmod (IntKind.u16.wrap (Int.tdiv (rd l0 x4_1) 1024)) 6) != 0) = true := bne_iff_ne.mpr c7
                  by_cases c10 : (Int.tmod (IntKind.u16.wrap (Int.tdiv (rd l0 x4_1) 1024)) 6) = 1
                  · rw [if_pos c10] at H
                    have c10b0 : ((Int.tmod (IntKind.u16.wrap (Int.tdiv (rd l0 x4_1) 1024)) 6) == 1) = true := beq_iff_eq.mpr c10
                    have c10b1 : ((Int.tmod (IntKind.u16.wrap (Int.tdiv (rd l0 x4_1) 1024)) 6) != 1) = false := bne_eq_false_iff_eq.mpr c10
                    clear c10
                    by_cases c11 : x3_1.length < 17592186044416
                    · rw [if_pos c11] at H
                      have LMc11 := Aside0.mk c11
                      clear c11
                      obtain ⟨y219, hy219⟩ : ∃ y_ : List Int, y_ = (x3_1 ++ [wrap64 (-(wrap64 (Int.tmod (rd l0 x4_1) 1024)))]) := ⟨_, rfl⟩
                      replace H : (wringerlaw11_Numbers.l0 kj1 l0 y219 (wrap64 (x4_1 + 1))) = some r := by first | (rw [hy219]; with_reducible exact H) | (have H2_ := (Option.bind_some _ _).symm.trans H; rw [hy219]; with_reducible exact H2_) | (have H2_ := (Option.bind_some _ _).symm.trans H; with_reducible exact H2_) | with_reducible exact H | (rw [hy219]; exact H) | exact H
                      have Ny219 := Aside0.mk hy219
                      clear hy219
                      have H' := Aside0.mk H
                      clear H
                      have p214 : 0 ≤ (x4_1 : Int) := of_decide_eq_true (by first | (with_reducible assumption) | assumption)
                      have q214 : x4_1 < (l0.length : Int) := of_decide_eq_true (by first | (with_reducible assumption) | assumption)
                      obtain ⟨ad214, e214, hx214_0⟩ := Kd.at_int HR0.out x4_1 p214 q214
                      cases e214
                      replace hx214_0 := (HB.out.cell (World.block_lt_of_cell? w _ hx214_0)).trans hx214_0
                      replace p214 := eq_true p214
                      replace q214 := eq_true q214
                      have p215 : 0 ≤ (x4_1 : Int) := of_decide_eq_true (by first | (with_reducible assumption) | assumption)
                      have q215 : x4_1 < (l0.length : Int) := of_decide_eq_true (by first | (with_reducible assumption) | assumption)
                      obtain ⟨ad215, e215, hx215_0⟩ := Kd.at_int HR0.out x4_1 p215 q215
                      obtain rfl : ad214 = ad215 := (by injection e215)
                      replace hx215_0 := (HB.out.cell (World.block_lt_of_cell? w _ hx215_0)).trans hx215_0
                      replace p215 := eq_true p215
                      replace q215 := eq_true q215
                      go_wp2_with (first | ((with_reducible refine gate_builtin (b := .append) (xs := #[.tmp 55, .tmp 57]) rfl ?_); at_builtin; refine Kd.R_append (Kd.int .i64) (w0 := w) w.heap.size rfl (.tmp 55) (.tmp 57) 42 2 (.int .i64 0) 8 rfl Try.underlying42 info2 rfl (by decide) (by omega) u3 x3_1 (wrap64 (-(wrap64 (Int.tmod (rd l0 x4_1) 1024)))) [.int .i64 (wrap64 (-(wrap64 (Int.tmod (rd l0 x4_1) 1024))))] (fun _ => True) (fun _ => False) rfl rfl ?aP (fun _ hk => hk.elim) ?aF ?aO ?aB ?aS ?aL ?_; (case aP => exact rfl); (case aB => exact (by repeat (first | (with_reducible first | exact HB.out | apply below_alloc | apply pw_below_drewN | apply below_drew1) | exact HB.out))); (case aF => exact (fun _ _ => trivial)); (case aO => exact (by (with_reducible repeat (first | apply Kd.R_alloc | apply Kd.R_drewN | apply Kd.R_drew)); exact HO_3.out)); (case aS => exact (below_size (by repeat (first | (with_reducible first | exact HB.out | apply below_alloc | apply pw_below_drewN | apply below_drew1) | exact HB.out)))); (case aL => have := LMc11.out; omega); intro v220 w12 ho hb hg hat; rw [← Ny219.out] at ho; have n0_ := Aside0.mk (hb); have n1_ := Aside0.mk (ho); clear HB; clear HO_3; have HB := n0_; have HO221 := n1_; clear n0_ n1_; clear ho hb hg hat))
                      go_roundg kj1
                      case measure => have := HK1.out; have := HJ1.out; omega
                      case rel => exact ⟨(y219), (wrap64 (x4_1 + 1)), (by first | rfl | (simp; done) | (simp [*]; done)), H', ⟨by have := HK1.out; have := HJ1.out; omega⟩, ⟨by (with_reducible repeat (first | apply Kd.R_alloc | apply Kd.R_drewN | apply Kd.R_drew)); exact HO221.out⟩, ⟨by repeat (first | (with_reducible first | exact HB.out | apply below_alloc | apply pw_below_drewN | apply below_drew1) | exact HB.out)⟩⟩
                    · rw [if_neg c11] at H
                      exact absurd H (by simp)
                  · rw [if_neg c10] at H
                    have c10b0 : ((Int.tmod (IntKind.u16.wrap (Int.tdiv (rd l0 x4_1) 1024)) 6) == 1) = false := beq_eq_false_iff_ne.mpr c10
                    have c10b1 : ((Int.tmod (IntKind.u16.wrap (Int.tdiv (rd l0 x4_1) 1024)) 6) != 1) = true := bne_iff_ne.mpr c10
                    by_cases c13 : (Int.tmod (IntKind.u16.wrap (Int.tdiv (rd l0 x4_1) 1024)) 6) = 2
                    · rw [if_pos c13] at H
                      have c13b0 : ((Int.tmod (IntKind.u16.wrap (Int.tdiv (rd l0 x4_1) 1024)) 6) == 2) = true := beq_iff_eq.mpr c13
                      have c13b1 : ((Int.tmod (IntKind.u16.wrap (Int.tdiv (rd l0 x4_1) 1024)) 6) != 2) = false := bne_eq_false_iff_eq.mpr c13
                      clear c13
                      obtain ⟨ji14, hji14⟩ : ∃ j_ : Int, (Int.tmod (rd l0 x4_1) 53) = j_ := ⟨_, rfl⟩
                      replace H : (if 0 ≤ (ji14) then (if x3_1.length < 17592186044416 then (wringerlaw11_Numbers.l0 kj1 l0 (x3_1 ++ [shl .i64 (wrap64 (Int.tmod (rd l0 x4_1) 1024)) (ji14)]) (wrap64 (x4_1 + 1))) else (none)) else (none)) = some r := by first | (rw [hji14] at H; exact H) | (simp only [hji14] at H ⊢; exact H)
                      by_cases c15 : 0 ≤ (ji14)
                      · rw [if_pos c15] at H
                        have c15b0 := eq_true c15
                        have c15b1 : decide (0 ≤ (ji14)) = true := decide_eq_true c15
                        clear c15
                        obtain ⟨ji16, hji16⟩ : ∃ j_ : Int, (shl .i64 (wrap64 (Int.tmod (rd l0 x4_1) 1024)) (ji14)) = j_ := ⟨_, rfl⟩
                        replace H : (if x3_1.length < 17592186044416 then (wringerlaw11_Numbers.l0 kj1 l0 (x3_1 ++ [ji16]) (wrap64 (x4_1 + 1))) else (none)) = some r := by first | (rw [hji16] at H; exact H) | (simp only [hji16] at H ⊢; exact H)
                        have hji16_ : (IntKind.i64.wrap ((wrap64 (Int.tmod (rd l0 x4_1) 1024)) * 2 ^ min (ji14).toNat 64)) = ji16 := hji16
                        have hji16z : (ji14) ≤ 64 → (IntKind.i64.wrap ((wrap64 (Int.tmod (rd l0 x4_1) 1024)) * 2 ^ (ji14).toNat)) = ji16 := shl_small hji16
                        have hji16y : (wrap64 ((wrap64 (Int.tmod (rd l0 x4_1) 1024)) * 2 ^ min (ji14).toNat 64)) = ji16 := (i64_w _).symm.trans hji16_
                        have hji16x : (ji14) ≤ 64 → (wrap64 ((wrap64 (Int.tmod (rd l0 x4_1) 1024)) * 2 ^ (ji14).toNat)) = ji16 := fun h_ => (i64_w _).symm.trans (hji16z h_)
                        by_cases c17 : x3_1.length < 17592186044416
                        · rw [if_pos c17] at H
                          have LMc17 := Aside0.mk c17
                          clear c17
                          obtain ⟨y223, hy223⟩ : ∃ y_ : List Int, y_ = (x3_1 ++ [ji16]) := ⟨_, rfl⟩
                          replace H : (wringerlaw11_Numbers.l0 kj1 l0 y223 (wrap64 (x4_1 + 1))) = some r := by first | (rw [hy223]; with_reducible exact H) | (have H2_ := (Option.bind_some _ _).symm.trans H; rw [hy223]; with_reducible exact H2_) | (have H2_ := (Option.bind_some _ _).symm.trans H; with_reducible exact H2_) | with_reducible exact H | (rw [hy223]; exact H) | exact H
                          have Ny223 := Aside0.mk hy223
                          clear hy223
                          have H' := Aside0.mk H
                          clear H
                          have p214 : 0 ≤ (x4_1 : Int) := of_decide_eq_true (by first | (with_reducible assumption) | assumption)
                          have q214 : x4_1 < (l0.length : Int) := of_decide_eq_true (by first | (with_reducible assumption) | assumption)
                          obtain ⟨ad214, e214, hx214_0⟩ := Kd.at_int HR0.out x4_1 p214 q214
                          cases e214
                          replace hx214_0 := (HB.out.cell (World.block_lt_of_cell? w _ hx214_0)).trans hx214_0
                          replace p214 := eq_true p214
                          replace q214 := eq_true q214
                          have p215 : 0 ≤ (x4_1 : Int) := of_decide_eq_true (by first | (with_reducible assumption) | assumption)
                          have q215 : x4_1 < (l0.length : Int) := of_decide_eq_true (by first | (with_reducible assumption) | assumption)
                          obtain ⟨ad215, e215, hx215_0⟩ := Kd.at_int HR0.out x4_1 p215 q215
                          obtain rfl : ad214 = ad215 := (by injection e215)
                          replace hx215_0 := (HB.out.cell (World.block_lt_of_cell? w _ hx215_0)).trans hx215_0
                          replace p215 := eq_true p215
                          replace q215 := eq_true q215
                          have p222 : 0 ≤ (x4_1 : Int) := of_decide_eq_true (by first | (with_reducible assumption) | assumption)
                          have q222 : x4_1 < (l0.length : Int) := of_decide_eq_true (by first | (with_reducible assumption) | assumption)
                          obtain ⟨ad222, e222, hx222_0⟩ := Kd.at_int HR0.out x4_1 p222 q222
                          obtain rfl : ad214 = ad222 := (by injection e222)
                          replace hx222_0 := (HB.out.cell (World.block_lt_of_cell? w _ hx222_0)).trans hx222_0
                          replace p222 := eq_true p222
                          replace q222 := eq_true q222
                          go_wp2_with (first | ((with_reducible refine gate_builtin (b := .append) (xs := #[.tmp 55, .tmp 57]) rfl ?_); at_builtin; refine Kd.R_append (Kd.int .i64) (w0 := w) w.heap.size rfl (.tmp 55) (.tmp 57) 42 2 (.int .i64 0) 8 rfl Try.underlying42 info2 rfl (by decide) (by omega) u3 x3_1 ji16 [.int .i64 ji16] (fun _ => True) (fun _ => False) rfl rfl ?aP (fun _ hk => hk.elim) ?aF ?aO ?aB ?aS ?aL ?_; (case aP => exact rfl); (case aB => exact (by repeat (first | (with_reducible first | exact HB.out | apply below_alloc | apply pw_below_drewN | apply below_drew1) | exact HB.out))); (case aF => exact (fun _ _ => trivial)); (case aO => exact (by (with_reducible repeat (first | apply Kd.R_alloc | apply Kd.R_drewN | apply Kd.R_drew)); exact HO_3.out)); (case aS => exact (below_size (by repeat (first | (with_reducible first | exact HB.out | apply below_alloc | apply pw_below_drewN | apply below_drew1) | exact HB.out)))); (case aL => have := LMc17.out; omega); intro v224 w18 ho hb hg hat; rw [← Ny223.out] at ho; have n0_ := Aside0.mk (hb); have n1_ := Aside0.mk (ho); clear HB; clear HO_3; have HB := n0_; have HO225 := n1_; clear n0_ n1_; clear ho hb hg hat))
                          go_roundg kj1
                          case measure => have := HK1.out; have := HJ1.out; omega
                          case rel => exact ⟨(y223), (wrap64 (x4_1 + 1)), (by first | rfl | (simp; done) | (simp [*]; done)), H', ⟨by have := HK1.out; have := HJ1.out; omega⟩, ⟨by (with_reducible repeat (first | apply Kd.R_alloc | apply Kd.R_drewN | apply Kd.R_drew)); exact HO225.out⟩, ⟨by repeat (first | (with_reducible first | exact HB.out | apply below_alloc | apply pw_below_drewN | apply below_drew1) | exact HB.out)⟩⟩
                        · rw [if_neg c17] at H
                          exact absurd H (by simp)
                      · rw [if_neg c15] at H
                        exact absurd H (by simp)
                    · rw [if_neg c13] at H
                      have c13b0 : ((Int.tmod (IntKind.u16.wrap (Int.tdiv (rd l0 x4_1) 1024)) 6) == 2) = false := beq_eq_false_iff_ne.mpr c13
                      have c13b1 : ((Int.tmod (IntKind.u16.wrap (Int.tdiv (rd l0 x4_1) 1024)) 6) != 2) = true := bne_iff_ne.mpr c13
                      by_cases c19 : (Int.tmod (IntKind.u16.wrap (Int.tdiv (rd l0 x4_1) 1024)) 6) = 3
                      · rw [if_pos c19] at H
                        have c19b0 : ((Int.tmod (IntKind.u16.wrap (Int.tdiv (rd l0 x4_1) 1024)) 6) == 3) = true := beq_iff_eq.mpr c19
                        have c19b1 : ((Int.tmod (IntKind.u16.wrap (Int.tdiv (rd l0 x4_1) 1024)) 6) != 3) = false := bne_eq_false_iff_eq.mpr c19
                        clear c19
                        obtain ⟨ji20, hji20⟩ : ∃ j_ : Int, (Int.tmod (rd l0 x4_1) 54) = j_ := ⟨_, rfl⟩
                        replace H : (if 0 ≤ (ji20) then (if x3_1.length < 17592186044416 then (wringerlaw11_Numbers.l0 kj1 l0 (x3_1 ++ [shl .i64 (wrap64 (-(wrap64 (Int.tmod (rd l0 x4_1) 1024)))) (ji20)]) (wrap64 (x4_1 + 1))) else (none)) else (none)) = some r := by first | (rw [hji20] at H; exact H) | (simp only [hji20] at H ⊢; exact H)
                        by_cases c21 : 0 ≤ (ji20)
                        · rw [if_pos c21] at H
                          have c21b0 := eq_true c21
                          have c21b1 : decide (0 ≤ (ji20)) = true := decide_eq_true c21
                          clear c21
                          obtain ⟨ji22, hji22⟩ : ∃ j_ : Int, (shl .i64 (wrap64 (-(wrap64 (Int.tmod (rd l0 x4_1) 1024)))) (ji20)) = j_ := ⟨_, rfl⟩
                          replace H : (if x3_1.length < 17592186044416 then (wringerlaw11_Numbers.l0 kj1 l0 (x3_1 ++ [ji22]) (wrap64 (x4_1 + 1))) else (none)) = some r := by first | (rw [hji22] at H; exact H) | (simp only [hji22] at H ⊢; exact H)
                          have hji22_ : (IntKind.i64.wrap ((wrap64 (-(wrap64 (Int.tmod (rd l0 x4_1) 1024)))) * 2 ^ min (ji20).toNat 64)) = ji22 := hji22
                          have hji22z : (ji20) ≤ 64 → (IntKind.i64.wrap ((wrap64 (-(wrap64 (Int.tmod (rd l0 x4_1) 1024)))) * 2 ^ (ji20).toNat)) = ji22 := shl_small hji22
                          have hji22y : (wrap64 ((wrap64 (-(wrap64 (Int.tmod (rd l0 x4_1) 1024)))) * 2 ^ min (ji20).toNat 64)) = ji22 := (i64_w _).symm.trans hji22_
                          have hji22x : (ji20) ≤ 64 → (wrap64 ((wrap64 (-(wrap64 (Int.tmod (rd l0 x4_1) 1024)))) * 2 ^ (ji20).toNat)) = ji22 := fun h_ => (i64_w _).symm.trans (hji22z h_)
                          by_cases c23 : x3_1.length < 17592186044416
                          · rw [if_pos c23] at H
                            have LMc23 := Aside0.mk c23
                            clear c23
                            obtain ⟨y227, hy227⟩ : ∃ y_ : List Int, y_ = (x3_1 ++ [ji22]) := ⟨_, rfl⟩
                            replace H : (wringerlaw11_Numbers.l0 kj1 l0 y227 (wrap64 (x4_1 + 1))) = some r := by first | (rw [hy227]; with_reducible exact H) | (have H2_ := (Option.bind_some _ _).symm.trans H; rw [hy227]; with_reducible exact H2_) | (have H2_ := (Option.bind_some _ _).symm.trans H; with_reducible exact H2_) | with_reducible exact H | (rw [hy227]; exact H) | exact H
                            have Ny227 := Aside0.mk hy227
                            clear hy227
                            have H' := Aside0.mk H
                            clear H
                            have p214 : 0 ≤ (x4_1 : Int) := of_decide_eq_true (by first | (with_reducible assumption) | assumption)
                            have q214 : x4_1 < (l0.length : Int) := of_decide_eq_true (by first | (with_reducible assumption) | assumption)
                            obtain ⟨ad214, e214, hx214_0⟩ := Kd.at_int HR0.out x4_1 p214 q214
                            cases e214
                            replace hx214_0 := (HB.out.cell (World.block_lt_of_cell? w _ hx214_0)).trans hx214_0
                            replace p214 := eq_true p214
                            replace q214 := eq_true q214
                            have p215 : 0 ≤ (x4_1 : Int) := of_decide_eq_true (by first | (with_reducible assumption) | assumption)
                            have q215 : x4_1 < (l0.length : Int) := of_decide_eq_true (by first | (with_reducible assumption) | assumption)
                            obtain ⟨ad215, e215, hx215_0⟩ := Kd.at_int HR0.out x4_1 p215 q215
                            obtain rfl : ad214 = ad215 := (by injection e215)
                            replace hx215_0 := (HB.out.cell (World.block_lt_of_cell? w _ hx215_0)).trans hx215_0
                            replace p215 := eq_true p215
                            replace q215 := eq_true q215
                            have p226 : 0 ≤ (x4_1 : Int) := of_decide_eq_true (by first | (with_reducible assumption) | assumption)
                            have q226 : x4_1 < (l0.length : Int) := of_decide_eq_true (by first | (with_reducible assumption) | assumption)
                            obtain ⟨ad226, e226, hx226_0⟩ := Kd.at_int HR0.out x4_1 p226 q226
                            obtain rfl : ad214 = ad226 := (by injection e226)
                            replace hx226_0 := (HB.out.cell (World.block_lt_of_cell? w _ hx226_0)).trans hx226_0
                            replace p226 := eq_true p226
                            replace q226 := eq_true q226
                            go_wp2_with (first | ((with_reducible refine gate_builtin (b := .append) (xs := #[.tmp 55, .tmp 57]) rfl ?_); at_builtin; refine Kd.R_append (Kd.int .i64) (w0 := w) w.heap.size rfl (.tmp 55) (.tmp 57) 42 2 (.int .i64 0) 8 rfl Try.underlying42 info2 rfl (by decide) (by omega) u3 x3_1 ji22 [.int .i64 ji22] (fun _ => True) (fun _ => False) rfl rfl ?aP (fun _ hk => hk.elim) ?aF ?aO ?aB ?aS ?aL ?_; (case aP => exact rfl); (case aB => exact (by repeat (first | (with_reducible first | exact HB.out | apply below_alloc | apply pw_below_drewN | apply below_drew1) | exact HB.out))); (case aF => exact (fun _ _ => trivial)); (case aO => exact (by (with_reducible repeat (first | apply Kd.R_alloc | apply Kd.R_drewN | apply Kd.R_drew)); exact HO_3.out)); (case aS => exact (below_size (by repeat (first | (with_reducible first | exact HB.out | apply below_alloc | apply pw_below_drewN | apply below_drew1) | exact HB.out)))); (case aL => have := LMc23.out; omega); intro v228 w24 ho hb hg hat; rw [← Ny227.out] at ho; have n0_ := Aside0.mk (hb); have n1_ := Aside0.mk (ho); clear HB; clear HO_3; have HB := n0_; have HO229 := n1_; clear n0_ n1_; clear ho hb hg hat))
                            go_roundg kj1
                            case measure => have := HK1.out; have := HJ1.out; omega
                            case rel => exact ⟨(y227), (wrap64 (x4_1 + 1)), (by first | rfl | (simp; done) | (simp [*]; done)), H', ⟨by have := HK1.out; have := HJ1.out; omega⟩, ⟨by (with_reducible repeat (first | apply Kd.R_alloc | apply Kd.R_drewN | apply Kd.R_drew)); exact HO229.out⟩, ⟨by repeat (first | (with_reducible first | exact HB.out | apply below_alloc | apply pw_below_drewN | apply below_drew1) | exact HB.out)⟩⟩
                          · rw [if_neg c23] at H
                            exact absurd H (by simp)
                        · rw [if_neg c21] at H
                          exact absurd H (by simp)
                      · rw [if_neg c19] at H
                        have c19b0 : ((Int.tmod (IntKind.u16.wrap (Int.tdiv (rd l0 x4_1) 1024)) 6) == 3) = false := beq_eq_false_iff_ne.mpr c19
                        have c19b1 : ((Int.tmod (IntKind.u16.wrap (Int.tdiv (rd l0 x4_1) 1024)) 6) != 3) = true := bne_iff_ne.mpr c19
                        by_cases c25 : x3_1.length < 17592186044416
                        · rw [if_pos c25] at H
                          have LMc25 := Aside0.mk c25
                          clear c25
                          obtain ⟨y230, hy230⟩ : ∃ y_ : List Int, y_ = (x3_1 ++ [wrap64 (Int.tmod (rd l0 x4_1) 1024)]) := ⟨_, rfl⟩
                          replace H : (wringerlaw11_Numbers.l0 kj1 l0 y230 (wrap64 (x4_1 + 1))) = some r := by first | (rw [hy230]; with_reducible exact H) | (have H2_ := (Option.bind_some _ _).symm.trans H; rw [hy230]; with_reducible exact H2_) | (have H2_ := (Option.bind_some _ _).symm.trans H; with_reducible exact H2_) | with_reducible exact H | (rw [hy230]; exact H) | exact H
                          have Ny230 := Aside0.mk hy230
                          clear hy230
                          have H' := Aside0.mk H
                          clear H
                          have p214 : 0 ≤ (x4_1 : Int) := of_decide_eq_true (by first | (with_reducible assumption) | assumption)
                          have q214 : x4_1 < (l0.length : Int) := of_decide_eq_true (by first | (with_reducible assumption) | assumption)
                          obtain ⟨ad214, e214, hx214_0⟩ := Kd.at_int HR0.out x4_1 p214 q214
                          cases e214
                          replace hx214_0 := (HB.out.cell (World.block_lt_of_cell? w _ hx214_0)).trans hx214_0
                          replace p214 := eq_true p214
                          replace q214 := eq_true q214
                          have p215 : 0 ≤ (x4_1 : Int) := of_decide_eq_true (by first | (with_reducible assumption) | assumption)
                          have q215 : x4_1 < (l0.length : Int) := of_decide_eq_true (by first | (with_reducible assumption) | assumption)
                          obtain ⟨ad215, e215, hx215_0⟩ := Kd.at_int HR0.out x4_1 p215 q215
                          obtain rfl : ad214 = ad215 := (by injection e215)
                          replace hx215_0 := (HB.out.cell (World.block_lt_of_cell? w _ hx215_0)).trans hx215_0
                          replace p215 := eq_true p215
                          replace q215 := eq_true q215
                          go_wp2_with (first | ((with_reducible refine gate_builtin (b := .append) (xs := #[.tmp 55, .tmp 57]) rfl ?_); at_builtin; refine Kd.R_append (Kd.int .i64) (w0 := w) w.heap.size rfl (.tmp 55) (.tmp 57) 42 2 (.int .i64 0) 8 rfl Try.underlying42 info2 rfl (by decide) (by omega) u3 x3_1 (wrap64 (Int.tmod (rd l0 x4_1) 1024)) [.int .i64 (wrap64 (Int.tmod (rd l0 x4_1) 1024))] (fun _ => True) (fun _ => False) rfl rfl ?aP (fun _ hk => hk.elim) ?aF ?aO ?aB ?aS ?aL ?_; (case aP => exact rfl); (case aB => exact (by repeat (first | (with_reducible first | exact HB.out | apply below_alloc | apply pw_below_drewN | apply below_drew1) | exact HB.out))); (case aF => exact (fun _ _ => trivial)); (case aO => exact (by (with_reducible repeat (first | apply Kd.R_alloc | apply Kd.R_drewN | apply Kd.R_drew)); exact HO_3.out)); (case aS => exact (below_size (by repeat (first | (with_reducible first | exact HB.out | apply below_alloc | apply pw_below_drewN | apply below_drew1) | exact HB.out)))); (case aL => have := LMc25.out; omega); intro v231 w26 ho hb hg hat; rw [← Ny230.out] at ho; have n0_ := Aside0.mk (hb); have n1_ := Aside0.mk (ho); clear HB; clear HO_3; have HB := n0_; have HO232 := n1_; clear n0_ n1_; clear ho hb hg hat))
                          go_roundg kj1
                          case measure => have := HK1.out; have := HJ1.out; omega
                          case rel => exact ⟨(y230), (wrap64 (x4_1 + 1)), (by first | rfl | (simp; done) | (simp [*]; done)), H', ⟨by have := HK1.out; have := HJ1.out; omega⟩, ⟨by (with_reducible repeat (first | apply Kd.R_alloc | apply Kd.R_drewN | apply Kd.R_drew)); exact HO232.out⟩, ⟨by repeat (first | (with_reducible first | exact HB.out | apply below_alloc | apply pw_below_drewN | apply below_drew1) | exact HB.out)⟩⟩
                        · rw [if_neg c25] at H
                          exact absurd H (by simp)
              · rw [if_neg c6] at H
                exact absurd H (by simp)
            · rw [if_neg c5] at H
              exact absurd H (by simp)
          · replace c4 := Bool.eq_false_iff.mpr c4
            subst c4
            have H1 : (some x3_1) = some r := by rw [if_neg (show ¬ (false = true) by decide)] at H; exact H
            clear H
            have H := H1
            clear H1
            obtain rfl := Option.some.inj H
            go_wp2
            go_ret
            exact ⟨_, by first | rfl | (simp [errW_none, errW_some] <;> rfl) | (simp [*, errW_none, errW_some] <;> rfl), by (with_reducible repeat (first | apply Kd.R_alloc | apply Kd.R_drewN | apply Kd.R_drew)); exact HO_3.out, by repeat (first | (with_reducible first | exact HB.out | apply below_alloc | apply pw_below_drewN | apply below_drew1) | exact HB.out)⟩

end Go.Proofs.Ytnakjencodicmaa.PA

-- ---- Unu
/- Numbers by numbers, their parts, how often each class comes: what the print's functions come to (layer 11). No program in sight. Conditions: those named. -/
namespace Go.Proofs.Ytnakjencodicmaa.PA
set_option maxRecDepth 100000
set_option linter.unusedVariables false
set_option linter.unusedSimpArgs false
open Go.RowKit Go.Proofs.YtnakjencodicmaaW.PrintWords Go.Proofs.YtnakjencodicmaaW.PrintLast Go.Proofs.YtnakjencodicmaaW.PrintMore
open Zig

theorem shl_u64 (k : Nat) (hk : k ≤ 63) : shl .u64 1 (k : Int) = ((2 ^ k : Nat) : Int) := by
  have h2 := Zig.pow_le63 k hk
  have e : shl .u64 1 (k : Int) = IntKind.u64.wrap ((2 ^ k : Nat) : Int) := by
    unfold shl
    have em : min ((k : Int).toNat) (IntKind.bits .u64) = k := by simp [IntKind.bits]; omega
    rw [em, Int.one_mul]
    simp
  rw [e, IntKind.wrap_u64]
  generalize 2 ^ k = P at *
  omega
abbrev PartS := S54
theorem rdP_nat (xs : List PartS) (i : Nat) : rd_T54 xs (i : Int) = xs.getD i z54 := by unfold rd_T54; rw [Int.toNat_natCast]

/-- A whole number of 64 bits. -/
def Wf (v : Int) : Prop := -9223372036854775808 ≤ v ∧ v ≤ 9223372036854775807
def partP (v : Int) : PartS := ⟨(bl (zmap v) : Int), (rstU (zmap v) : Int)⟩
theorem take_snoc {α : Type} (l : List α) (z : α) (i : Nat) (h : i < l.length) : l.take (i + 1) = l.take i ++ [l.getD i z] := by
  rw [List.take_succ_eq_append_getElem h]; simp [List.getD_eq_getElem?_getD, h]
theorem getD_map' {α β : Type} (f : α → β) (l : List α) (a : α) (b : β) (i : Nat) (h : i < l.length) : (l.map f).getD i b = f (l.getD i a) := by
  simp [List.getD_eq_getElem?_getD, h]
theorem mem_getD {α : Type} (l : List α) (a : α) (i : Nat) (h : i < l.length) : l.getD i a ∈ l := by
  simp [List.getD_eq_getElem?_getD, h]

def WfP (p : PartS) : Prop := Wf p.f0 ∧ 0 ≤ p.f1 ∧ p.f1 < 18446744073709551616
def mayP (p : PartS) : Bool := may p.f0 p.f1.toNat
theorem partP_wf (v : Int) (h : Wf v) : WfP (partP v) := by
  have hu := zmap_lt v h.1 h.2
  have h1 := bl_le (zmap v) (by omega)
  have h2 := rstU_lt (zmap v) hu
  unfold WfP partP Wf; simp only; omega
theorem mayP_part (v : Int) (h : Wf v) : mayP (partP v) = true := by
  unfold mayP partP; simp only [Int.toNat_natCast]; exact may_split _ (zmap_lt v h.1 h.2)
/-- How many parts are of a class. -/
def cnt (ps : List PartS) (c : Nat) : Nat := (ps.filter fun p => p.f0 == (c : Int)).length
def ofL (ps : List PartS) : List Int := (List.range 65).map fun c => (cnt ps c : Int)
theorem ofL_at (ps : List PartS) (c : Nat) (h : c < 65) : (ofL ps).getD c 0 = (cnt ps c : Int) := by
  simp [ofL, List.getD_eq_getElem?_getD, h]
theorem cnt_le (ps : List PartS) (c : Nat) : cnt ps c ≤ ps.length := List.length_filter_le _ _
theorem cnt_snoc (ps : List PartS) (p : PartS) (c : Nat) : cnt (ps ++ [p]) c = cnt ps c + (if p.f0 = (c : Int) then 1 else 0) := by
  unfold cnt
  rw [List.filter_append, List.length_append]
  by_cases h : p.f0 = (c : Int) <;> simp [h]
theorem wringerref1_Map.is (v : Int) (h0 : -9223372036854775808 ≤ v) (h1 : v ≤ 9223372036854775807) : wringerref1_Map.f v = some (zmap v : Int) := by
  unfold wringerref1_Map.f zmap
  by_cases hv : v < 0
  · rw [if_pos hv, if_pos hv, w64 (x := v + 1) (by omega) (by omega), w64 (x := -(v + 1)) (by omega) (by omega)]
    simp only [IntKind.wrap_u64]
    congr 1; omega
  · rw [if_neg hv, if_neg hv]
    simp only [IntKind.wrap_u64]
    congr 1; omega
theorem bl_half (u : Nat) (h0 : u ≠ 0) (h : u < 18446744073709551616) : bl u = bl (u / 2) + 1 := by
  by_cases h2 : u / 2 = 0
  · have : u = 1 := by omega
    subst this; decide
  · obtain ⟨a, b⟩ := bl_spec (u / 2 + 1) (u / 2) (by omega) h2 (by omega)
    have hp := bl_pos (u / 2) h2 (by omega)
    have e : 2 ^ bl (u / 2) = 2 ^ (bl (u / 2) - 1) * 2 := by rw [← Nat.pow_succ]; congr 1; omega
    have e2 : 2 ^ (bl (u / 2) + 1) = 2 ^ bl (u / 2) * 2 := Nat.pow_succ _ _
    exact bl_eq u (bl (u / 2)) (by omega) (by omega) (by omega)
theorem rlen_l0 : ∀ (n u i : Nat), u < n → u < 18446744073709551616 → i + bl u ≤ 64 → Ev (fun k => wringerref1_length.l0 k (u : Int) (i : Int)) ((i + bl u : Nat) : Int) := by
  intro n
  induction n with
  | zero => intro u i h; omega
  | succ n ih =>
    intro u i hu h hi
    by_cases h0 : u = 0
    · subst h0
      refine Ev.step (f := fun _ => some (i : Int)) (fun k => by simp [wringerref1_length.l0]) (Ev.ofSome ?_)
      rw [bl_zero]; rfl
    · have e := bl_half u h0 h
      refine evq ?_ (Ev.step (f := fun k => wringerref1_length.l0 k ((u / 2 : Nat) : Int) ((i + 1 : Nat) : Int)) (fun k => ?_) (ih (u / 2) (i + 1) (by omega) (by omega) (by omega)))
      · rw [e]; congr 1; omega
      · simp only [wringerref1_length.l0]
        rw [if_pos (by omega), w64 (by omega) (by omega)]; rfl
theorem wringerref1_length.is (u : Nat) (h : u < 18446744073709551616) : Ev (fun k => wringerref1_length.f k (u : Int)) (bl u : Int) := by
  unfold wringerref1_length.f
  have hl := bl_le u (by omega)
  have := rlen_l0 (u + 1) u 0 (by omega) h (by omega)
  rw [Nat.zero_add] at this
  exact this
theorem wringerref1_Split.is (v : Int) (h0 : -9223372036854775808 ≤ v) (h1 : v ≤ 9223372036854775807) : Ev (fun k => wringerref1_Split.f k v) ((bl (zmap v) : Int), (rstU (zmap v) : Int)) := by
  have hu := zmap_lt v h0 h1
  unfold wringerref1_Split.f
  refine Ev.bind0 (wringerref1_Map.is v h0 h1) ?_
  generalize zmap v = u at hu
  refine Ev.bind (wringerref1_length.is u hu) ?_
  have hl := bl_le u (by omega)
  by_cases hz : bl u = 0
  · refine Ev.ite_pos (by omega) (Ev.ofSome ?_)
    unfold rstU; rw [if_pos hz, hz]; rfl
  · have ew : wrap64 ((bl u : Int) - 1) = ((bl u - 1 : Nat) : Int) := by rw [w64 (by omega) (by omega)]; omega
    refine Ev.ite_neg (by omega) (Ev.ite_pos (by rw [ew]; omega) (Ev.ofSome ?_))
    have hu0 : u ≠ 0 := fun e => hz (by rw [e]; exact bl_zero)
    obtain ⟨h2, h3⟩ := bl_spec (u + 1) u (by omega) hu0 (by omega)
    rw [ew, shl_u64 _ (by omega)]
    unfold rstU; rw [if_neg hz, IntKind.wrap_u64]
    generalize 2 ^ (bl u - 1) = P at *
    rw [show ((u : Int) - (P : Int)) % 18446744073709551616 = ((u - P : Nat) : Int) by omega]
theorem rparts_l0 (l : List Int) (hl : l.length ≤ 1000000) (hw : ∀ x ∈ l, Wf x) : ∀ (d i : Nat), i + d = l.length →
    Ev (fun k => wringerref7_Parts.l0 k l ((l.take i).map partP) (i : Int)) (l.map partP) := by
  intro d
  induction d with
  | zero =>
    intro i hi
    refine Ev.step (f := fun _ => some ((l.take i).map partP)) (fun k => by simp only [wringerref7_Parts.l0]; rw [if_neg (by omega)]) (Ev.ofSome ?_)
    rw [List.take_of_length_le (by omega)]
  | succ d ih =>
    intro i hi
    have hil : i < l.length := by omega
    have hx := hw _ (mem_getD l 0 i hil)
    have e := take_snoc l 0 i hil
    have hb : ((l.take i).map partP).length < 8796093022208 := by rw [List.length_map, List.length_take]; omega
    refine Ev.step (f := fun k => (wringerref1_Split.f k (l.getD i 0)).bind fun bt167 => (if ((l.take i).map partP).length < 8796093022208 then (wringerref7_Parts.l0 k l ((l.take i).map partP ++ [(⟨bt167.1, bt167.2⟩ : PartS)]) (wrap64 ((i : Int) + 1))) else (none))) (fun k => ?_) ?_
    · simp only [wringerref7_Parts.l0]
      rw [if_pos (by omega), if_pos (by omega), rd_nat]
    · refine Ev.bind (wringerref1_Split.is _ hx.1 hx.2) (Ev.ite_pos hb ?_)
      rw [w64 (by omega) (by omega)]
      have := ih (i + 1) (by omega)
      rw [e, List.map_append] at this
      exact this
theorem rparts_is (l : List Int) (hl : l.length ≤ 1000000) (hw : ∀ x ∈ l, Wf x) : Ev (fun k => wringerref7_Parts.f k l) (l.map partP) := by
  unfold wringerref7_Parts.f
  exact rparts_l0 l hl hw l.length 0 (by omega)
theorem wf_wrap64 (x : Int) : Wf (wrap64 x) := by unfold Wf wrap64; omega
theorem wf_shl (x k : Int) : Wf (shl .i64 x k) := by
  unfold shl
  generalize x * _ = y
  have h : (Lit.int .i64 (IntKind.i64.wrap y)).wf = true := wf_wrap .i64 y
  simp only [Lit.wf, Bool.and_eq_true, decide_eq_true_eq] at h
  exact h
theorem numbers_l0 (xs : List Int) (hl : xs.length < 4611686018427387904) (hw : ∀ x ∈ xs, 0 ≤ x ∧ x ≤ 65535) : ∀ (d i : Nat) (acc : List Int), i + d = 60 → i ≤ xs.length → acc.length = i → (∀ x ∈ acc, Wf x) →
    ∃ ns, Ev (fun k => wringerlaw11_Numbers.l0 k xs acc (i : Int)) ns ∧ ns.length ≤ 60 ∧ ∀ x ∈ ns, Wf x := by
  intro d
  induction d with
  | zero =>
    intro i acc hi hil ha hacc
    refine ⟨acc, ?_, by omega, hacc⟩
    by_cases h : (i : Int) < (xs.length : Int)
    · refine Ev.step (f := fun k => wringerlaw11_Numbers.j1 k xs acc (i : Int) false) (fun k => by simp only [wringerlaw11_Numbers.l0]; rw [if_pos h, show decide ((i : Int) < 60) = false from decide_eq_false (by omega)]) ?_
      exact Ev.step (f := fun _ => some acc) (fun k => by simp [wringerlaw11_Numbers.j1]) (Ev.now _)
    · refine Ev.step (f := fun k => wringerlaw11_Numbers.j1 k xs acc (i : Int) false) (fun k => by simp only [wringerlaw11_Numbers.l0]; rw [if_neg h]) ?_
      exact Ev.step (f := fun _ => some acc) (fun k => by simp [wringerlaw11_Numbers.j1]) (Ev.now _)
  | succ d ih =>
    intro i acc hi hil ha hacc
    by_cases h : (i : Int) < (xs.length : Int)
    · have hx := hw _ (mem_getD xs 0 i (by omega))
      have next : ∀ v, Wf v → ∃ ns, Ev (fun k => wringerlaw11_Numbers.l0 k xs (acc ++ [v]) (wrap64 ((i : Int) + 1))) ns ∧ ns.length ≤ 60 ∧ ∀ x ∈ ns, Wf x := fun v hv => by
        have := ih (i + 1) (acc ++ [v]) (by omega) (by omega) (by simp [ha]) (fun x hx => by
          rcases List.mem_append.1 hx with h | h
          · exact hacc x h
          · rw [List.mem_singleton] at h; rw [h]; exact hv)
        rw [w64 (by omega) (by omega)]
        exact this
      have hal : acc.length < 17592186044416 := by omega
      have go : ∀ v, Wf v → (∀ k, wringerlaw11_Numbers.j1 (k + 1) xs acc (i : Int) true = wringerlaw11_Numbers.l0 k xs (acc ++ [v]) (wrap64 ((i : Int) + 1))) → ∃ ns, Ev (fun k => wringerlaw11_Numbers.l0 k xs acc (i : Int)) ns ∧ ns.length ≤ 60 ∧ ∀ x ∈ ns, Wf x := fun v hv hk => by
        obtain ⟨ns, h1, h2, h3⟩ := next v hv
        refine ⟨ns, Ev.step (f := fun k => wringerlaw11_Numbers.j1 k xs acc (i : Int) true) (fun k => by simp only [wringerlaw11_Numbers.l0]; rw [if_pos h, show decide ((i : Int) < 60) = true from decide_eq_true (by omega)]) ?_, h2, h3⟩
        exact Ev.step (f := fun k => wringerlaw11_Numbers.l0 k xs (acc ++ [v]) (wrap64 ((i : Int) + 1))) hk h1
      have hr : rd xs (i : Int) = xs.getD i 0 := rd_nat xs i
      generalize hg : xs.getD i 0 = r at hx hr
      have hm3 : Wf (Int.tmod (wrap64 (Int.tmod r 1024)) 3) := by
        have := wf_wrap64 (Int.tmod r 1024)
        unfold Wf at *
        generalize wrap64 (Int.tmod r 1024) = y at *
        have h1 := Int.tmod_lt_of_pos y (b := 3) (by decide)
        have h2 : -3 < Int.tmod y 3 := by have := Int.lt_tmod_of_pos y (b := 3) (by decide); omega
        omega
      have h53 : 0 ≤ Int.tmod r 53 := Int.tmod_nonneg _ hx.1
      have h54 : 0 ≤ Int.tmod r 54 := Int.tmod_nonneg _ hx.1
      by_cases c0 : Int.tmod (IntKind.u16.wrap (Int.tdiv r 1024)) 6 = 0
      · exact go _ hm3 fun k => by simp only [wringerlaw11_Numbers.j1, hr]; rw [if_pos trivial, if_pos (by omega), if_pos h, if_pos c0, if_pos hal]
      · by_cases c1 : Int.tmod (IntKind.u16.wrap (Int.tdiv r 1024)) 6 = 1
        · exact go _ (wf_wrap64 _) fun k => by simp only [wringerlaw11_Numbers.j1, hr]; rw [if_pos trivial, if_pos (by omega), if_pos h, if_neg c0, if_pos c1, if_pos hal]
        · by_cases c2 : Int.tmod (IntKind.u16.wrap (Int.tdiv r 1024)) 6 = 2
          · exact go _ (wf_shl _ _) fun k => by simp only [wringerlaw11_Numbers.j1, hr]; rw [if_pos trivial, if_pos (by omega), if_pos h, if_neg c0, if_neg c1, if_pos c2, if_pos h53, if_pos hal]
          · by_cases c3 : Int.tmod (IntKind.u16.wrap (Int.tdiv r 1024)) 6 = 3
            · exact go _ (wf_shl _ _) fun k => by simp only [wringerlaw11_Numbers.j1, hr]; rw [if_pos trivial, if_pos (by omega), if_pos h, if_neg c0, if_neg c1, if_neg c2, if_pos c3, if_pos h54, if_pos hal]
            · exact go _ (wf_wrap64 _) fun k => by simp only [wringerlaw11_Numbers.j1, hr]; rw [if_pos trivial, if_pos (by omega), if_pos h, if_neg c0, if_neg c1, if_neg c2, if_neg c3, if_pos hal]
    · refine ⟨acc, ?_, by omega, hacc⟩
      refine Ev.step (f := fun k => wringerlaw11_Numbers.j1 k xs acc (i : Int) false) (fun k => by simp only [wringerlaw11_Numbers.l0]; rw [if_neg h]) ?_
      exact Ev.step (f := fun _ => some acc) (fun k => by simp [wringerlaw11_Numbers.j1]) (Ev.now _)
theorem numbers_is (xs : List Int) (hl : xs.length < 4611686018427387904) (hw : ∀ x ∈ xs, 0 ≤ x ∧ x ≤ 65535) : ∃ ns, Ev (fun k => wringerlaw11_Numbers.f k xs) ns ∧ ns.length ≤ 60 ∧ ∀ x ∈ ns, Wf x := by
  unfold wringerlaw11_Numbers.f
  exact numbers_l0 xs hl hw 60 0 [] (by omega) (Nat.zero_le _) rfl (by simp)
end Go.Proofs.Ytnakjencodicmaa.PA

-- ---- My
/- Several rows of one-cell elements that a call owns side by side: each in a block of its own. No program in sight. -/
namespace Go.Proofs.Ytnakjencodicmaa.Own
set_option maxRecDepth 100000
set_option linter.unusedSimpArgs false
set_option linter.unusedVariables false
open Go Go.RowKit

/-- In no block both. -/
def Dj (u v : Value) : Prop := ∀ b, u.ownBlock = some b → v.ownBlock ≠ some b
theorem Dj.symm {u v : Value} (h : Dj u v) : Dj v u := fun b h1 h2 => h b h2 h1
/-- These rows, each alone in its block, all from block B on. -/
structure Many (B : Nat) (w : World) (e : TypeId) (R : List (Value × List Value)) : Prop where
  own : ∀ (i : Nat) v xs, R[i]? = some (v, xs) → Owns w e v xs
  new : ∀ (i : Nat) v xs, R[i]? = some (v, xs) → ∀ b, v.ownBlock = some b → B ≤ b
  sep : ∀ (i j : Nat) a xs b ys, i ≠ j → R[i]? = some (a, xs) → R[j]? = some (b, ys) → Dj a b

theorem Many.nil (B : Nat) (w : World) (e : TypeId) : Many B w e [] := ⟨fun i v xs h => by simp at h, fun i v xs h => by simp at h, fun i j a xs b ys _ h => by simp at h⟩
theorem Many.chg {B : Nat} {w w' : World} {S : Nat → Prop} {e : TypeId} {R : List (Value × List Value)} (h : Many B w e R) (hc : Chg S w w') (hn : ∀ (i : Nat) v xs, R[i]? = some (v, xs) → ∀ g, v.ownBlock = some g → ¬ S g) : Many B w' e R :=
  ⟨fun i v xs hi => (h.own i v xs hi).chg hc (hn i v xs hi), h.new, h.sep⟩
theorem Many.later {B : Nat} {w w' : World} {e : TypeId} {R : List (Value × List Value)} (h : Many B w e R) (hb : Below w.heap.size w w') : Many B w' e R :=
  ⟨fun i v xs hi => (h.own i v xs hi).keep fun g hg hl => hb.block g hl, h.new, h.sep⟩
/-- One row has turned. -/
theorem Many.set {B : Nat} {w w' : World} {e : TypeId} {R : List (Value × List Value)} (h : Many B w e R) (i : Nat) {v v' : Value} {xs xs' : List Value} (hi : R[i]? = some (v, xs)) (hc : Chg (fun k => some k = v.ownBlock) w w')
    (ho : Owns w' e v' xs') (hn : ∀ g, v'.ownBlock = some g → some g = v.ownBlock ∨ w.heap.size ≤ g) (hB : B ≤ w.heap.size) : Many B w' e (R.set i (v', xs')) := by
  have hil : i < R.length := (List.getElem?_eq_some_iff.1 hi).1
  refine ⟨fun j u ys hj => ?_, fun j u ys hj b hb => ?_, fun j k a ys b zs hjk hj hk => ?_⟩
  · by_cases e1 : j = i
    · subst e1
      rw [List.getElem?_set_self hil, Option.some.injEq, Prod.mk.injEq] at hj
      obtain ⟨rfl, rfl⟩ := hj; exact ho
    · rw [List.getElem?_set_ne (fun e => e1 e.symm)] at hj
      exact (h.own j u ys hj).chg hc fun g hg hs => h.sep j i u ys v xs e1 hj hi g hg hs.symm
  · by_cases e1 : j = i
    · subst e1
      rw [List.getElem?_set_self hil, Option.some.injEq, Prod.mk.injEq] at hj
      obtain ⟨rfl, rfl⟩ := hj
      rcases hn b hb with h1 | h1
      · exact h.new j v xs hi b h1.symm
      · omega
    · rw [List.getElem?_set_ne (fun e => e1 e.symm)] at hj; exact h.new j u ys hj b hb
  · have other : ∀ (m : Nat) (u : Value) (us : List Value), m ≠ i → R[m]? = some (u, us) → Dj u v' := fun m u us hm hmu g hg hv => by
      rcases hn g hv with h1 | h1
      · exact h.sep m i u us v xs hm hmu hi g hg h1.symm
      · have := (h.own m u us hmu).lt g hg; omega
    by_cases e1 : j = i
    · subst e1
      have e2 : k ≠ j := fun e => hjk e.symm
      rw [List.getElem?_set_self hil, Option.some.injEq, Prod.mk.injEq] at hj
      rw [List.getElem?_set_ne (fun e => e2 e.symm)] at hk
      obtain ⟨rfl, rfl⟩ := hj
      exact (other k b zs e2 hk).symm
    · rw [List.getElem?_set_ne (fun e => e1 e.symm)] at hj
      by_cases e2 : k = i
      · subst e2
        rw [List.getElem?_set_self hil, Option.some.injEq, Prod.mk.injEq] at hk
        obtain ⟨rfl, rfl⟩ := hk
        exact other j a ys e1 hj
      · rw [List.getElem?_set_ne (fun e => e2 e.symm)] at hk
        exact h.sep j k a ys b zs hjk hj hk
/-- A new row. -/
theorem Many.add {B : Nat} {w w' : World} {e : TypeId} {R : List (Value × List Value)} (h : Many B w e R) (hb : Below w.heap.size w w') {v : Value} {xs : List Value} (ho : Owns w' e v xs) (hn : ∀ g, v.ownBlock = some g → w.heap.size ≤ g) (hB : B ≤ w.heap.size) : Many B w' e (R ++ [(v, xs)]) := by
  have h' := h.later hb
  have last : ∀ (j : Nat) u ys, (R ++ [(v, xs)])[j]? = some (u, ys) → R[j]? = some (u, ys) ∨ (j = R.length ∧ u = v ∧ ys = xs) := fun j u ys hj => by
    rcases Nat.lt_trichotomy j R.length with h1 | h1 | h1
    · rw [List.getElem?_append_left h1] at hj; exact .inl hj
    · subst h1
      rw [List.getElem?_append_right (Nat.le_refl _)] at hj
      simp at hj; exact .inr ⟨rfl, hj.1.symm, hj.2.symm⟩
    · rw [List.getElem?_eq_none (by simp; omega)] at hj; cases hj
  have oth : ∀ (j : Nat) u ys, R[j]? = some (u, ys) → Dj u v := fun j u ys hj g hg hv => by
    have := (h.own j u ys hj).lt g hg; have := hn g hv; omega
  refine ⟨fun j u ys hj => ?_, fun j u ys hj b hb => ?_, fun j k a ys b zs hjk hj hk => ?_⟩
  · rcases last j u ys hj with h1 | ⟨_, rfl, rfl⟩
    · exact h'.own j u ys h1
    · exact ho
  · rcases last j u ys hj with h1 | ⟨_, rfl, rfl⟩
    · exact h'.new j u ys h1 b hb
    · have := hn b hb; omega
  · rcases last j a ys hj with h1 | ⟨rfl, rfl, rfl⟩
    · rcases last k b zs hk with h2 | ⟨rfl, rfl, rfl⟩
      · exact h'.sep j k a ys b zs hjk h1 h2
      · exact oth j a ys h1
    · rcases last k b zs hk with h2 | ⟨rfl, rfl, rfl⟩
      · exact (oth k b zs h2).symm
      · exact absurd rfl hjk
/-- A block of another type stays. -/
theorem Many.other {B : Nat} {w w' : World} {e t : TypeId} {R : List (Value × List Value)} (h : Many B w e R) (i : Nat) {v : Value} {xs : List Value} (hi : R[i]? = some (v, xs)) (hc : Chg (fun k => some k = v.ownBlock) w w') {p : Nat} {cs : Array Value} (hp : Blk w p cs t) (hne : e ≠ t) : Blk w' p cs t :=
  hc.keep hp fun hs => (h.own i v xs hi).ne hp hne hs.symm
/-- A block of another type is written. -/
theorem Many.setBlk {B : Nat} {w : World} {e t : TypeId} {R : List (Value × List Value)} (h : Many B w e R) {p : Nat} {cs : Array Value} (hp : Blk w p cs t) (hne : e ≠ t) (j : Nat) (u : Value) : Many B (w.setCell ⟨p, j, none⟩ u) e R :=
  h.chg (Chg.setCell w _ _) fun i v xs hi g hg hs => (h.own i v xs hi).ne hp hne (by rw [hg]; exact congrArg some hs)
theorem Many.below {B : Nat} {w w' : World} {e : TypeId} {R : List (Value × List Value)} (h : Many B w e R) (i : Nat) {v : Value} {xs : List Value} (hi : R[i]? = some (v, xs)) (hc : Chg (fun k => some k = v.ownBlock) w w') (hB : B ≤ w.heap.size) : Below B w w' :=
  hc.below hB fun k hk hs => by have := h.new i v xs hi k hs.symm; omega
/-- One cell of a row is written. -/
theorem Many.store {B : Nat} {w : World} {e : TypeId} {R : List (Value × List Value)} (h : Many B w e R) (i : Nat) {g n cap : Nat} {xs : List Value} (hi : R[i]? = some (.slice (some ⟨g, 0, none⟩) n cap, xs)) (j : Nat) (u : Value) (hB : B ≤ w.heap.size) :
    Many B (w.setCell ⟨g, j, none⟩ u) e (R.set i (.slice (some ⟨g, 0, none⟩) n cap, xs.set j u)) :=
  h.set i hi (by have := Chg.setCell w ⟨g, j, none⟩ u; exact this.mono fun k _ hk => by rw [hk]; rfl) ((h.own i _ _ hi).store j u) (fun b hb => .inl hb.symm) hB
end Go.Proofs.Ytnakjencodicmaa.Own
namespace Go.Proofs.Ytnakjencodicmaa
open Go.RowKit _root_.Go.Proofs.Ytnakjencodicmaa.Own
theorem sliceI {w : World} {e : TypeId} {k : IntKind} {v : Value} {xs : List Int} (h : Owns w e v (ints k xs)) : ∃ a c, v = .slice a xs.length c := by
  obtain ⟨a, c, h, _⟩ := h.slice
  exact ⟨a, c, by rw [h, length_ints]⟩
theorem rowI {w : World} {e : TypeId} {k : IntKind} {v : Value} {xs : List Int} (h : Owns w e v (ints k xs)) (hx : xs ≠ []) : ∃ g c, v = .slice (some ⟨g, 0, none⟩) xs.length c ∧ xs.length ≤ c ∧ g < w.heap.size := by
  obtain ⟨g, c, h1, h2, h3⟩ := h.row (by intro e; exact hx (by have := congrArg List.length e; rw [length_ints] at this; exact List.length_eq_zero_iff.1 this))
  rw [length_ints] at h1 h2
  exact ⟨g, c, h1, h2, h3⟩
theorem ints_set (k : IntKind) (l : List Int) (i : Nat) (v : Int) : ints k (l.set i v) = (ints k l).set i (.int k v) := by simp [ints, List.map_set]
end Go.Proofs.Ytnakjencodicmaa

-- ---- Rc
/- wringerref7's best.cost: the least cost of a state, with what is known already. Conditions: the memory that 'Tab' tells. -/
namespace Go.Proofs.Ytnakjencodicmaa
set_option maxRecDepth 100000
set_option linter.unusedSimpArgs false
set_option linter.unusedVariables false
open Go.RowKit Mix _root_.Go.Proofs.Ytnakjencodicmaa.Own

namespace Dp
/-- A cost as the document's function tells it. -/
def enc : Option Int → Int
  | none => -1
  | some x => x
def sums (g : List Int) : List Int := (List.range (g.length + 1)).map fun i => (g.drop i).sum
theorem length_sums (g : List Int) : (sums g).length = g.length + 1 := by simp [sums]
theorem sums_at (g : List Int) (i : Nat) (h : i ≤ g.length) : (sums g).getD i 0 = (g.drop i).sum := by
  unfold sums; simp [List.getD_eq_getElem?_getD, show i < g.length + 1 by omega]
/-- Frequencies in order, few and not great. -/
structure Gs (g : List Int) : Prop where
  len : g.length ≤ 65
  each : ∀ x ∈ g, 0 ≤ x ∧ x ≤ 16777216
theorem sum_le : ∀ (g : List Int), (∀ x ∈ g, 0 ≤ x ∧ x ≤ 16777216) → 0 ≤ g.sum ∧ g.sum ≤ 16777216 * (g.length : Int) := by
  intro g
  induction g with
  | nil => intro _; simp
  | cons a t ih =>
    intro h
    have h1 := h a (by simp)
    have h2 := ih fun x hx => h x (List.mem_cons_of_mem _ hx)
    rw [List.sum_cons, List.length_cons]
    omega
theorem Gs.sum {g : List Int} (h : Gs g) (i : Nat) : 0 ≤ (g.drop i).sum ∧ (g.drop i).sum ≤ 1090519040 := by
  have h1 := sum_le (g.drop i) fun x hx => h.each x (List.mem_of_mem_drop hx)
  have h2 := h.len
  rw [List.length_drop] at h1
  omega
theorem dp_le : ∀ (r : Nat) (g : List Int) (o : Nat) (x : Int), Gs g → dp r g o = some x → 0 ≤ x ∧ x ≤ 1090519040 * (r : Int) := by
  intro r
  induction r with
  | zero =>
    intro g o x hg h
    by_cases e : g = []
    · subst e; rw [dp_nil] at h; split at h <;> simp at h; omega
    · rw [dp_out e (by omega)] at h; cases h
  | succ r ih =>
    intro g o x hg h
    by_cases e : g = []
    · subst e; rw [dp_nil] at h; split at h <;> simp at h; omega
    · obtain ⟨_, _, y, hy, hx⟩ := dp_some h e
      have h1 := ih _ _ _ ⟨by have := hg.len; rw [List.length_drop]; omega, fun f hf => hg.each f (List.mem_of_mem_drop hf)⟩ hy
      have h2 := hg.sum (take r g o)
      omega
theorem Gs.drop {g : List Int} (h : Gs g) (j : Nat) : Gs (g.drop j) := ⟨by have := h.len; rw [List.length_drop]; omega, fun f hf => h.each f (List.mem_of_mem_drop hf)⟩

/-- The least of the candidates below n, from 0 on. -/
def minUp (c : Nat → Option Int) : Nat → Option Int
  | 0 => none
  | n + 1 => match c n with
    | none => minUp c n
    | some x => match minUp c n with
      | none => some x
      | some y => if x < y then some x else some y
theorem minUp_spec (c : Nat → Option Int) : ∀ n, match minUp c n with
    | none => ∀ j, j < n → c j = none
    | some x => (∃ k, k < n ∧ c k = some x) ∧ ∀ j y, j < n → c j = some y → x ≤ y := by
  intro n
  induction n with
  | zero => simp only [minUp]; intro j h; omega
  | succ n ih =>
    simp only [minUp]
    cases hc : c n with
    | none =>
      simp only
      cases hm : minUp c n with
      | none =>
        rw [hm] at ih; simp only at ih ⊢
        intro j hj
        by_cases e : j = n
        · rw [e]; exact hc
        · exact ih j (by omega)
      | some x =>
        rw [hm] at ih; simp only at ih ⊢
        obtain ⟨⟨k, hk, hck⟩, h2⟩ := ih
        refine ⟨⟨k, by omega, hck⟩, fun j y hj hjy => ?_⟩
        by_cases e : j = n
        · rw [e, hc] at hjy; cases hjy
        · exact h2 j y (by omega) hjy
    | some x =>
      simp only
      cases hm : minUp c n with
      | none =>
        rw [hm] at ih; simp only at ih ⊢
        refine ⟨⟨n, by omega, hc⟩, fun j y hj hjy => ?_⟩
        by_cases e : j = n
        · rw [e, hc] at hjy; cases hjy; omega
        · rw [ih j (by omega)] at hjy; cases hjy
      | some z =>
        rw [hm] at ih; simp only at ih ⊢
        obtain ⟨⟨k, hk, hck⟩, h2⟩ := ih
        by_cases hxz : x < z
        · rw [if_pos hxz]; simp only
          refine ⟨⟨n, by omega, hc⟩, fun j y hj hjy => ?_⟩
          by_cases e : j = n
          · rw [e, hc] at hjy; cases hjy; omega
          · have := h2 j y (by omega) hjy; omega
        · rw [if_neg hxz]; simp only
          refine ⟨⟨k, by omega, hck⟩, fun j y hj hjy => ?_⟩
          by_cases e : j = n
          · rw [e, hc] at hjy; cases hjy; omega
          · exact h2 j y (by omega) hjy
theorem minUp_best (c : Nat → Option Int) (o : Nat) : minUp c (o + 1) = (best c o).map Prod.fst := by
  have h1 := minUp_spec c (o + 1)
  have h2 := best_spec c o
  cases hb : best c o with
  | none =>
    rw [hb] at h2
    cases hm : minUp c (o + 1) with
    | none => rfl
    | some x => rw [hm] at h1; simp only at h1; obtain ⟨⟨k, hk, hck⟩, _⟩ := h1; rw [h2 k (by omega) (by omega)] at hck; cases hck
  | some p =>
    obtain ⟨y, m⟩ := p
    rw [hb] at h2
    obtain ⟨_, b2, b3, b4⟩ := h2
    cases hm : minUp c (o + 1) with
    | none => rw [hm] at h1; simp only at h1; rw [h1 m (by omega)] at b3; cases b3
    | some x =>
      rw [hm] at h1; simp only at h1
      obtain ⟨⟨k, hk, hck⟩, h3⟩ := h1
      have e1 := h3 m y (by omega) b3
      have e2 := (b4 k x (by omega) (by omega) hck).1
      simp; omega

/-- The table of what is known. -/
def key (d j o : Nat) : Nat := (d * 70 + j) * 140 + o
theorem key_inj {d j o d' j' o' : Nat} (h1 : j < 70) (h2 : o < 140) (h3 : j' < 70) (h4 : o' < 140) (h : key d j o = key d' j' o') : d = d' ∧ j = j' ∧ o = o' := by
  unfold key at h
  refine ⟨?_, ?_, ?_⟩ <;> omega
structure KGood (lim : Nat) (g K : List Int) : Prop where
  len : K.length = 166600
  at_ : ∀ d j o, 1 ≤ d → d ≤ lim → j < 70 → o < 140 → K.getD (key d j o) 0 = 0 ∨ K.getD (key d j o) 0 = enc (dp (lim + 1 - d) (g.drop j) o) + 2
theorem KGood.set {lim : Nat} {g K : List Int} (h : KGood lim g K) {d j o : Nat} (hd : 1 ≤ d) (hdl : d ≤ lim) (hj : j < 70) (ho : o < 140) (hl : lim ≤ 15) : KGood lim g (K.set (key d j o) (enc (dp (lim + 1 - d) (g.drop j) o) + 2)) := by
  refine ⟨by rw [List.length_set]; exact h.len, fun d' j' o' h1 h2 h3 h4 => ?_⟩
  have hk : key d j o < K.length := by rw [h.len]; unfold key; omega
  by_cases e : key d j o = key d' j' o'
  · obtain ⟨rfl, rfl, rfl⟩ := key_inj hj ho h3 h4 e
    right
    simp [List.getD_eq_getElem?_getD, List.getElem?_set_self hk]
  · have := h.at_ d' j' o' h1 h2 h3 h4
    simp only [List.getD_eq_getElem?_getD, List.getElem?_set_ne e] at this ⊢
    exact this
end Dp
open Dp

/-- A maker of the document's at block p. -/
structure Tab (w : World) (p : Nat) (vf vk vs : Value) (lim : Nat) (g K : List Int) : Prop where
  blk : Blk w p #[vf, .int .i64 (lim : Int), vk, vs] 98
  rf : Owns w 3 vf (ints .i64 g)
  rk : Owns w 3 vk (ints .i64 K)
  rs : Owns w 3 vs (ints .i64 (sums g))
  nf : ∀ b, vk.ownBlock = some b → vf.ownBlock ≠ some b
  ns : ∀ b, vk.ownBlock = some b → vs.ownBlock ≠ some b
  good : KGood lim g K

set_option maxHeartbeats 1000000 in
theorem key_calls (x : Option Addr) (d j o : Nat) (w : World) (hd : d ≤ 100) (hj : j ≤ 1000) (ho : o ≤ 1000) :
    Calls Try.prog 57 #[.pointer x, .int .i64 (d : Int), .int .i64 (j : Int), .int .i64 (o : Int)] w fun e w' => e = .returned (.int .i64 (key d j o : Int)) ∧ w = w' := by
  go_enter Try.func57, Try.ntmps57
  go_wp2_with fail
  go_ret
  exact ⟨by unfold key; rfl, rfl⟩

/-- The answer of cost, and what it leaves. -/
def CostE (g : List Int) (lim p : Nat) (vf vk vs : Value) (r j o : Nat) (w : World) (e : Ending) (w' : World) : Prop :=
  e = .returned (.int .i64 (enc (dp r (g.drop j) o))) ∧ ∃ K', Tab w' p vf vk vs lim g K' ∧ Chg (fun b => some b = vk.ownBlock) w w'

set_option maxHeartbeats 2000000 in
theorem cost_end (g : List Int) (lim p : Nat) (vf vk vs : Value) (K : List Int) (r d j o : Nat) (w : World) (hT : Tab w p vf vk vs lim g K) (hg : Gs g) (hj : j = g.length) (ho : o ≤ 1000) (hd : d ≤ 100) :
    Calls Try.prog 42 #[.pointer (some ⟨p, 0, none⟩), .int .i64 (d : Int), .int .i64 (j : Int), .int .i64 (o : Int)] w (CostE g lim p vf vk vs r j o w) := by
  obtain ⟨af, cf, rfl⟩ := sliceI hT.rf
  have c0 := hT.blk.cell (i := 0) rfl
  have e0 : (g.length : Int) - (j : Int) = 0 := by omega
  have HR := kept (show dp r (g.drop j) o = if o = 0 then some 0 else none by rw [List.drop_eq_nil_of_le (by omega), dp_nil])
  have HT := kept hT
  have HG := kept hg
  clear hT hg hj
  by_cases h0 : o = 0
  · subst h0
    go_enter Try.func42, Try.ntmps42
    go_wp2_with fail
    go_ret
    exact ⟨by rw [HR.out]; rfl, K, HT.out, Chg.refl _ _⟩
  · have t0 : ((o : Int) == 0) = false := by rw [beq_eq_false_iff_ne]; omega
    have H0 := kept h0
    clear h0
    go_enter Try.func42, Try.ntmps42
    go_wp2_with fail
    go_ret
    exact ⟨by rw [HR.out, if_neg H0.out]; rfl, K, HT.out, Chg.refl _ _⟩

set_option maxHeartbeats 2000000 in
theorem cost_out (g : List Int) (lim p : Nat) (vf vk vs : Value) (K : List Int) (r d j o : Nat) (w : World) (hT : Tab w p vf vk vs lim g K) (hg : Gs g) (hj : j < g.length) (ho : o ≤ 1000) (hd : d ≤ 100) (hr : d + r = lim + 1)
    (hout : o = 0 ∨ g.length < j + o ∨ r = 0) :
    Calls Try.prog 42 #[.pointer (some ⟨p, 0, none⟩), .int .i64 (d : Int), .int .i64 (j : Int), .int .i64 (o : Int)] w (CostE g lim p vf vk vs r j o w) := by
  obtain ⟨af, cf, rfl⟩ := sliceI hT.rf
  have c0 := hT.blk.cell (i := 0) rfl
  have c1 := hT.blk.cell (i := 1) rfl
  have hne : g.drop j ≠ [] := by intro e; have := congrArg List.length e; rw [List.length_drop] at this; simp at this; omega
  have HR := kept (show dp r (g.drop j) o = none from dp_out hne (by rw [List.length_drop]; omega))
  have e0 : (((g.length : Int) - (j : Int)) == 0) = false := by rw [beq_eq_false_iff_ne]; omega
  have HT := kept hT
  have hl := hg.len
  clear hT hg hne
  by_cases h0 : o = 0
  · subst h0
    clear hout
    go_enter Try.func42, Try.ntmps42
    go_wp2_with fail
    go_ret
    exact ⟨by rw [HR.out]; rfl, K, HT.out, Chg.refl _ _⟩
  · have t0 : ((o : Int) == 0) = false := by rw [beq_eq_false_iff_ne]; omega
    by_cases h1 : g.length < j + o
    · have t1 : decide (((g.length : Int) - (j : Int)) < (o : Int)) = true := by rw [decide_eq_true_eq]; omega
      clear hout h0
      go_enter Try.func42, Try.ntmps42
      go_wp2_with fail
      go_ret
      exact ⟨by rw [HR.out]; rfl, K, HT.out, Chg.refl _ _⟩
    · have t1 : decide (((g.length : Int) - (j : Int)) < (o : Int)) = false := by rw [decide_eq_false_iff_not]; omega
      have t2 : decide ((lim : Int) < (d : Int)) = true := by rw [decide_eq_true_eq]; omega
      have t3 : lim < d := by omega
      clear hout h0 h1
      go_enter Try.func42, Try.ntmps42
      go_wp2_with fail
      go_ret
      exact ⟨by rw [HR.out]; rfl, K, HT.out, Chg.refl _ _⟩

set_option maxHeartbeats 2000000 in
theorem cost_known (g : List Int) (lim p : Nat) (vf vk vs : Value) (K : List Int) (r d j o : Nat) (w : World) (hT : Tab w p vf vk vs lim g K) (hg : Gs g) (hj : j < g.length) (ho : j + o ≤ g.length) (ho1 : 1 ≤ o) (hd : 1 ≤ d) (hlim : lim ≤ 15) (hr : d + (r + 1) = lim + 1)
    (hk : K.getD (key d j o) 0 = enc (dp (r + 1) (g.drop j) o) + 2) :
    Calls Try.prog 42 #[.pointer (some ⟨p, 0, none⟩), .int .i64 (d : Int), .int .i64 (j : Int), .int .i64 (o : Int)] w (CostE g lim p vf vk vs (r + 1) j o w) := by
  obtain ⟨af, cf, rfl⟩ := sliceI hT.rf
  have hl := hg.len
  have hKl := hT.good.len
  obtain ⟨gk, ck, rfl, _, _⟩ := rowI hT.rk (by intro e; rw [e] at hKl; simp at hKl)
  have c0 := hT.blk.cell (i := 0) rfl
  have c1 := hT.blk.cell (i := 1) rfl
  have c2 := hT.blk.cell (i := 2) rfl
  rw [hKl] at c2
  obtain ⟨m, hm⟩ : ∃ m, m = key d j o := ⟨_, rfl⟩
  have hm2 : m < 166600 := by rw [hm]; unfold key; omega
  have ck2 := hT.rk.cell (j := m) (Own.ints_at .i64 K m (by rw [hKl]; exact hm2))
  obtain ⟨z, hz⟩ : ∃ z, z = enc (dp (r + 1) (g.drop j) o) := ⟨_, rfl⟩
  have hz1 : -1 ≤ z ∧ z ≤ 20000000000 := by
    rw [hz]
    cases e : dp (r + 1) (g.drop j) o with
    | none => simp [enc]
    | some x => have := dp_le _ _ _ _ (hg.drop j) e; simp only [enc]; omega
  rw [← hm] at hk
  rw [hk, ← hz] at ck2
  have e0 : (((g.length : Int) - (j : Int)) == 0) = false := by rw [beq_eq_false_iff_ne]; omega
  have t0 : ((o : Int) == 0) = false := by rw [beq_eq_false_iff_ne]; omega
  have t1 : decide (((g.length : Int) - (j : Int)) < (o : Int)) = false := by rw [decide_eq_false_iff_not]; omega
  have t2 : decide ((lim : Int) < (d : Int)) = false := by rw [decide_eq_false_iff_not]; omega
  have HK := kept (fun (x : Option Addr) => key_calls x d j o w (by omega) (by omega) (by omega))
  rw [← hm] at HK
  obtain ⟨hz1a, hz1b⟩ := hz1
  have hz3 : 0 < z + 2 := by omega
  have t3 : decide (0 < z + 2) = true := decide_eq_true hz3
  have HZ := kept hz
  have HT := kept hT
  clear hT hg hk hm hz
  go_enter Try.func42, Try.ntmps42
  go_wp2_with (first | (go_at_call 57; refine (HK.out _).mono ?_; rintro e w1 ⟨rfl, rfl⟩))
  go_ret
  exact ⟨by rw [← HZ.out]; rfl, K, HT.out, Chg.refl _ _⟩

end Go.Proofs.Ytnakjencodicmaa

-- ---- Rd
/- wringerref7's best.cost, whole. Conditions: the memory that 'Tab' tells. -/
namespace Go.Proofs.Ytnakjencodicmaa
set_option maxRecDepth 100000
set_option linter.unusedSimpArgs false
set_option linter.unusedVariables false
open Go.RowKit Mix _root_.Go.Proofs.Ytnakjencodicmaa.Own Dp

theorem Tab.store {w : World} {p gk n ck : Nat} {vf vs : Value} {lim : Nat} {g K : List Int} (h : Tab w p vf (.slice (some ⟨gk, 0, none⟩) n ck) vs lim g K) (m : Nat) (v : Int) (hg : KGood lim g (K.set m v)) :
    Tab (w.setCell ⟨gk, m, none⟩ (.int .i64 v)) p vf (.slice (some ⟨gk, 0, none⟩) n ck) vs lim g (K.set m v) := by
  have hp : p ≠ gk := fun e => h.rk.ne h.blk (by decide) (by rw [e]; rfl)
  refine ⟨h.blk.setOther hp _, h.rf.setOther (fun e => h.nf gk rfl e) _, by rw [ints_set]; exact h.rk.store m _, h.rs.setOther (fun e => h.ns gk rfl e) _, h.nf, h.ns, hg⟩
theorem Tab.known {w : World} {p : Nat} {vf vk vs : Value} {lim : Nat} {g K : List Int} (h : Tab w p vf vk vs lim g K) : ∃ gk ck, vk = .slice (some ⟨gk, 0, none⟩) 166600 ck := by
  have hKl := h.good.len
  obtain ⟨gk, ck, e, _, _⟩ := rowI h.rk (by intro e; rw [e] at hKl; simp at hKl)
  rw [hKl] at e
  exact ⟨gk, ck, e⟩
theorem Tab.sum {w : World} {p : Nat} {vf vk vs : Value} {lim : Nat} {g K : List Int} (h : Tab w p vf vk vs lim g K) : ∃ gs cs, vs = .slice (some ⟨gs, 0, none⟩) (g.length + 1) cs ∧ ∀ i, i ≤ g.length → w.cell? ⟨gs, i, none⟩ = some (.int .i64 (g.drop i).sum) := by
  obtain ⟨gs, cs, e, _, _⟩ := rowI h.rs (by intro e; have := congrArg List.length e; rw [length_sums] at this; simp at this)
  subst e
  rw [length_sums]
  refine ⟨gs, cs, rfl, fun i hi => ?_⟩
  have := h.rs.cell (j := i) (Own.ints_at .i64 (sums g) i (by rw [length_sums]; omega))
  rw [sums_at g i hi] at this
  exact this

theorem minUp_ge {g : List Int} (hg : Gs g) (r j o t : Nat) (y : Int) (h : minUp (cand r (g.drop j) o) t = some y) : 0 ≤ y ∧ y ≤ 1090519040 * ((r : Int) + 1) := by
  have hs := minUp_spec (cand r (g.drop j) o) t
  rw [h] at hs
  obtain ⟨⟨k, _, hk⟩, _⟩ := hs
  unfold cand at hk
  cases hd : dp r ((g.drop j).drop k) (2 * (o - k)) with
  | none => rw [hd] at hk; cases hk
  | some z =>
    rw [hd] at hk
    simp only [Option.map_some, Option.some.injEq] at hk
    have h1 := dp_le _ _ _ _ ((hg.drop j).drop k) hd
    have h2 := (hg.drop j).sum k
    omega

set_option maxHeartbeats 800000 in
theorem cost_calls (g : List Int) (lim p : Nat) (vf vk vs : Value) (hg : Gs g) (hlim : lim ≤ 15) : ∀ (r d j o : Nat) (K : List Int) (w : World), Tab w p vf vk vs lim g K → j ≤ g.length → o ≤ 130 → 1 ≤ d → d + r = lim + 1 →
    Calls Try.prog 42 #[.pointer (some ⟨p, 0, none⟩), .int .i64 (d : Int), .int .i64 (j : Int), .int .i64 (o : Int)] w (CostE g lim p vf vk vs r j o w) := by
  intro r
  induction r with
  | zero =>
    intro d j o K w hT hj ho hd hr
    by_cases h : j = g.length
    · exact cost_end g lim p vf vk vs K 0 d j o w hT hg h (by omega) (by omega)
    · exact cost_out g lim p vf vk vs K 0 d j o w hT hg (by omega) (by omega) (by omega) hr (.inr (.inr rfl))
  | succ r ih =>
    intro d j o K w hT hj ho hd hr
    by_cases h : j = g.length
    · exact cost_end g lim p vf vk vs K (r + 1) d j o w hT hg h (by omega) (by omega)
    by_cases h2 : o = 0 ∨ g.length < j + o
    · exact cost_out g lim p vf vk vs K (r + 1) d j o w hT hg (by omega) (by omega) (by omega) hr (by omega)
    have hjl : j < g.length := by omega
    have ho1 : 1 ≤ o := by omega
    have hjo : j + o ≤ g.length := by omega
    clear h h2 ho hj
    have hl := hg.len
    have hd15 : d ≤ lim := by omega
    rcases hT.good.at_ d j o hd (by omega) (by omega) (by omega) with hk | hk
    · -- not known yet
      obtain ⟨af, cf, rfl⟩ := sliceI hT.rf
      obtain ⟨gk, ck, rfl⟩ := hT.known
      have hKl := hT.good.len
      obtain ⟨m, hm⟩ : ∃ m, m = key d j o := ⟨_, rfl⟩
      have hm2 : m < 166600 := by rw [hm]; unfold key; omega
      have c0 := hT.blk.cell (i := 0) rfl
      have c1 := hT.blk.cell (i := 1) rfl
      have c2 := hT.blk.cell (i := 2) rfl
      have ck2 := hT.rk.cell (j := m) (Own.ints_at .i64 K m (by rw [hKl]; exact hm2))
      rw [← hm] at hk
      rw [hk] at ck2
      have e0 : (((g.length : Int) - (j : Int)) == 0) = false := by rw [beq_eq_false_iff_ne]; omega
      have t0 : ((o : Int) == 0) = false := by rw [beq_eq_false_iff_ne]; omega
      have t1 : decide (((g.length : Int) - (j : Int)) < (o : Int)) = false := by rw [decide_eq_false_iff_not]; omega
      have t2 : decide ((lim : Int) < (d : Int)) = false := by rw [decide_eq_false_iff_not]; omega
      have HK := kept (fun (x : Option Addr) => key_calls x d j o w (by omega) (by omega) (by omega))
      rw [← hm] at HK
      obtain ⟨c, hc⟩ : ∃ c, c = cand r (g.drop j) o := ⟨_, rfl⟩
      have HC := kept hc
      have hne : g.drop j ≠ [] := by intro e; have := congrArg List.length e; rw [List.length_drop] at this; simp at this; omega
      have HD := kept (show dp (r + 1) (g.drop j) o = minUp c (o + 1) by rw [minUp_best, dp_in hne ho1 (by rw [List.length_drop]; omega), hc])
      have HM := kept hm
      have HT := kept hT
      have HG := kept hg
      have IH := kept ih
      clear hT hg hk hm hc hne ih
      go_enter Try.func42, Try.ntmps42
      go_wp2_with (first | (go_at_call 57; refine (HK.out _).mono ?_; rintro e w1 ⟨rfl, rfl⟩))
      go_loopw [11, 12] (fun s11 s12 wr => ∃ t : Nat, t ≤ o + 1 ∧ s12 = .int .i64 (t : Int) ∧ s11 = .int .i64 (enc (minUp c t)) ∧ ∃ K', Tab wr p (.slice af g.length cf) (.slice (some ⟨gk, 0, none⟩) 166600 ck) vs lim g K' ∧ Chg (fun b => some b = (Value.slice (some ⟨gk, 0, none⟩) 166600 ck).ownBlock) w wr)
        (fun _ s12 _ => o + 1 - (intOf s12).toNat)
      case atStart => exact ⟨0, Nat.zero_le _, rfl, rfl, K, HT.out, Chg.refl _ _⟩
      case round =>
        obtain ⟨t, ht, rfl, rfl, K1, hT1, hC1⟩ := hrel
        have hlt := HG.out.len
        by_cases hto : t ≤ o
        · obtain ⟨gs, cs, rfl, hsum⟩ := hT1.sum
          have d3 := hT1.blk.cell (i := 3) rfl
          have dsum := hsum (j + t) (by omega)
          obtain ⟨S, hS⟩ : ∃ S, S = (g.drop (j + t)).sum := ⟨_, rfl⟩
          have hS1 := HG.out.sum (j + t)
          rw [← hS] at dsum hS1
          have hcall := IH.out (d + 1) (j + t) (2 * (o - t)) K1 wr hT1 (by omega) (by omega) (by omega) (by omega)
          rw [show ((d + 1 : Nat) : Int) = (d : Int) + 1 by omega, show ((j + t : Nat) : Int) = (j : Int) + (t : Int) by omega, show ((2 * (o - t) : Nat) : Int) = 2 * ((o : Int) - (t : Int)) by omega] at hcall
          have hcand : c t = (dp r (g.drop (j + t)) (2 * (o - t))).map (· + S) := by rw [HC.out, hS]; unfold cand; rw [List.drop_drop]
          have HS := kept hS
          have HT1 := kept hT1
          have HC1 := kept hC1
          have HSum := kept hsum
          clear hT1 hC1 hS hsum d3 dsum
          cases hdp : dp r (g.drop (j + t)) (2 * (o - t)) with
          | none =>
            have hu : minUp c (t + 1) = minUp c t := by rw [hdp] at hcand; simp only [minUp, hcand, Option.map_none]
            unfold CostE at hcall
            rw [hdp] at hcall
            simp only [enc] at hcall
            have HU := kept hu
            have HCall := kept hcall
            clear hcall hu hcand hdp
            go_wp2_with (first | (go_at_call 42; refine HCall.out.mono ?_; rintro e w2 ⟨rfl, K2, hT2, hC2⟩; have HT2 := kept hT2; have HC2 := kept (HC1.out.trans hC2 (fun _ _ h => h)); clear hT2 hC2))
            go_roundw
            case rel => exact ⟨t + 1, by omega, by go_num, by rw [HU.out], K2, HT2.out, HC2.out⟩
            case measure => simp [intOf]; omega
          | some x =>
            have hx := dp_le _ _ _ _ (HG.out.drop (j + t)) hdp
            have hu : minUp c (t + 1) = match minUp c t with | none => some (x + S) | some y => if x + S < y then some (x + S) else some y := by rw [hdp] at hcand; simp only [minUp, hcand, Option.map_some]; try rfl
            unfold CostE at hcall
            rw [hdp] at hcall
            simp only [enc] at hcall
            obtain ⟨hx1, hx2⟩ := hx
            obtain ⟨hS1a, hS1b⟩ := hS1
            have hx3 : x ≤ 20000000000 := by omega
            have hxn : decide (x < 0) = false := by rw [decide_eq_false_iff_not]; omega
            have HCall := kept hcall
            clear hcall hcand hdp hx2
            cases hmn : minUp c t with
            | none =>
              rw [hmn] at hu
              have HU := kept hu
              clear hu hmn
              simp only [enc]
              go_wp2_with (first | (go_at_call 42; refine HCall.out.mono ?_; rintro e w2 ⟨rfl, K2, hT2, hC2⟩; have d3 := hT2.blk.cell (i := 3) rfl; have dsum := (by have := (hT2.rs.cell (j := j + t) (Own.ints_at .i64 (sums g) (j + t) (by rw [length_sums]; omega))); rw [sums_at g (j + t) (by omega), ← HS.out] at this; exact this : w2.cell? ⟨gs, j + t, none⟩ = some (.int .i64 S)); have HT2 := kept hT2; have HC2 := kept (HC1.out.trans hC2 (fun _ _ h => h)); clear hT2 hC2))
              go_roundw
              case rel => exact ⟨t + 1, by omega, by go_num, by rw [HU.out], K2, HT2.out, HC2.out⟩
              case measure => simp [intOf]; omega
            | some y =>
              rw [hmn] at hu
              simp only at hu
              have hy := minUp_ge HG.out r j o t y (by rw [← HC.out]; exact hmn)
              obtain ⟨hy1, hy2⟩ := hy
              have hyn : decide (y < 0) = false := by rw [decide_eq_false_iff_not]; omega
              clear hmn hy2
              simp only [enc]
              by_cases hlt2 : x + S < y
              · rw [if_pos hlt2] at hu
                have HU := kept hu
                have hyd : decide (x + S < y) = true := decide_eq_true hlt2
                clear hu
                go_wp2_with (first | (go_at_call 42; refine HCall.out.mono ?_; rintro e w2 ⟨rfl, K2, hT2, hC2⟩; have d3 := hT2.blk.cell (i := 3) rfl; have dsum := (by have := (hT2.rs.cell (j := j + t) (Own.ints_at .i64 (sums g) (j + t) (by rw [length_sums]; omega))); rw [sums_at g (j + t) (by omega), ← HS.out] at this; exact this : w2.cell? ⟨gs, j + t, none⟩ = some (.int .i64 S)); have HT2 := kept hT2; have HC2 := kept (HC1.out.trans hC2 (fun _ _ h => h)); clear hT2 hC2))
                go_roundw
                case rel => exact ⟨t + 1, by omega, by go_num, by rw [HU.out], K2, HT2.out, HC2.out⟩
                case measure => simp [intOf]; omega
              · rw [if_neg hlt2] at hu
                have HU := kept hu
                have hyd : decide (x + S < y) = false := decide_eq_false hlt2
                clear hu
                go_wp2_with (first | (go_at_call 42; refine HCall.out.mono ?_; rintro e w2 ⟨rfl, K2, hT2, hC2⟩; have d3 := hT2.blk.cell (i := 3) rfl; have dsum := (by have := (hT2.rs.cell (j := j + t) (Own.ints_at .i64 (sums g) (j + t) (by rw [length_sums]; omega))); rw [sums_at g (j + t) (by omega), ← HS.out] at this; exact this : w2.cell? ⟨gs, j + t, none⟩ = some (.int .i64 S)); have HT2 := kept hT2; have HC2 := kept (HC1.out.trans hC2 (fun _ _ h => h)); clear hT2 hC2))
                go_roundw
                case rel => exact ⟨t + 1, by omega, by go_num, by rw [HU.out], K2, HT2.out, HC2.out⟩
                case measure => simp [intOf]; omega
        · have hto1 : t = o + 1 := by omega
          subst hto1
          have d2 := hT1.blk.cell (i := 2) rfl
          have hKl1 := hT1.good.len
          have df := hT1.rk.free m
          have dk := hT1.rk.cell (j := m) (Own.ints_at .i64 K1 m (by rw [hKl1]; exact hm2))
          rw [← HD.out]
          obtain ⟨z, hz⟩ : ∃ z, z = enc (dp (r + 1) (g.drop j) o) := ⟨_, rfl⟩
          have hz1 : -1 ≤ z ∧ z ≤ 20000000000 := by
            rw [hz]
            cases e : dp (r + 1) (g.drop j) o with
            | none => simp [enc]
            | some x => have := dp_le _ _ _ _ (HG.out.drop j) e; simp only [enc]; omega
          obtain ⟨hz1a, hz1b⟩ := hz1
          have hst := hT1.store m (z + 2) (by
            have := hT1.good.set (d := d) (j := j) (o := o) hd hd15 (by omega) (by omega) hlim
            rw [← HM.out, show lim + 1 - d = r + 1 by omega, ← hz] at this; exact this)
          rw [← hz]
          have HZ := kept hz
          have HS := kept hst
          have HC1 := kept hC1
          clear hT1 hC1 hst hz c0 c1 c2 ck2
          go_wp2_with fail
          go_ret
          exact ⟨by rw [← HZ.out]; rfl, _, HS.out, HC1.out.trans (Chg.setCell _ _ _) (fun b _ e => by rw [e]; rfl)⟩
    · obtain ⟨r', rfl⟩ : ∃ r', r' = r := ⟨r, rfl⟩
      exact cost_known g lim p vf vk vs K r' d j o w hT hg hjl hjo ho1 hd hlim hr (by rw [show lim + 1 - d = r' + 1 by omega] at hk; exact hk)
end Go.Proofs.Ytnakjencodicmaa

-- ---- Ro
/- The document's order of places. -/
namespace Go.Proofs.Ytnakjencodicmaa
set_option maxRecDepth 100000
set_option linter.unusedSimpArgs false
set_option linter.unusedVariables false
open Go.RowKit Mix _root_.Go.Proofs.Ytnakjencodicmaa.Own Ol
attribute [local go_sem] max_int min_int

theorem infoI64 : (Try.prog.info? 3).map (fun i => (i.zero, i.size, i.bytes)) = some (some (.int .i64 0), 1, 8) := by kernel_rfl
theorem info_partsI {i : Option TypeInfo} {z : Value} {s b : Nat} (h : i.map (fun i => (i.zero, i.size, i.bytes)) = some (some z, s, b)) : ∃ i0, i = some i0 ∧ i0.zero = some z ∧ i0.size = s ∧ i0.bytes = b := by
  cases i with
  | none => simp at h
  | some i => simp at h; exact ⟨i, rfl, h.1, h.2.1, h.2.2⟩

/-- Places as values. -/
def idx (l : List Nat) : List Value := l.map fun i : Nat => .int .i64 (i : Int)
@[simp] theorem length_idx (l : List Nat) : (idx l).length = l.length := by simp [idx]
theorem idx_at (l : List Nat) (i : Nat) (h : i < l.length) : (idx l)[i]? = some (.int .i64 ((l.getD i 0 : Nat) : Int)) := by
  simp [idx, List.getD_eq_getElem?_getD, h]
theorem idx_drop (l : List Nat) (k : Nat) : idx (l.drop k) = (idx l).drop k := by simp [idx, List.map_drop]
theorem idx_take (l : List Nat) (k : Nat) : idx (l.take k) = (idx l).take k := by simp [idx, List.map_take]
theorem one_idx (l : List Nat) : ∀ u ∈ idx l, u.oneCell' = true := by
  intro u hu; obtain ⟨n, _, rfl⟩ := List.mem_map.1 hu; rfl

/-- What holds of the row of places, on the way. -/
structure RowO (B : Nat) (w wr : World) (v : Value) (l : List Nat) : Prop where
  own : Owns wr 3 v (idx l)
  new : ∀ g, v.ownBlock = some g → B ≤ g
  low : Below B w wr

theorem rd_cap {w : World} {a : Option Addr} {n c : Nat} {xs : List Value} (h : Rd w (.slice a n c) xs) (c' : Nat) (h1 : n ≤ c') (h2 : c' ≤ maxLen) : Rd w (.slice a n c') xs := by
  obtain ⟨_, _, hv, h3, h4, hc⟩ := h
  simp only [Value.slice.injEq] at hv
  obtain ⟨rfl, rfl, rfl⟩ := hv
  exact ⟨_, _, rfl, h1, h2, hc⟩
/-- What stands ahead of a place, full; what stands from a place on. -/
theorem row_parts {w : World} {a : Option Addr} {cap : Nat} {o : List Nat} (h : Owns w 3 (.slice a o.length cap) (idx o)) (k : Nat) (hk : k ≤ o.length) :
    Rd w (.slice a k k) (idx (o.take k)) ∧ Rd w (.slice (if cap = k then a else a.map fun x => x.add k) (o.length - k) (cap - k)) (idx (o.drop k)) ∧ ((if cap = k then a else a.map fun x => x.add k) = none → cap - k = 0) := by
  have hr := h.rd
  have hcm : o.length ≤ cap ∧ cap ≤ maxLen ∧ (a = none → cap = 0) := by
    rcases h.form with ⟨hv, hx⟩ | ⟨g, cap', cur, hv, _, h1, h2, _⟩
    · simp only [Value.slice.injEq] at hv; obtain ⟨rfl, h0, rfl⟩ := hv; rw [h0]; exact ⟨Nat.le_refl _, Nat.zero_le _, fun _ => rfl⟩
    · simp only [Value.slice.injEq, length_idx] at hv h1; obtain ⟨rfl, _, rfl⟩ := hv; exact ⟨h1, h2, fun e => by cases e⟩
  refine ⟨?_, ?_, fun e => ?_⟩
  · have := hr.take k hk
    rw [← idx_take] at this
    exact rd_cap this k (Nat.le_refl _) (by omega)
  · have := hr.sub k (o.length - k) (by omega)
    rw [← idx_drop, show k + (o.length - k) - k = o.length - k by omega] at this
    rwa [List.take_of_length_le (by simp)] at this
  · split at e
    · omega
    · cases a with
      | none => have := hcm.2.2 rfl; omega
      | some x => cases e

set_option maxHeartbeats 8000000 in
theorem rorder_calls (a : Option Addr) (n c : Nat) (l : List Int) (w : World) (hR : Rd w (.slice a n n) (ints .i64 l)) (hn : n ≤ 100000) :
    Calls Try.prog 41 #[.slice a n c] w fun e w' => ∃ v, e = .returned v ∧ RowO w.heap.size w w' v (ordL l) := by
  have hln : l.length = n := by have := hR.length; rw [length_ints] at this; exact this.symm
  obtain ⟨i0, hi, hz0, hz1, hz2⟩ := info_partsI infoI64
  have HR := kept hR
  have HL := kept hln
  have HN := kept hn
  obtain ⟨B, hB⟩ : ∃ B, B = w.heap.size := ⟨_, rfl⟩
  rw [← hB]
  have HB := kept hB
  clear hR hln hn hB
  go_enter Try.func41, Try.ntmps41
  go_wp2_with fail
  go_loopw [3, 4] (fun s3 s4 wr => ∃ i : Nat, i ≤ n ∧ s4 = .int .i64 (i : Int) ∧ ∃ v3, v3 = s3 ∧ RowO B w wr v3 (ordN l i)) (fun s3 s4 _ => n - (intOf s4).toNat)
  case atStart => exact ⟨0, Nat.zero_le _, rfl, _, rfl, Owns.nil _ _, fun g hg => by simp [Value.ownBlock] at hg, by have := HB.out; subst this; exact Below.refl _ _⟩
  case round =>
    obtain ⟨i, hi2, rfl, v3, rfl, hro⟩ := hrel
    obtain ⟨wo, rfl⟩ : ∃ wo, wo = wr := ⟨wr, rfl⟩
    have hn5 := HN.out
    have hlow := hro.low
    have hRd := HR.out.below hlow (by rw [HB.out]; exact HR.out.lt)
    by_cases hlt : i < n
    · have hil : i < l.length := by rw [HL.out]; exact hlt
      obtain ⟨x, rfl, hc⟩ := hRd.at (Own.ints_at .i64 l i hil)
      obtain ⟨y, hy⟩ : ∃ y, y = l.getD i 0 := ⟨_, rfl⟩
      rw [← hy] at hc
      have HRd := kept hRd
      have HRo := kept hro
      have HY := kept hy
      clear hRd hro hy hlow
      by_cases hpos : 0 < y
      · have p0 : ¬ y ≤ 0 := by omega
        obtain ⟨o, ho⟩ : ∃ o, o = ordN l i := ⟨_, rfl⟩
        rw [← ho] at HRo
        have hol : o.length ≤ i := by rw [ho]; exact length_ordN l i
        obtain ⟨a1, cap1, rfl, hrow⟩ := HRo.out.own.slice
        simp only [length_idx] at HRo ⊢
        have hcapm : cap1 ≤ maxLen ∧ o.length ≤ cap1 := by
          rcases HRo.out.own.form with ⟨hv, _⟩ | ⟨g, cap, cur, hv, _, h1, h2, _⟩
          · simp at hv; simp [hv]
          · simp at hv; rw [hv.2]; exact ⟨h2, by simpa using h1⟩
        simp only [maxLen] at hcapm
        have hmem : ∀ j, j ∈ o → j < i ∧ 0 < l.getD j 0 := fun j hj => by rw [ho] at hj; exact mem_ordN.1 hj
        have HO := kept ho
        have HM := kept hmem
        clear ho hmem hrow
        obtain ⟨hcm, hoc⟩ := hcapm
        go_wp2_with fail
        go_loopw [5] (fun s5 wq => ∃ k : Nat, k ≤ o.length ∧ s5 = .int .i64 (k : Int) ∧ Below wo.heap.size wo wq ∧ (∀ j ∈ o.drop k, l.getD j 0 < y)) (fun s5 _ => (intOf s5).toNat)
        case atStart => exact ⟨o.length, Nat.le_refl _, rfl, Below.refl _ _, by simp⟩
        case round =>
          obtain ⟨k, hk, rfl, hbq, hall⟩ := hrel
          obtain ⟨wq, rfl⟩ : ∃ wq, wq = wr := ⟨wr, rfl⟩
          have HBq := kept hbq
          have HRo2 : Kept (RowO B w wq (.slice a1 o.length cap1) o) := kept ⟨HRo.out.own.keep fun g _ hg => hbq.block g hg, HRo.out.new, HRo.out.low.trans (hbq.mono (by have h1 := HRo.out.low.size; have h2 := HB.out; omega))⟩
          have HRd2 := kept (HRd.out.later hbq)
          have HAll := kept hall
          have hcq : wq.cell? (x.add i) = some (.int .i64 y) := by rw [← hc]; exact hbq.cell (World.block_lt_of_cell? wo _ hc)
          clear hbq hall
          by_cases hk0 : 0 < k
          · have hkl : k - 1 < o.length := by omega
            obtain ⟨g1, rfl⟩ : ∃ g1, a1 = some ⟨g1, 0, none⟩ := by
              obtain ⟨a', cap', hv, hg⟩ := HRo2.out.own.slice
              simp at hv
              rw [hv.1]; exact hg (by intro e; have := congrArg List.length e; simp at this; rw [this] at hkl; simp at hkl)
            have hco := HRo2.out.own.cell (idx_at o (k - 1) hkl)
            obtain ⟨q, hq⟩ : ∃ q, q = o.getD (k - 1) 0 := ⟨_, rfl⟩
            rw [← hq] at hco
            have hqm : q ∈ o := by rw [hq, List.getD_eq_getElem?_getD, List.getElem?_eq_getElem hkl]; exact List.getElem_mem _
            have hqi := (HM.out q hqm).1
            have hql : q < l.length := by rw [HL.out]; omega
            obtain ⟨x2, hx2, hcz⟩ := HRd2.out.at (Own.ints_at .i64 l q hql)
            cases hx2
            obtain ⟨z, hz⟩ : ∃ z, z = l.getD q 0 := ⟨_, rfl⟩
            rw [← hz] at hcz
            have HQ := kept hq
            have HZ := kept hz
            obtain ⟨k1, hk1⟩ : ∃ k1, k = k1 + 1 := ⟨k - 1, by omega⟩
            subst hk1
            simp only [Nat.add_sub_cancel] at hco HQ hkl
            have l0 := lat_cell hco
            have l1 := lat_cell hcz
            have l2 := lat_cell hcq
            have e1 : ((k1 + 1 : Nat) : Int) - 1 = (k1 : Int) := by omega
            have hqn : q < n := by omega
            clear hq hz hqm hqi hql hco hcz hcq
            by_cases hzy : z < y
            · have hd : decide (z < y) = true := by simpa using hzy
              go_wp2_with fail
              refine wp_region_quietL (by kernel_rfl) (by kernel_rfl) ?_
              repeat (go_big_quiet_step (fail))
              refine wpQuiet_nil ?_
              intro nq
              have HB3 := kept (HBq.out.trans (nq.below.mono HBq.out.size))
              generalize nq.w = w3 at HB3 ⊢
              clear l0 l1 l2
              go_wp2_with fail
              go_roundw
              case rel =>
                refine ⟨k1, by omega, by go_num, HB3.out, fun j hj => ?_⟩
                rw [List.drop_eq_getElem_cons (by omega)] at hj
                rcases List.mem_cons.1 hj with rfl | hj
                · have h1 := HQ.out; have h2 := HZ.out
                  rw [List.getD_eq_getElem?_getD, List.getElem?_eq_getElem (by omega)] at h1
                  simp only [Option.getD_some] at h1
                  rw [← h1, ← h2]; exact hzy
                · exact HAll.out j hj
              case measure => simp [intOf]
            · have hd : decide (z < y) = false := by simpa using hzy
              have HE : Kept (ins l i o = o.take (k1 + 1) ++ i :: o.drop (k1 + 1)) := kept (by
                have hf : Fall l o := by rw [HO.out]; exact (ordN_spec l i).1
                refine ins_at hf (k1 + 1) hk (fun j hj => by rw [← HY.out]; exact HAll.out j hj) fun _ => ?_
                rw [Nat.add_sub_cancel, ← HQ.out, ← HZ.out, ← HY.out]; exact hzy)
              clear HAll HQ HZ hzy
              go_wp2_with fail
              refine wp_region_quietL (by kernel_rfl) (by kernel_rfl) ?_
              repeat (go_big_quiet_step (fail))
              refine wpQuiet_nil ?_
              intro nq
              have HRo3 : Kept (RowO B w nq.w (.slice (some ⟨g1, 0, none⟩) o.length cap1) o) := kept ⟨HRo2.out.own.keep fun g _ hg => nq.below.block g hg, HRo2.out.new, HRo2.out.low.trans (nq.below.mono (by have h1 := HRo2.out.low.size; have h2 := HB.out; omega))⟩
              generalize nq.w = w3 at HRo3 ⊢
              clear l0 l1 l2
              have hkc : k1 + 1 ≤ cap1 := by omega
              go_wp2_with fail
              refine wp_region_mixL [0,1,2,3] [4,6,7,8] [5,9,10,11] (by kernel_rfl) (by kernel_rfl) ?_
              intro K hK
              simp only [pick, List.filterMap_cons, List.filterMap_nil, List.getElem?_cons_zero, List.getElem?_cons_succ]
              repeat (show wpQuiet _ _ _ _ (_ :: _) _; go_big_quiet_step (fail))
              refine wpQuiet_nil ?_
              obtain ⟨hA, hBs, hnil⟩ := row_parts HRo3.out.own (k1 + 1) hk
              obtain ⟨A2, hA2⟩ : ∃ A2, A2 = (if cap1 = k1 + 1 then some (⟨g1, 0, none⟩ : Addr) else some (⟨g1, k1 + 1, none⟩ : Addr)) := ⟨_, rfl⟩
              have hA3 : (if cap1 = k1 + 1 then some (⟨g1, 0, none⟩ : Addr) else (some (⟨g1, 0, none⟩ : Addr)).map fun x => x.add (k1 + 1)) = A2 := by rw [hA2]; simp [Addr.add]
              rw [hA3] at hBs hnil
              rw [← hA2]
              clear hA3
              clear hA2
              generalize hwd : World.drew w3 = w4
              have HRo4 : Kept (RowO B w w4 (.slice (some ⟨g1, 0, none⟩) o.length cap1) o) := kept (by rw [← hwd]; exact ⟨HRo3.out.own, HRo3.out.new, HRo3.out.low.drew⟩)
              have HA : Kept (Rd w4 (.slice (some ⟨g1, 0, none⟩) (k1 + 1) (k1 + 1)) (idx (o.take (k1 + 1)))) := kept (by rw [← hwd]; exact hA)
              have HBs : Kept (Rd w4 (.slice A2 (o.length - (k1 + 1)) (cap1 - (k1 + 1))) (idx (o.drop (k1 + 1)))) := kept (by rw [← hwd]; exact hBs)
              have HNil := kept hnil
              clear hA hBs hnil hwd HRo3
              have hb5 : Below w4.heap.size w4 (w4.alloc (.cells #[.int .i64 (i : Int)] 3)) := (Below.refl _ _).alloc (Nat.le_refl _) _
              have hO5 : Owns (w4.alloc (.cells #[.int .i64 (i : Int)] 3)) 3 (.slice (some ⟨w4.heap.size, 0, none⟩) 1 1) [.int .i64 (i : Int)] :=
                Owns.mk (xs := [.int .i64 (i : Int)]) (Blk.fresh _ _ _) (Nat.le_refl _) (by simp [maxLen]) rfl rfl
              have HB5 := kept hb5
              have HO5 := kept hO5
              have HC5 : Kept (Rd (w4.alloc (.cells #[.int .i64 (i : Int)] 3)) (.slice A2 (o.length - (k1 + 1)) (cap1 - (k1 + 1))) (idx (o.drop (k1 + 1)))) := kept (HBs.out.later hb5)
              clear hb5 hO5
              show wpList _ _ _ [_, _, _, _] _ _
              go_wp2_with (first | (at_builtin; refine wpList_appRd rfl _ _ 23 rfl 3 i0 (.int .i64 0) 8 Try.underlying23 hi hz0 hz1 hz2 rfl _ _ rfl HO5.out A2 _ _ _ rfl HC5.out HNil.out (one_idx _) ?_ ?_ ?_) | fail)
              · simp [maxLen]; omega
              · simp; omega
              intro v6 w6 O6 C6 F6
              obtain ⟨a6, cap6, rfl, hg6⟩ := O6.slice
              have hsz5 : (w4.alloc (.cells #[.int .i64 (i : Int)] 3)).heap.size = w4.heap.size + 1 := by simp
              have hc46 : Chg (fun _ => False) w4 w6 := ((Chg.of_below (S := fun _ => False) HB5.out).trans C6 (fun b hb h => by
                simp [Value.ownBlock] at h; omega))
              have hb6 : Below w4.heap.size w4 w6 := hc46.below (Nat.le_refl _) (fun _ _ h => h)
              have HA6 := kept (HA.out.later hb6)
              have HR6 := kept O6.rd
              have HB6 := kept hb6
              have hl6 : (Value.int .i64 (i : Int) :: idx (o.drop (k1 + 1))).length = o.length - (k1 + 1) + 1 := by simp
              rw [hl6] at HR6 ⊢
              clear O6 C6 F6 hg6 hsz5 hc46 hb6 hl6
              go_wp2_with (first | (at_builtin; refine wpList_appFull rfl _ _ 23 rfl 3 i0 (.int .i64 0) 8 Try.underlying23 hi hz0 hz1 hz2 rfl (some ⟨g1, 0, none⟩) _ _ rfl HA6.out a6 _ _ _ rfl HR6.out (by omega) ?_ ?_ ?_) | fail)
              · simp [maxLen]; omega
              · omega
              intro v7 w7 O7 B7 F7
              have HO7 : Kept (RowO B w w7 v7 (ordN l (i + 1))) := kept (by
                have e1 : ordN l (i + 1) = o.take (k1 + 1) ++ i :: o.drop (k1 + 1) := by
                  rw [← HE.out, HO.out]; show (if _ then _ else _) = _; rw [if_pos (by rw [← HY.out]; exact hpos)]
                have h1 := HRo4.out.low.size
                have h2 := HB.out
                have h3 := HB6.out.size
                refine ⟨?_, fun g hg => by have := F7 g hg; omega, (HRo4.out.low.trans (HB6.out.mono (by omega))).trans (B7.mono (by omega))⟩
                rw [e1]; simpa [idx] using O7)
              clear O7 B7 F7
              go_wp2_with fail
              refine hK _ _ ?_
              go_wp2_with fail
              go_roundw
              case rel => exact ⟨i + 1, by omega, by go_num, _, rfl, HO7.out⟩
              case measure => simp [intOf]; omega
          · have hd : decide (0 < k) = false := by simp; omega
            have hkz : k = 0 := by omega
            subst hkz
            have HE : Kept (ins l i o = o.take 0 ++ i :: o.drop 0) := kept (by
                have hf : Fall l o := by rw [HO.out]; exact (ordN_spec l i).1
                refine ins_at hf 0 hk (fun j hj => by rw [← HY.out]; exact HAll.out j hj) fun h => ?_
                omega)
            clear HAll hk0 hd
            have hd : decide ((0 : Int) < ((0 : Nat) : Int)) = false := rfl
            go_wp2_with fail
            refine wp_region_quietL (by kernel_rfl) (by kernel_rfl) ?_
            repeat (go_big_quiet_step (fail))
            refine wpQuiet_nil ?_
            intro nq
            have HRo3 : Kept (RowO B w nq.w (.slice a1 o.length cap1) o) := kept ⟨HRo2.out.own.keep fun g _ hg => nq.below.block g hg, HRo2.out.new, HRo2.out.low.trans (nq.below.mono (by have h1 := HRo2.out.low.size; have h2 := HB.out; omega))⟩
            generalize nq.w = w3 at HRo3 ⊢
            clear hd
            have hkc : 0 ≤ cap1 := by omega
            go_wp2_with fail
            refine wp_region_mixL [0,1,2,3] [4,6,7,8] [5,9,10,11] (by kernel_rfl) (by kernel_rfl) ?_
            intro K hK
            simp only [pick, List.filterMap_cons, List.filterMap_nil, List.getElem?_cons_zero, List.getElem?_cons_succ]
            repeat (show wpQuiet _ _ _ _ (_ :: _) _; go_big_quiet_step (fail))
            refine wpQuiet_nil ?_
            have hA := (row_parts HRo3.out.own 0 hk).1
            have hBs : Rd w3 (.slice a1 o.length cap1) (idx (o.drop 0)) := by simpa using HRo3.out.own.rd
            have hnil : a1 = none → cap1 = 0 := fun e => by
              rcases HRo3.out.own.form with ⟨hv, _⟩ | ⟨g, cap', cur, hv, _⟩
              · simp only [Value.slice.injEq] at hv; exact hv.2.2
              · simp only [Value.slice.injEq] at hv; rw [e] at hv; cases hv.1
            generalize hwd : World.drew w3 = w4
            have HRo4 : Kept (RowO B w w4 (.slice a1 o.length cap1) o) := kept (by rw [← hwd]; exact ⟨HRo3.out.own, HRo3.out.new, HRo3.out.low.drew⟩)
            have HA : Kept (Rd w4 (.slice a1 (0) (0)) (idx (o.take (0)))) := kept (by rw [← hwd]; exact hA)
            have HBs : Kept (Rd w4 (.slice a1 o.length cap1) (idx (o.drop (0)))) := kept (by rw [← hwd]; exact hBs)
            have HNil := kept hnil
            clear hA hBs hnil hwd HRo3
            have hb5 : Below w4.heap.size w4 (w4.alloc (.cells #[.int .i64 (i : Int)] 3)) := (Below.refl _ _).alloc (Nat.le_refl _) _
            have hO5 : Owns (w4.alloc (.cells #[.int .i64 (i : Int)] 3)) 3 (.slice (some ⟨w4.heap.size, 0, none⟩) 1 1) [.int .i64 (i : Int)] :=
              Owns.mk (xs := [.int .i64 (i : Int)]) (Blk.fresh _ _ _) (Nat.le_refl _) (by simp [maxLen]) rfl rfl
            have HB5 := kept hb5
            have HO5 := kept hO5
            have HC5 : Kept (Rd (w4.alloc (.cells #[.int .i64 (i : Int)] 3)) (.slice a1 o.length cap1) (idx (o.drop (0)))) := kept (HBs.out.later hb5)
            clear hb5 hO5
            show wpList _ _ _ [_, _, _, _] _ _
            go_wp2_with (first | (at_builtin; refine wpList_appRd rfl _ _ 23 rfl 3 i0 (.int .i64 0) 8 Try.underlying23 hi hz0 hz1 hz2 rfl _ _ rfl HO5.out a1 _ _ _ rfl HC5.out HNil.out (one_idx _) ?_ ?_ ?_) | fail)
            · simp [maxLen]; omega
            · simp; omega
            intro v6 w6 O6 C6 F6
            obtain ⟨a6, cap6, rfl, hg6⟩ := O6.slice
            have hsz5 : (w4.alloc (.cells #[.int .i64 (i : Int)] 3)).heap.size = w4.heap.size + 1 := by simp
            have hc46 : Chg (fun _ => False) w4 w6 := ((Chg.of_below (S := fun _ => False) HB5.out).trans C6 (fun b hb h => by
              simp [Value.ownBlock] at h; omega))
            have hb6 : Below w4.heap.size w4 w6 := hc46.below (Nat.le_refl _) (fun _ _ h => h)
            have HA6 := kept (HA.out.later hb6)
            have HR6 := kept O6.rd
            have HB6 := kept hb6
            have hl6 : (Value.int .i64 (i : Int) :: idx o).length = o.length + 1 := by simp
            rw [hl6] at HR6 ⊢
            clear O6 C6 F6 hg6 hsz5 hc46 hb6 hl6
            go_wp2_with (first | (at_builtin; refine wpList_appFull rfl _ _ 23 rfl 3 i0 (.int .i64 0) 8 Try.underlying23 hi hz0 hz1 hz2 rfl a1 _ _ rfl HA6.out a6 _ _ _ rfl HR6.out (by omega) ?_ ?_ ?_) | fail)
            · simp [maxLen]; omega
            · omega
            intro v7 w7 O7 B7 F7
            have HO7 : Kept (RowO B w w7 v7 (ordN l (i + 1))) := kept (by
              have e1 : ordN l (i + 1) = o.take (0) ++ i :: o.drop (0) := by
                rw [← HE.out, HO.out]; show (if _ then _ else _) = _; rw [if_pos (by rw [← HY.out]; exact hpos)]
              have h1 := HRo4.out.low.size
              have h2 := HB.out
              have h3 := HB6.out.size
              refine ⟨?_, fun g hg => by have := F7 g hg; omega, (HRo4.out.low.trans (HB6.out.mono (by omega))).trans (B7.mono (by omega))⟩
              rw [e1]; simpa [idx] using O7)
            clear O7 B7 F7
            go_wp2_with fail
            refine hK _ _ ?_
            go_wp2_with fail
            go_roundw
            case rel => exact ⟨i + 1, by omega, by go_num, _, rfl, HO7.out⟩
            case measure => simp [intOf]; omega
      · have p0 : y ≤ 0 := by omega
        have HE : Kept (ordN l (i + 1) = ordN l i) := kept (by show (if _ then _ else _) = _; rw [if_neg (by rw [← HY.out]; exact hpos)])
        have HRo2 : Kept (RowO B w wo v3 (ordN l (i + 1))) := kept (by rw [HE.out]; exact HRo.out)
        go_wp2_with fail
        go_roundw
        case rel => exact ⟨i + 1, by omega, by go_num, _, rfl, HRo2.out⟩
        case measure => simp [intOf]; omega
    · have hin : i = n := by omega
      subst hin
      have HF : Kept (RowO B w wo v3 (ordL l)) := kept (by unfold ordL; rw [HL.out]; exact hro)
      clear hro hlow hRd
      go_wp2_with fail
      go_ret
      exact ⟨v3, rfl, HF.out⟩
end Go.Proofs.Ytnakjencodicmaa

-- ---- Re
/- wringerref7.Lengths: what it refuses. Conditions: the list reads as the argument does. -/
namespace Go.Proofs.Ytnakjencodicmaa
set_option maxRecDepth 100000
set_option linter.unusedSimpArgs false
set_option linter.unusedVariables false
open Go.RowKit Mix _root_.Go.Proofs.Ytnakjencodicmaa.Own Dp Ol
attribute [local go_sem] Own.max_int Own.min_int

/-- What may be asked, as a Bool. -/
def fqB (l : List Int) (a : Int) : Bool := decide (l.length = 65 ∧ 7 ≤ a ∧ a ≤ 15 ∧ ∀ x ∈ l, 0 ≤ x ∧ x ≤ 16777216)
theorem fqB_iff (l : List Int) (a : Int) : fqB l a = true ↔ ∃ m : Nat, a = (m : Int) ∧ Fq l m := by
  unfold fqB
  rw [decide_eq_true_eq]
  constructor
  · rintro ⟨h1, h2, h3, h4⟩
    exact ⟨a.toNat, by omega, h1, h4, by omega, by omega⟩
  · rintro ⟨m, rfl, h⟩
    exact ⟨h.len, by have := h.lo; omega, by have := h.hi; omega, h.each⟩

set_option maxRecDepth 100000 in
set_option maxHeartbeats 2000000 in
theorem rlen_bad (A0 : Option Addr) (n0 c0 : Nat) (l0 : List Int) (a1 : Int) (w : World) (hR : Rd w (.slice A0 n0 n0) (ints .i64 l0)) (hn : n0 < 200000000000000) (hb : ¬ fqB l0 a1 = true) :
    Calls Try.prog 18 #[.slice A0 n0 c0, .int .i64 a1] w fun e w' => e = .returned (.agg #[.slice none 0 0, .int .i64 1]) ∧ Below w.heap.size w w' := by
  have hl : l0.length = n0 := by have := hR.length; rw [length_ints] at this; exact this.symm
  by_cases h65 : n0 = 65
  · subst h65
    by_cases h7 : a1 < 7
    · have t7 : decide (a1 < 7) = true := decide_eq_true h7
      clear hR hb hl hn
      go_enter Try.func18, Try.ntmps18
      go_wp2_with fail
      exact bodyPost_ret (results_cell_row rfl _ _ w.heap.size 45 #[.slice none 0 0, .int .i64 1] (0, 0) _ rfl (Blk.fresh _ _ _) Try.underlying45 rfl (by kernel_rfl)) rfl ⟨rfl, (Below.refl _ _).alloc (Nat.le_refl _) _⟩
    · have t7 : decide (a1 < 7) = false := decide_eq_false h7
      by_cases h15 : 15 < a1
      · have t15 : decide (15 < a1) = true := decide_eq_true h15
        clear hR hb hl hn
        go_enter Try.func18, Try.ntmps18
        go_wp2_with fail
        exact bodyPost_ret (results_cell_row rfl _ _ w.heap.size 45 #[.slice none 0 0, .int .i64 1] (0, 0) _ rfl (Blk.fresh _ _ _) Try.underlying45 rfl (by kernel_rfl)) rfl ⟨rfl, (Below.refl _ _).alloc (Nat.le_refl _) _⟩
      · have t15 : decide (15 < a1) = false := decide_eq_false h15
        obtain ⟨j, hj, hjb⟩ : ∃ j, j < 65 ∧ ¬ (0 ≤ l0.getD j 0 ∧ l0.getD j 0 ≤ 16777216) := by
          refine Classical.byContradiction fun hc => hb ?_
          unfold fqB
          rw [decide_eq_true_eq]
          refine ⟨hl, by omega, by omega, fun x hx => ?_⟩
          obtain ⟨j, hj, e⟩ := List.getElem_of_mem hx
          refine Classical.byContradiction fun hx2 => hc ⟨j, by omega, ?_⟩
          have e2 : l0.getD j 0 = x := by simp [List.getD_eq_getElem?_getD, hj, e]
          rw [e2]; exact hx2
        obtain ⟨B, hB⟩ : ∃ B, B = w.heap.size := ⟨_, rfl⟩
        have HB := kept hB
        have HR := kept hR
        have HL := kept hl
        have HJ := kept hjb
        clear hR hb hl hn hjb hB
        go_enter Try.func18, Try.ntmps18
        go_wp2_with fail
        rw [show w.heap.size = B from HB.out.symm]
        generalize hw1 : World.alloc w _ = w1
        have HR1 := kept (HR.out.later (show Below w.heap.size w w1 by rw [← hw1]; exact (Below.refl _ _).alloc (Nat.le_refl _) _))
        have HS : Kept (Blk w1 B #[.slice none 0 0, .int .i64 0] 45 ∧ Below B w w1) := kept (by rw [← hw1, HB.out]; exact ⟨Blk.fresh _ _ _, (Below.refl _ _).alloc (Nat.le_refl _) _⟩)
        clear hw1
        go_loopw [5] (fun s5 wr => ∃ i : Nat, i ≤ j ∧ s5 = .int .i64 (i : Int) ∧ wr = w1) (fun s5 _ => 65 - (intOf s5).toNat)
        case atStart => exact ⟨0, by omega, rfl, rfl⟩
        case round =>
          obtain ⟨i, hi, rfl, rfl⟩ := hrel
          have hil : i < 65 := by omega
          obtain ⟨x, rfl, hc⟩ := HR1.out.at (Own.ints_at .i64 l0 i (by rw [HL.out]; omega))
          by_cases hij : i = j
          · subst hij
            have hy := HJ.out
            have hd0 := HS.out.1.cell (i := 0) rfl
            have hd1 := HS.out.1.cell (i := 1) rfl
            have hf0 := HS.out.1.free 0
            have hf1 := HS.out.1.free 1
            obtain ⟨y, hye⟩ : ∃ y, y = l0.getD i 0 := ⟨_, rfl⟩
            rw [← hye] at hc hy
            clear hye
            by_cases h0 : y < 0
            · have ty : decide (y < 0) = true := decide_eq_true h0
              clear hy
              go_wp2_with fail
              exact bodyPost_ret (results_cell_row rfl _ _ B 45 #[.slice none 0 0, .int .i64 1] (0, 0) _ rfl ((HS.out.1.set 0 _).set 1 _) Try.underlying45 rfl (by kernel_rfl)) rfl ⟨rfl, by rw [← HB.out]; exact (HS.out.2.setCell (p := ⟨B, 0, none⟩) (Nat.le_refl _) _).setCell (p := ⟨B, 1, none⟩) (Nat.le_refl _) _⟩
            · have ty : decide (y < 0) = false := decide_eq_false h0
              have tz : decide (16777216 < y) = true := decide_eq_true (by omega)
              have hz : 16777216 < y := by omega
              clear hy
              go_wp2_with fail
              exact bodyPost_ret (results_cell_row rfl _ _ B 45 #[.slice none 0 0, .int .i64 1] (0, 0) _ rfl ((HS.out.1.set 0 _).set 1 _) Try.underlying45 rfl (by kernel_rfl)) rfl ⟨rfl, by rw [← HB.out]; exact (HS.out.2.setCell (p := ⟨B, 0, none⟩) (Nat.le_refl _) _).setCell (p := ⟨B, 1, none⟩) (Nat.le_refl _) _⟩
          · obtain ⟨y, hye⟩ : ∃ y, y = l0.getD i 0 := ⟨_, rfl⟩
            rw [← hye] at hc
            clear hye
            have hd0 := HS.out.1.cell (i := 0) rfl
            have hd1 := HS.out.1.cell (i := 1) rfl
            have hf0 := HS.out.1.free 0
            have hf1 := HS.out.1.free 1
            by_cases h0 : y < 0
            · have ty : decide (y < 0) = true := decide_eq_true h0
              go_wp2_with fail
              exact bodyPost_ret (results_cell_row rfl _ _ B 45 #[.slice none 0 0, .int .i64 1] (0, 0) _ rfl ((HS.out.1.set 0 _).set 1 _) Try.underlying45 rfl (by kernel_rfl)) rfl ⟨rfl, by rw [← HB.out]; exact (HS.out.2.setCell (p := ⟨B, 0, none⟩) (Nat.le_refl _) _).setCell (p := ⟨B, 1, none⟩) (Nat.le_refl _) _⟩
            · have ty : decide (y < 0) = false := decide_eq_false h0
              by_cases hz : 16777216 < y
              · have tz : decide (16777216 < y) = true := decide_eq_true hz
                go_wp2_with fail
                exact bodyPost_ret (results_cell_row rfl _ _ B 45 #[.slice none 0 0, .int .i64 1] (0, 0) _ rfl ((HS.out.1.set 0 _).set 1 _) Try.underlying45 rfl (by kernel_rfl)) rfl ⟨rfl, by rw [← HB.out]; exact (HS.out.2.setCell (p := ⟨B, 0, none⟩) (Nat.le_refl _) _).setCell (p := ⟨B, 1, none⟩) (Nat.le_refl _) _⟩
              · have tz : decide (16777216 < y) = false := decide_eq_false hz
                go_wp2_with fail
                go_roundw
                case rel => exact ⟨i + 1, by omega, by go_num, trivial⟩
                case measure => simp [intOf]; omega
  · have t65 : ((n0 : Int) != 65) = true := by simp; omega
    clear hR hb hl h65
    go_enter Try.func18, Try.ntmps18
    go_wp2_with fail
    exact bodyPost_ret (results_cell_row rfl _ _ w.heap.size 45 #[.slice none 0 0, .int .i64 1] (0, 0) _ rfl (Blk.fresh _ _ _) Try.underlying45 rfl (by kernel_rfl)) rfl ⟨rfl, (Below.refl _ _).alloc (Nat.le_refl _) _⟩
end Go.Proofs.Ytnakjencodicmaa

-- ---- Rf
/- wringerref7.Lengths: the memory on the way. Conditions: those that each theorem names. -/
namespace Go.Proofs.Ytnakjencodicmaa
set_option maxRecDepth 100000
set_option linter.unusedSimpArgs false
set_option linter.unusedVariables false
open Go.RowKit Mix _root_.Go.Proofs.Ytnakjencodicmaa.Own Dp Ol

/-- On the way: the result's block, the lengths at g, the order at g7, the maker at p with its rows. -/
structure StB (B : Nat) (w wr : World) (g g7 c7 : Nat) (l : List Int) (m p : Nat) (vf vk vs : Value) (xs F K S : List Int) : Prop where
  res : Blk wr B #[.slice none 0 0, .int .i64 0] 45
  low : Below B w wr
  pB : B ≤ p
  blk : Blk wr p #[vf, .int .i64 (m : Int), vk, vs] 98
  many : Many B wr 3 [(.slice (some ⟨g, 0, none⟩) 65 65, ints .i64 xs), (.slice (some ⟨g7, 0, none⟩) (ordL l).length c7, idx (ordL l)), (vk, ints .i64 K), (vs, ints .i64 S), (vf, ints .i64 F)]

section
variable {B : Nat} {w wr : World} {g g7 c7 : Nat} {l : List Int} {m p : Nat} {vf vk vs : Value} {xs F K S : List Int}
theorem StB.sz (h : StB B w wr g g7 c7 l m p vf vk vs xs F K S) : B ≤ wr.heap.size := Nat.le_of_lt h.res.lt
theorem StB.later {w' : World} (h : StB B w wr g g7 c7 l m p vf vk vs xs F K S) (hb : Below wr.heap.size wr w') : StB B w w' g g7 c7 l m p vf vk vs xs F K S :=
  ⟨(hb.block B h.res.lt).trans h.res, h.low.trans (hb.mono h.sz), h.pB, (hb.block p h.blk.lt).trans h.blk, h.many.later hb⟩
theorem StB.out (h : StB B w wr g g7 c7 l m p vf vk vs xs F K S) : Owns wr 3 (.slice (some ⟨g, 0, none⟩) 65 65) (ints .i64 xs) := h.many.own 0 _ _ rfl
theorem StB.ord (h : StB B w wr g g7 c7 l m p vf vk vs xs F K S) : Owns wr 3 (.slice (some ⟨g7, 0, none⟩) (ordL l).length c7) (idx (ordL l)) := h.many.own 1 _ _ rfl
theorem StB.ordAt (h : StB B w wr g g7 c7 l m p vf vk vs xs F K S) (i : Nat) (hi : i < (ordL l).length) : wr.cell? ⟨g7, i, none⟩ = some (.int .i64 (((ordL l).getD i 0 : Nat) : Int)) := h.ord.cell (idx_at _ i hi)
theorem StB.storeOut (h : StB B w wr g g7 c7 l m p vf vk vs xs F K S) (j : Nat) (v : Int) : StB B w (wr.setCell ⟨g, j, none⟩ (.int .i64 v)) g g7 c7 l m p vf vk vs (xs.set j v) F K S := by
  have hc : Chg (fun k => some k = (Value.slice (some ⟨g, 0, none⟩) 65 65).ownBlock) wr (wr.setCell ⟨g, j, none⟩ (.int .i64 v)) := (Chg.setCell wr ⟨g, j, none⟩ (.int .i64 v)).mono fun k _ hk => by rw [hk]; rfl
  refine ⟨h.many.other 0 rfl hc h.res (by decide), h.low.trans (h.many.below 0 rfl hc h.sz), h.pB, h.many.other 0 rfl hc h.blk (by decide), ?_⟩
  have := h.many.store 0 rfl j (.int .i64 v) h.sz
  rw [← ints_set] at this; exact this
theorem StB.tab (h : StB B w wr g g7 c7 l m p vf vk vs xs F K (sums F)) (hK : KGood m F K) : Tab wr p vf vk vs m F K :=
  ⟨h.blk, h.many.own 4 _ _ rfl, h.many.own 2 _ _ rfl, h.many.own 3 _ _ rfl, fun b hb => h.many.sep 2 4 _ _ _ _ (by decide) rfl rfl b hb, fun b hb => h.many.sep 2 3 _ _ _ _ (by decide) rfl rfl b hb, hK⟩
theorem StB.costed {w' : World} {K' : List Int} (h : StB B w wr g g7 c7 l m p vf vk vs xs F K (sums F)) (hT : Tab w' p vf vk vs m F K') (hc : Chg (fun b => some b = vk.ownBlock) wr w') : StB B w w' g g7 c7 l m p vf vk vs xs F K' (sums F) :=
  ⟨h.many.other 2 rfl hc h.res (by decide), h.low.trans (h.many.below 2 rfl hc h.sz), h.pB, hT.blk, h.many.set 2 rfl hc hT.rk (fun b hb => .inl hb.symm) h.sz⟩
/-- A number behind the frequencies, and the field laid anew. -/
theorem StB.push {w' : World} {v2 : Value} {x : Int} (h : StB B w wr g g7 c7 l m p vf vk vs xs F K S) (ho : Owns w' 3 v2 (ints .i64 (F ++ [x]))) (hc : Chg (fun b => some b = vf.ownBlock) wr w') (hn : ∀ b, v2.ownBlock = some b → some b = vf.ownBlock ∨ wr.heap.size ≤ b) :
    StB B w (w'.setCell ⟨p, 0, none⟩ v2) g g7 c7 l m p v2 vk vs xs (F ++ [x]) K S ∧ w'.frozen? ⟨p, 0, none⟩ = false ∧ w'.cell? ⟨p, 0, none⟩ = some vf := by
  have h1 := h.many.set 4 rfl hc ho hn h.sz
  have hb : Blk w' p #[vf, .int .i64 (m : Int), vk, vs] 98 := h.many.other 4 rfl hc h.blk (by decide)
  have hr : Blk w' B #[.slice none 0 0, .int .i64 0] 45 := h.many.other 4 rfl hc h.res (by decide)
  have hl := h.low.trans (h.many.below 4 rfl hc h.sz)
  exact ⟨⟨hr.setOther (hr.ne hb (by decide)) _, hl.setCell h.pB _, h.pB, hb.set 0 _, h1.setBlk hb (by decide) 0 v2⟩, hb.free 0, hb.cell rfl⟩
theorem StB.storeSum {gs cs n : Nat} (h : StB B w wr g g7 c7 l m p vf vk (.slice (some ⟨gs, 0, none⟩) n cs) xs F K S) (j : Nat) (v : Int) : StB B w (wr.setCell ⟨gs, j, none⟩ (.int .i64 v)) g g7 c7 l m p vf vk (.slice (some ⟨gs, 0, none⟩) n cs) xs F K (S.set j v) := by
  have hc : Chg (fun k => some k = (Value.slice (some ⟨gs, 0, none⟩) n cs).ownBlock) wr (wr.setCell ⟨gs, j, none⟩ (.int .i64 v)) := (Chg.setCell wr ⟨gs, j, none⟩ (.int .i64 v)).mono fun k _ hk => by rw [hk]; rfl
  refine ⟨h.many.other 3 rfl hc h.res (by decide), h.low.trans (h.many.below 3 rfl hc h.sz), h.pB, h.many.other 3 rfl hc h.blk (by decide), ?_⟩
  have := h.many.store 3 rfl j (.int .i64 v) h.sz
  rw [← ints_set] at this; exact this
end

theorem Own.Many.sub {B : Nat} {w : World} {e : TypeId} {R R' : List (Value × List Value)} (h : Many B w e R) (f : Nat → Nat) (h1 : ∀ i, i < R'.length → R[f i]? = R'[i]?) (h2 : ∀ i j, i < R'.length → j < R'.length → f i = f j → i = j) : Many B w e R' := by
  have lt : ∀ (i : Nat) r, R'[i]? = some r → i < R'.length := fun i r hi => (List.getElem?_eq_some_iff.1 hi).1
  exact ⟨fun i v xs hi => h.own (f i) v xs (by rw [h1 i (lt i _ hi)]; exact hi), fun i v xs hi => h.new (f i) v xs (by rw [h1 i (lt i _ hi)]; exact hi),
    fun i j a xs b ys hij hi hj => h.sep (f i) (f j) a xs b ys (fun e => hij (h2 i j (lt i _ hi) (lt j _ hj) e)) (by rw [h1 i (lt i _ hi)]; exact hi) (by rw [h1 j (lt j _ hj)]; exact hj)⟩
theorem Own.Many.swap {B : Nat} {w : World} {e : TypeId} {a b c d : Value × List Value} (h : Many B w e [a, b, c, d]) : Many B w e [a, b, d, c] := by
  refine h.sub (fun i => if i = 2 then 3 else if i = 3 then 2 else i) (fun i hi => ?_) (fun i j hi hj he => ?_)
  · have : i = 0 ∨ i = 1 ∨ i = 2 ∨ i = 3 := by simp at hi; omega
    rcases this with rfl | rfl | rfl | rfl <;> rfl
  · simp at hi hj he
    split at he <;> split at he <;> (try split at he) <;> (try split at he) <;> omega
/-- The maker is laid. -/
theorem StB.make {B : Nat} {w x : World} {g g7 c7 : Nat} {l : List Int} {m : Nat} {vk vs : Value} {xs K S : List Int} (h1 : Blk x B #[.slice none 0 0, .int .i64 0] 45) (h2 : Below B w x)
    (h3 : Many B x 3 [(.slice (some ⟨g, 0, none⟩) 65 65, ints .i64 xs), (.slice (some ⟨g7, 0, none⟩) (ordL l).length c7, idx (ordL l)), (vk, ints .i64 K), (vs, ints .i64 S)]) :
    StB B w (x.alloc (.cells #[.slice none 0 0, .int .i64 (m : Int), vk, vs] 98)) g g7 c7 l m x.heap.size (.slice none 0 0) vk vs xs [] K S := by
  have hb : Below x.heap.size x (x.alloc (.cells #[.slice none 0 0, .int .i64 (m : Int), vk, vs] 98)) := (Below.refl _ _).alloc (Nat.le_refl _) _
  refine ⟨(hb.block B h1.lt).trans h1, h2.trans (hb.mono (Nat.le_of_lt h1.lt)), Nat.le_of_lt h1.lt, Blk.fresh _ _ _, ?_⟩
  exact h3.add hb (Owns.nil _ _) (fun b hb => by simp [Value.ownBlock] at hb) (Nat.le_of_lt h1.lt)

/-- The sums from j on, noughts ahead of them. -/
def sumsN (F : List Int) (j : Nat) : List Int := (List.range (F.length + 1)).map fun i => if j ≤ i then (F.drop i).sum else 0
theorem length_sumsN (F : List Int) (j : Nat) : (sumsN F j).length = F.length + 1 := by simp [sumsN]
theorem sumsN_all (F : List Int) : sumsN F 0 = sums F := by unfold sumsN sums; exact List.map_congr_left fun i _ => by rw [if_pos (Nat.zero_le _)]
theorem sumsN_none (F : List Int) : sumsN F F.length = List.replicate (F.length + 1) 0 := by
  apply List.ext_getElem
  · simp [sumsN]
  · intro i h1 h2
    rw [length_sumsN] at h1
    simp only [sumsN, List.getElem_map, List.getElem_range, List.getElem_replicate]
    split
    · rw [List.drop_eq_nil_of_le (by omega)]; rfl
    · rfl
theorem sumsN_at (F : List Int) (j : Nat) (h : j ≤ F.length) : (sumsN F j).getD j 0 = (F.drop j).sum := by
  unfold sumsN; simp [List.getD_eq_getElem?_getD, show j < F.length + 1 by omega]
theorem sumsN_set (F : List Int) (j : Nat) (h : j + 1 ≤ F.length) : (sumsN F (j + 1)).set j ((F.drop (j + 1)).sum + F.getD j 0) = sumsN F j := by
  apply List.ext_getElem
  · simp [sumsN]
  · intro i h1 h2
    rw [length_sumsN] at h2
    rw [List.getElem_set]
    by_cases e : j = i
    · subst e
      rw [if_pos rfl]
      simp only [sumsN, List.getElem_map, List.getElem_range]
      rw [if_pos (Nat.le_refl _)]
      have e2 : F.drop j = F.getD j 0 :: F.drop (j + 1) := by rw [List.drop_eq_getElem_cons (by omega)]; simp [List.getD_eq_getElem?_getD, show j < F.length by omega]
      rw [e2, List.sum_cons]; omega
    · rw [if_neg e]
      simp only [sumsN, List.getElem_map, List.getElem_range]
      by_cases h3 : j ≤ i
      · rw [if_pos (by omega), if_pos h3]
      · rw [if_neg (by omega), if_neg h3]
theorem kgood_zero (m : Nat) (F : List Int) (hm : m ≤ 15) : KGood m F (List.replicate 166600 0) := by
  refine ⟨List.length_replicate, fun d j o h1 h2 h3 h4 => .inl ?_⟩
  rw [getD_rep]
/-- Which of the candidates is taken: the greatest that costs what is wanted. -/
theorem take_is {r o t : Nat} {g : List Int} {x : Int} (h : dp (r + 1) g o = some x) (hg : g ≠ []) (ht : t ≤ o) (h1 : ∀ k, t < k → k ≤ o → cand r g o k ≠ some x) (h2 : t = 0 ∨ cand r g o t = some x) : take r g o = t := by
  obtain ⟨ho1, ho2, _⟩ := dp_some h hg
  have hs := best_spec (cand r g o) o
  rw [dp_in hg ho1 ho2] at h
  unfold take
  cases hb : best (cand r g o) o with
  | none => rw [hb] at h; cases h
  | some q =>
    obtain ⟨y, k⟩ := q
    rw [hb] at h hs
    simp only [Option.map_some, Option.some.injEq] at h
    subst h
    obtain ⟨_, h3, h4, h5⟩ := hs
    show k = t
    rcases Nat.lt_trichotomy k t with h6 | h6 | h6
    · rcases h2 with h7 | h7
      · omega
      · have := (h5 t y (by omega) ht h7).2 h6; omega
    · exact h6
    · exact absurd h4 (h1 k h6 h3)
theorem scat_take (out : List Int) (cs ns : List Nat) (i : Nat) (h1 : i < cs.length) (h2 : i < ns.length) : scat out (cs.take (i + 1)) (ns.take (i + 1)) = (scat out (cs.take i) (ns.take i)).set (cs.getD i 0) ((ns.getD i 0 : Nat) : Int) := by
  have e1 : cs.take (i + 1) = cs.take i ++ [cs.getD i 0] := by rw [List.take_succ_eq_append_getElem h1]; simp [List.getD_eq_getElem?_getD, h1]
  have e2 : ns.take (i + 1) = ns.take i ++ [ns.getD i 0] := by rw [List.take_succ_eq_append_getElem h2]; simp [List.getD_eq_getElem?_getD, h2]
  rw [e1, e2]
  exact scat_snoc _ _ _ _ _ (by simp; omega)
end Go.Proofs.Ytnakjencodicmaa

-- ---- Mo
/- A region that draws its order, of which the order is forced but for a fork. No program in sight. -/
namespace Go.Proofs.Ytnakjencodicmaa.Mix
set_option maxRecDepth 100000
set_option linter.unusedSimpArgs false
set_option linter.unusedVariables false
set_option linter.unusedSectionVars false
open Go Go.RowKit

section
variable {P : Program} {md : Region.Mode} {ops : Array Oper} {Q : Exit → Act → World → Prop} {C : World → Prop}

/-- The orders in which the rest may come: a chain, or one of two first. -/
inductive Tr where
  | seq (ts : List Nat)
  | one (i : Nat) (t : Tr)
  | two (i : Nat) (t : Tr) (j : Nat) (u : Tr)
  | three (i : Nat) (t : Tr) (j : Nat) (u : Tr) (k : Nat) (v : Tr)
def Tr.len : Tr → Nat
  | .seq ts => ts.length
  | .one _ t => t.len + 1
  | .two _ t _ _ => t.len + 1
  | .three _ t _ _ _ _ => t.len + 1
def Tr.all (p : Nat → Bool) : Tr → Bool
  | .seq ts => ts.all p
  | .one i t => p i && t.all p
  | .two i t j u => p i && p j && t.all p && u.all p
  | .three i t j u k v => p i && p j && p k && t.all p && u.all p && v.all p
def treeB (md : Region.Mode) (ops : Array Oper) : Tr → Array Bool → Bool
  | .seq ts, listed => seqL md ops ts listed
  | .one i t, listed => decide (Region.ready md ops listed = [i]) && treeB md ops t (listed.setIfInBounds i true)
  | .two i t j u, listed => decide (Region.ready md ops listed = [i, j]) && decide (u.len = t.len) && treeB md ops t (listed.setIfInBounds i true) && treeB md ops u (listed.setIfInBounds j true)
  | .three i t j u k v, listed => decide (Region.ready md ops listed = [i, j, k]) && decide (u.len = t.len) && decide (v.len = t.len) && treeB md ops t (listed.setIfInBounds i true) && treeB md ops u (listed.setIfInBounds j true) && treeB md ops v (listed.setIfInBounds k true)
def wpTr (P : Program) (l : List Oper) (K : Act → World → Prop) : Tr → Act → World → Prop
  | .seq ts, a, w => wpList P l.toArray (Only K) (pick l ts) a w
  | .one i t, a, w => wpList P l.toArray (Only (wpTr P l K t)) (pick l [i]) a w
  | .two i t j u, a, w => wpList P l.toArray (Only (wpTr P l K t)) (pick l [i]) a w ∧ wpList P l.toArray (Only (wpTr P l K u)) (pick l [j]) a w
  | .three i t j u k v, a, w => wpList P l.toArray (Only (wpTr P l K t)) (pick l [i]) a w ∧ wpList P l.toArray (Only (wpTr P l K u)) (pick l [j]) a w ∧ wpList P l.toArray (Only (wpTr P l K v)) (pick l [k]) a w

theorem wp_only {o : Oper} {a : Act} {w : World} {K K' A B : Act → World → Prop} (h : ∀ a w, K a w → K' a w) (hh : o.wp P a w K (Only A)) : o.wp P a w K' (Only B) := by
  unfold Oper.wp at *
  generalize (execOp a.eval o).run P w = r at *
  cases r with
  | ok n w' =>
    cases n <;> simp only [Oper.upon] at hh ⊢ <;>
      first
        | exact h _ _ hh
        | exact Calls.mono hh (fun e w'' he => by
            cases e with
            | returned v => exact h _ _ he
            | panicked c => exact he.elim
            | outgrown => obtain ⟨a1, w1, h1⟩ := he; exact h1.elim)
        | exact Rows.mono hh (fun _ _ he => h _ _ he)
  | halt x w' => cases x <;> simp only [Oper.upon] at hh ⊢ <;> exact hh
theorem wpOp_only {i : Nat} {o : Oper} (ho : ops[i]? = some o) {a : Act} {w : World} {K A B : Act → World → Prop} (h : ∀ a w, A a w → K a w) (hh : wpList P ops (Only A) [o] a w) : wpOp P ops (Only B) i K a w := by
  unfold wpOp
  simp only [ho]
  unfold wpList at hh
  split
  · rename_i hw
    rw [if_pos hw] at hh
    rcases hh with hh | ⟨_, a1, w1, h1⟩
    · exact .inl (wp_only (fun a w h1 => h a w h1) hh)
    · exact h1.elim
  · rename_i hw
    rw [if_neg hw] at hh
    exact h _ _ hh

theorem wpM_tree {l : List Oper} {h1 h2 : List Nat} {K : Act → World → Prop} : ∀ (t : Tr) (listed : Array Bool) (a : Act) (w : World), t.all (fun i => !h1.contains i && !h2.contains i) = true → treeB md l.toArray t listed = true →
    wpTr P l K t a w → wpM P md l.toArray (Only K) C h1 h2 t.len listed a w := by
  intro t
  induction t with
  | seq ts =>
    intro listed a w hm hB h
    have hts : ∀ i ∈ ts, i ∉ h1 ∧ i ∉ h2 := fun i hi => by simpa using List.all_eq_true.1 hm i hi
    exact wpM_seq ts (pick l ts) listed a w hts (pick_map ts (by have := seqL_lt ts listed hB; simpa using this)) hB h
  | one i t iht =>
    intro listed a w hm hB h
    simp only [Tr.all, Bool.and_eq_true, Bool.not_eq_true', List.contains_eq_mem, decide_eq_false_iff_not] at hm
    simp only [treeB, Bool.and_eq_true, decide_eq_true_eq] at hB
    obtain ⟨hi, hmt⟩ := hm
    obtain ⟨hr, hbt⟩ := hB
    have h1 : i ∈ Region.ready md l.toArray listed := by rw [hr]; simp
    obtain ⟨_, o, ho, _⟩ := mem_ready.1 h1
    have h2 : l[i]? = some o := by simpa using ho
    have hp : pick l [i] = [o] := by simp [pick, h2]
    refine ⟨fun h1 => (by rw [hr] at h1; cases h1), fun k hk => ?_⟩
    rw [hr] at hk
    have hki : k = i := by simpa using hk
    subst hki
    rw [if_neg hi.1, if_neg hi.2]
    have h3 : wpList P l.toArray (Only (wpTr P l K t)) (pick l [k]) a w := h
    rw [hp] at h3
    exact wpOp_only ho (fun a' w' h' => iht _ a' w' (by simpa using hmt) hbt h') h3
  | two i t j u iht ihu =>
    intro listed a w hm hB h
    simp only [Tr.all, Bool.and_eq_true, Bool.not_eq_true', List.contains_eq_mem, decide_eq_false_iff_not] at hm
    simp only [treeB, Bool.and_eq_true, decide_eq_true_eq] at hB
    obtain ⟨⟨⟨hi, hj⟩, hmt⟩, hmu⟩ := hm
    obtain ⟨⟨⟨hr, hlen⟩, hbt⟩, hbu⟩ := hB
    have at_ : ∀ k, k ∈ [i, j] → ∃ o, l.toArray[k]? = some o ∧ pick l [k] = [o] := fun k hk => by
      have h1 : k ∈ Region.ready md l.toArray listed := by rw [hr]; exact hk
      obtain ⟨_, o, ho, _⟩ := mem_ready.1 h1
      refine ⟨o, ho, ?_⟩
      have h2 : l[k]? = some o := by simpa using ho
      simp [pick, h2]
    refine ⟨fun h1 => (by rw [hr] at h1; cases h1), fun k hk => ?_⟩
    rw [hr] at hk
    obtain ⟨o, ho, hp⟩ := at_ k hk
    rcases List.mem_cons.1 hk with rfl | hk
    · rw [if_neg hi.1, if_neg hi.2]
      have h2 := h.1
      rw [hp] at h2
      exact wpOp_only ho (fun a' w' h' => iht _ a' w' (by simpa using hmt) hbt h') h2
    · have hkj : k = j := by simpa using hk
      subst hkj
      rw [if_neg hj.1, if_neg hj.2]
      have h3 := h.2
      rw [hp] at h3
      have hu : ∀ a' w', wpTr P l K u a' w' → wpM P md l.toArray (Only K) C h1 h2 t.len (listed.setIfInBounds k true) a' w' := fun a' w' h' => by
        have := ihu (listed.setIfInBounds k true) a' w' (by simpa using hmu) hbu h'
        rwa [hlen] at this
      exact wpOp_only ho hu h3
  | three i t j u m v iht ihu ihv =>
    intro listed a w hm hB h
    simp only [Tr.all, Bool.and_eq_true, Bool.not_eq_true', List.contains_eq_mem, decide_eq_false_iff_not] at hm
    simp only [treeB, Bool.and_eq_true, decide_eq_true_eq] at hB
    obtain ⟨⟨⟨⟨⟨hi, hj⟩, hmm⟩, hmt⟩, hmu⟩, hmv⟩ := hm
    obtain ⟨⟨⟨⟨⟨hr, hlen⟩, hlenv⟩, hbt⟩, hbu⟩, hbv⟩ := hB
    have at_ : ∀ k, k ∈ [i, j, m] → ∃ o, l.toArray[k]? = some o ∧ pick l [k] = [o] := fun k hk => by
      have h1 : k ∈ Region.ready md l.toArray listed := by rw [hr]; exact hk
      obtain ⟨_, o, ho, _⟩ := mem_ready.1 h1
      refine ⟨o, ho, ?_⟩
      have h2 : l[k]? = some o := by simpa using ho
      simp [pick, h2]
    refine ⟨fun h1 => (by rw [hr] at h1; cases h1), fun k hk => ?_⟩
    rw [hr] at hk
    obtain ⟨o, ho, hp⟩ := at_ k hk
    rcases List.mem_cons.1 hk with rfl | hk
    · rw [if_neg hi.1, if_neg hi.2]
      have h2 := h.1
      rw [hp] at h2
      exact wpOp_only ho (fun a' w' h' => iht _ a' w' (by simpa using hmt) hbt h') h2
    · rcases List.mem_cons.1 hk with rfl | hk
      · rw [if_neg hj.1, if_neg hj.2]
        have h3 := h.2.1
        rw [hp] at h3
        have hu : ∀ a' w', wpTr P l K u a' w' → wpM P md l.toArray (Only K) C h1 h2 t.len (listed.setIfInBounds k true) a' w' := fun a' w' h' => by
          have := ihu (listed.setIfInBounds k true) a' w' (by simpa using hmu) hbu h'
          rwa [hlen] at this
        exact wpOp_only ho hu h3
      · have hkm : k = m := by simpa using hk
        subst hkm
        rw [if_neg hmm.1, if_neg hmm.2]
        have h3 := h.2.2
        rw [hp] at h3
        have hu : ∀ a' w', wpTr P l K v a' w' → wpM P md l.toArray (Only K) C h1 h2 t.len (listed.setIfInBounds k true) a' w' := fun a' w' h' => by
          have := ihv (listed.setIfInBounds k true) a' w' (by simpa using hmv) hbv h'
          rwa [hlenv] at this
        exact wpOp_only ho hu h3

def mixTB (md : Region.Mode) (ops : Array Oper) (h1 h2 : List Nat) (t : Tr) : Bool :=
  Region.noSelect ops && h2.all (fun i => !h1.contains i) && t.all (fun i => !h1.contains i && !h2.contains i) &&
  (List.range ops.size).all (fun t => h1.contains t || h2.contains t || (match ops[t]? with | some o => newOp o.op | none => false) || h2.all fun i => anc md ops ops.size t i) &&
  hoistB md ops (h1 ++ h2) (Array.replicate ops.size false) && treeB md ops t (marked (Array.replicate ops.size false) (h1 ++ h2)) && (decide (h1.length + h2.length + t.len = ops.size))

/-- Some operations first (those of h1 look at no memory), then a tree of orders. -/
theorem wp_region_treeL {id : Nat} {a : Act} {w : World} {l : List Oper} (h1 h2 : List Nat) (t : Tr) (hm : P.follows .mixedOrders = true) (hB : mixTB .any l.toArray h1 h2 t = true)
    (h : ∀ K : Act → World → Prop, (∀ a w, Q .normal a w → K a w) → wpQuiet P l.toArray (fun _ => True) (fun a1 => wpQuiet P l.toArray (fun w' => ∃ n : Lat w, w' = n.w) (fun a2 => wpTr P l K t a2 w.drew) (pick l h2) a1) (pick l h1) a) :
    (Code.region id l.toArray true).wp P Q a w := by
  have H := h (fun a w => Q .normal a w) fun _ _ h => h
  simp only [mixTB, Bool.and_eq_true, decide_eq_true_eq] at hB
  obtain ⟨⟨⟨⟨⟨⟨hsel, h12⟩, hts⟩, htail⟩, hh⟩, hseq⟩, hlen⟩ := hB
  have hC : ∀ w1 w2 : World, (∃ n : Lat w, w1 = n.w) → Below w1.heap.size w1 w2 → ∃ n : Lat w, w2 = n.w := fun _ w2 ⟨n, e⟩ hb => by subst e; exact ⟨⟨w2, n.below.trans (hb.mono n.below.size)⟩, rfl⟩
  have hw : ∃ n : Lat w, ({ w with drawn := w.drawn + 1 } : World) = n.w := ⟨Lat.drew w, rfl⟩
  have h12' : ∀ i ∈ h2, i ∉ h1 := fun i hi => by simpa using List.all_eq_true.1 h12 i hi
  have htail' : ∀ j oj, l.toArray[j]? = some oj → j ∉ h1 → j ∉ h2 → newOp oj.op = true ∨ ∀ i ∈ h2, anc .any l.toArray l.toArray.size j i = true := fun j oj hj n1 n2 => by
    have h3 := List.all_eq_true.1 htail j (List.mem_range.2 (Array.getElem?_eq_some_iff.1 hj).1)
    simp only [hj, Bool.or_eq_true, List.contains_iff_mem, n1, n2, false_or] at h3
    rcases h3 with h3 | h3
    · exact .inl h3
    · exact .inr fun i hi => List.all_eq_true.1 h3 i hi
  rw [hoistB_append, Bool.and_eq_true] at hh
  rw [marked_append] at hseq
  have lt1 := hoistB_lt _ _ hh.1
  have lt2 := hoistB_lt _ _ hh.2
  have hQ' : ∀ c a w d v, Only (fun a w => Q .normal a w) (.panic c) (a.put d v) w → Only (fun a w => Q .normal a w) (.panic c) a w := fun _ _ _ _ _ h => h
  have cl0 : Closed .any l.toArray (Array.replicate l.toArray.size false) := fun j oj _ hl => by rw [getD_replicate_false] at hl; cases hl
  have cl1 := closed_marked _ _ hh.1 cl0
  refine Code.wp_mono (Q := Only fun a w => Q .normal a w) (fun e a w h => by cases e <;> first | exact h | exact h.elim) ?_
  refine wp_region_any hm (wpAny_of_M (C := fun w' => ∃ n : Lat w, w' = n.w) (h1 := h1) (h2 := h2) _ _ _ _ ?_)
  have key : wpM P .any l.toArray (Only fun a w => Q .normal a w) (fun w' => ∃ n : Lat w, w' = n.w) h1 h2 (t.len + h2.length + h1.length) (Array.replicate l.toArray.size false) a { w with drawn := w.drawn + 1 } := ?_
  · have e2 : ∀ n, n = t.len + h2.length + h1.length → wpM P .any l.toArray (Only fun a w => Q .normal a w) (fun w' => ∃ n : Lat w, w' = n.w) h1 h2 n (Array.replicate l.toArray.size false) a { w with drawn := w.drawn + 1 } := fun n hn => hn ▸ key
    exact e2 _ (by omega)
  refine hoist1 hsel hQ' h1 (pick l h1) _ a (fun i hi => hi) (pick_map h1 (by simpa using lt1)) hh.1 (fun a1 H1 => ?_) H
  refine hoist2 hsel hQ' hC h12' htail' hw h2 (pick l h2) _ a1 (fun i hi => hi) (pick_map h2 (by simpa using lt2)) hh.2 cl1 (fun a2 H2 => ?_) H1
  exact wpM_tree t _ a2 _ hts hseq H2
end
end Go.Proofs.Ytnakjencodicmaa.Mix
