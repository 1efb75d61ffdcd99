/- BackAll's walk: what is sealed, and what is got from the end of any text, and the document's answers. -/
import Derived.Test.YtdbnmijnjfbibaaKo
import Derived.Test.YtdbnmijnjfbibaaKa
import Derived.Test.YtdbnmijnjfbibaaKu
import Derived.Test.YtdbnmijnjfbibaaBd
import Derived.OpenShut
import Derived.Deep.RegionWith
namespace Go.Proofs.Ytdbnmijnjfbibaa
set_option linter.unusedSimpArgs false
set_option linter.unusedVariables false
open Go.RowKit Mix Own Bits
attribute [local go_sem] max_int min_int

/-- A Reader and the document's Tail side by side. -/
structure EndS (B : Nat) (w : World) (pr pt : Nat) (a : Option Addr) (cap : Nat) (s : ByteArray) (k : Nat) : Prop where
  r : IsE w pr s k
  d : IsT w pt a cap s k
  rAt : B ≤ pr
  tAt : B ≤ pt
  sz : B ≤ w.heap.size
theorem EndS.ne {B : Nat} {w : World} {pr pt : Nat} {a : Option Addr} {cap : Nat} {s : ByteArray} {k : Nat} (h : EndS B w pr pt a cap s k) : pr ≠ pt := by
  have h1 : Blk w pr #[.string s, .int .i64 (k : Int)] 56 := h.r
  exact h1.ne h.d.blk (by decide)
theorem EndS.later {B : Nat} {w w' : World} {pr pt : Nat} {a : Option Addr} {cap : Nat} {s : ByteArray} {k : Nat} (h : EndS B w pr pt a cap s k) (hb : Below w.heap.size w w') : EndS B w' pr pt a cap s k :=
  ⟨h.r.later hb, h.d.later hb, h.rAt, h.tAt, Nat.le_trans h.sz hb.size⟩
theorem EndS.mid {B : Nat} {w w1 : World} {pr pt : Nat} {a : Option Addr} {cap : Nat} {s : ByteArray} {k : Nat} (h : EndS B w pr pt a cap s k) (hc : Chg (fun b => b = pr) w w1) : IsT w1 pt a cap s k :=
  ⟨hc.keep h.d.blk (fun e => h.ne e.symm), h.d.row.chg hc (fun g hg e => by
    have h1 : Blk w pr #[.string s, .int .i64 (k : Int)] 56 := h.r
    exact h.d.row.ne h1 (by decide) (by rw [hg, e])), h.d.le⟩
theorem EndS.both {B : Nat} {w w1 w2 : World} {pr pt : Nat} {a : Option Addr} {cap : Nat} {s : ByteArray} {k k' : Nat} (h : EndS B w pr pt a cap s k) (hr : IsE w1 pr s k') (hc : Chg (fun b => b = pr) w w1) (hk : IsT w2 pt a cap s k') (hc2 : Chg (fun b => b = pt) w1 w2) : EndS B w2 pr pt a cap s k' :=
  ⟨hr.keep hc2 h.ne, hk, h.rAt, h.tAt, Nat.le_trans h.sz (Nat.le_trans hc.size hc2.size)⟩

set_option maxRecDepth 4000 in
set_option maxHeartbeats 8000000 in
theorem BackAll_walk (a0 : Option Addr) (n0 c0 : Nat) (z0 : List Int) (a1 : Option Addr) (n1 c1 : Nat) (z1 : List Int) (s : ByteArray) (a3 : Option Addr) (n3 c3 : Nat) (z3 : List Int) (w : World) (w0 : Arg .u64 w a0 n0 c0 z0) (y0 : n0 * 8 ≤ 140737488351232) (w1 : Arg .i64 w a1 n1 c1 z1) (y1 : n1 * 8 ≤ 140737488351232)
    (w2 : s.size ≤ 140737488351232) (w3 : Arg .i64 w a3 n3 c3 z3) (y3 : n3 * 8 ≤ 140737488351232) :
    Calls Try.prog 4 #[.slice a0 n0 c0, .slice a1 n1 c1, .string s, .slice a3 n3 c3] w fun e w' => e = .returned (.bool true) ∧ Below w.heap.size w w' := by
  have hs47 : s.size < 200000000000000 := by omega
  have h047 : n0 < 200000000000000 := by omega
  have h347 : n3 < 200000000000000 := by omega
  by_cases hbig : 60 < n0 ∨ (¬ 60 < n0 ∧ 300 < s.size) ∨ (¬ 60 < n0 ∧ ¬ 300 < s.size ∧ 60 < n3)
  · clear w0 w1 w2 w3 y0 y1 y3
    rcases hbig with t0 | ⟨t0, t1⟩ | ⟨t0, t1, t2⟩
    all_goals
      go_enter Try.func4, Try.ntmps4
      go_wp2_with (first | (go_at_call 8; refine (awake4_calls _).mono ?_; rintro e w9 ⟨rfl, hb9⟩; have HB9 := kept hb9; clear hb9))
      go_ret
      exact ⟨rfl, HB9.out⟩
  have t0 : ¬ 60 < n0 := by omega
  have t1 : ¬ 300 < s.size := by omega
  have t2 : ¬ 60 < n3 := by omega
  clear hbig
  obtain ⟨xs, hx, hR0, hX⟩ := w0.rdN rfl
  obtain ⟨ys, hy, hR1, hY⟩ := w1.rd
  obtain ⟨gs, hgl, hR3, hG⟩ := w3.rd
  clear w0 w1 w3
  have hX2 : ∀ n ∈ xs, n < 18446744073709551616 := fun n hn => by
    have h1 := hX n hn
    have h2 : IntKind.u64.max = 18446744073709551615 := rfl
    omega
  have hY2 : ∀ y ∈ ys, -9223372036854775808 ≤ y ∧ y ≤ 9223372036854775807 := fun y hy => i64_bounds (hY y hy)
  obtain ⟨B, hB⟩ : ∃ B, B = w.heap.size := ⟨_, rfl⟩
  obtain ⟨n, hn⟩ : ∃ n, n = min n0 n1 := ⟨_, rfl⟩
  have hs1 := seal_calls a0 n0 c0 xs a1 n1 c1 ys w hR0 hR1 hX2 hY2 n hn (by omega) (by omega) (by omega)
  have hs2 : ∀ w', Below B w w' → Calls Try.prog 9 #[.slice a0 n0 c0, .slice a1 n1 c1] w' fun e w'' => e = .returned (.string (textOf (pack (catC xs ys n ++ [true])))) ∧ Below w'.heap.size w' w'' := fun w' hb =>
    rseal_calls a0 n0 c0 xs a1 n1 c1 ys w' (hR0.below hb (by rw [hB]; exact hR0.lt)) (hR1.below hb (by rw [hB]; exact hR1.lt)) hX2 hY2 n hn (by omega) (by omega) (by omega)
  obtain ⟨T, hT⟩ : ∃ T, T = textOf (pack (catC xs ys n ++ [true])) := ⟨_, rfl⟩
  rw [← hT] at hs1 hs2
  rw [← hB] at hs1
  rw [← hB]
  have HB := kept hB
  have HR3 := kept hR3
  have HGL := kept hgl
  have HS1 := kept hs1
  have HS2 := kept hs2
  have HSz9 : Kept (s.size ≤ 1000000000) := kept (by omega)
  have HSz12 : Kept (s.size ≤ 1000000000000) := kept (by omega)
  have hbb : ∀ w', Below B w w' → B ≤ w'.heap.size := fun w' hb => by have := hb.size; omega
  have HBB := kept hbb
  clear hB hR0 hR1 hR3 hx hy hgl hX hY hG hX2 hY2 hn hs1 hs2 hT y0 y1 y3 w2 hbb
  go_enter Try.func4, Try.ntmps4
  go_wp2_with fail
  refine HS1.out.mono ?_
  rintro e wa ⟨rfl, hba⟩
  have HBa := kept hba
  clear hba
  go_wp2_with fail
  refine (HS2.out _ HBa.out).mono ?_
  rintro e wb ⟨rfl, hbb⟩
  have HBb := kept (HBa.out.trans (hbb.mono (HBB.out _ HBa.out)))
  clear hbb HBa
  by_cases he : s.size = 0
  · have HE := kept he
    clear he
    clear HR3 HGL HS1 HS2
    go_wp2_with (first
      | (go_at_call 10; refine (bfrom_empty s _ HE.out).mono ?_; rintro e w' ⟨rfl, rfl⟩)
      | (go_at_call 11; refine (tfrom_empty s _ HE.out).mono ?_; rintro e w' ⟨rfl, rfl⟩)
      | (go_at_call 12; refine (err_calls _ _).mono ?_; rintro e w' ⟨rfl, rfl⟩)
      | (go_at_call 8; refine (awake4_calls _).mono ?_; rintro e w9 ⟨rfl, hb9⟩; have HB9 := kept (HBb.out.trans (hb9.mono (HBB.out _ HBb.out))); clear hb9))
    go_ret
    exact ⟨rfl, HB9.out⟩
  have hpos : 0 < s.size := by omega
  by_cases hz : lastB s = 0
  · have HE := kept hz
    have HPos := kept hpos
    clear hz he hpos
    clear HR3 HGL HS1 HS2
    go_wp2_with (first
      | (go_at_call 10; refine (bfrom_zero s _ HPos.out HSz12.out HE.out).mono ?_; rintro e w' ⟨rfl, rfl⟩)
      | (go_at_call 11; refine (tfrom_zero s _ HPos.out HSz12.out HE.out).mono ?_; rintro e w' ⟨rfl, rfl⟩)
      | (go_at_call 12; refine (err_calls _ _).mono ?_; rintro e w' ⟨rfl, rfl⟩)
      | (go_at_call 8; refine (awake4_calls _).mono ?_; rintro e w9 ⟨rfl, hb9⟩; have HB9 := kept (HBb.out.trans (hb9.mono (HBB.out _ HBb.out))); clear hb9))
    go_ret
    exact ⟨rfl, HB9.out⟩
  have HPos := kept hpos
  have HZ := kept hz
  have htl := topS_lt s hpos hz
  have HTL := kept htl
  clear hz he hpos htl
  obtain ⟨t, ht⟩ : ∃ t, t = topS s := ⟨_, rfl⟩
  rw [← ht] at HTL
  have HT := kept ht
  clear ht
  go_wp2_with fail
  refine (bfrom_calls s wb HPos.out HSz12.out HZ.out).mono ?_
  rintro e wc ⟨pr, rfl, hE, hbc, hpr⟩
  rw [← HT.out] at hE
  have HE := kept hE
  have HBc := kept (HBb.out.trans (hbc.mono (HBB.out _ HBb.out)))
  have HPr := kept (Nat.le_trans (HBB.out _ HBb.out) hpr)
  clear hE hbc hpr HBb
  go_wp2_with fail
  refine (tfrom_calls s wc HPos.out HSz9.out HZ.out).mono ?_
  rintro e wd ⟨pt, a, cap, rfl, hI, hbd, hpt⟩
  rw [← HT.out] at hI
  have HBd := kept (HBc.out.trans (hbd.mono (HBB.out _ HBc.out)))
  have HEn : Kept (EndS B wd pr pt a cap s t) := kept ⟨IsE.later HE.out hbd, hI, HPr.out, Nat.le_trans (HBB.out _ HBc.out) hpt, HBB.out _ HBd.out⟩
  clear hI hbd hpt HE HBc HPr
  go_wp2_with (first | (go_at_call 12; refine (err_calls _ _).mono ?_; rintro e w' ⟨rfl, rfl⟩))
  go_loopw [12] (fun s12 wr => ∃ i : Nat, i ≤ n3 ∧ s12 = .int .i64 (i : Int) ∧ ∃ k, k ≤ t ∧ EndS B wr pr pt a cap s k ∧ Below B w wr) (fun s12 _ => n3 - (intOf s12).toNat)
  case atStart => exact ⟨0, Nat.zero_le _, rfl, t, Nat.le_refl _, HEn.out, HBd.out⟩
  case round =>
    obtain ⟨i, hi, rfl, k, hkt, hG, hb⟩ := hrel
    have HG := kept hG
    have HBr := kept hb
    have HKT := kept hkt
    have hk47 : k < 200000000000000 := by have := HTL.out; omega
    clear hG hb hkt HEn HBd
    by_cases hlt : i < n3
    · have hrd3 := HR3.out.below HBr.out (by rw [HB.out]; exact HR3.out.lt)
      obtain ⟨x3, rfl, hc3⟩ := hrd3.at (Own.ints_at .i64 gs i (by rw [HGL.out]; exact hlt))
      obtain ⟨y, hy⟩ : ∃ y, y = gs.getD i 0 := ⟨_, rfl⟩
      rw [← hy] at hc3
      have HA3 : Kept (x3.block < w.heap.size) := kept (HR3.out.lt _ (by cases n3 with | zero => omega | succ n => rfl))
      obtain ⟨V, hV⟩ : ∃ V, V = (getE s k y).1 := ⟨_, rfl⟩
      obtain ⟨E, hE⟩ : ∃ E, E = (getE s k y).2.1 := ⟨_, rfl⟩
      obtain ⟨K2, hK2⟩ : ∃ K2, K2 = (getE s k y).2.2 := ⟨_, rfl⟩
      have hle : K2 ≤ t := by rw [hK2]; exact Nat.le_trans (getE_le s k y) HKT.out
      have hgn := bget_calls pr s k y wr HG.out.r HSz12.out (by have := HTL.out; have := HKT.out; omega)
      rw [← hV, ← hE, ← hK2] at hgn
      have hkn : ∀ w', Chg (fun b => b = pr) wr w' → Calls Try.prog 14 #[.pointer (some ⟨pt, 0, none⟩), .int .i64 y] w' fun e w'' => e = .returned (.agg #[.int .u64 (V : Int), .int .i64 0, .int .i64 (E : Int)]) ∧
          IsT w'' pt a cap s K2 ∧ Chg (fun b => b = pt) w' w'' := fun w' hc => by
        rw [hV, hE, hK2]
        exact tget_calls pt a cap s k y w' (HG.out.mid hc) HSz9.out
      have hE10 : E < 10 := by rw [hE]; exact getE_err s k y
      have HGN := kept hgn
      have HKN := kept hkn
      have HC3 := kept hc3
      have HLE := kept hle
      have HE10 := kept hE10
      have hK47 : K2 < 200000000000000 := by have := HTL.out; omega
      clear hrd3 hy hV hE hK2 hle hgn hkn hE10
      go_wp2_with (first
        | (go_at_call 13; refine HGN.out.mono ?_; rintro e w2 ⟨rfl, hR2, hc2⟩; have HR2 := kept hR2; have HB2 : Kept (Below B w w2) := kept (HBr.out.trans (hc2.below HG.out.sz (fun b hb e => by have := HG.out.rAt; omega))); have HC2 := kept hc2; have hc3 : w2.cell? (x3.add i) = some (.int .i64 y) := (HB2.out.cell (by rw [Own.add_block, HB.out]; exact HA3.out)).trans ((HBr.out.cell (by rw [Own.add_block, HB.out]; exact HA3.out)).symm.trans HC3.out); clear hR2 hc2)
        | (go_at_call 14; refine (HKN.out w2 HC2.out).mono ?_; rintro e w3 ⟨rfl, hK3, hc4⟩; have HG3 := kept (HG.out.both HR2.out HC2.out hK3 hc4); have HB3 : Kept (Below B w w3) := kept (HB2.out.trans (hc4.below (Nat.le_trans HG.out.sz HC2.out.size) (fun b hb e => by have := HG.out.tAt; omega))); clear hK3 hc4))
      generalize hw4 : World.alloc w3 _ = w4
      have hlat : Below w3.heap.size w3 w4 := by rw [← hw4]; exact (Below.refl _ _).alloc (Nat.le_refl _) _
      have hGot : Blk w4 w3.heap.size #[.int .u64 (V : Int), .int .i64 0, .int .i64 (E : Int)] 39 := by rw [← hw4]; exact Blk.fresh _ _ _
      have HG4 := kept (HG3.out.later hlat)
      have HB4 := kept (HB3.out.trans (hlat.mono HG3.out.sz))
      generalize w3.heap.size = G at hGot ⊢
      have l0 := lat_cell (hGot.cell (i := 0) rfl)
      have l2 := lat_cell (hGot.cell (i := 2) rfl)
      have l3 := lat_cell (HG4.out.d.blk.cell (i := 0) rfl)
      have hlf : ∀ m : Lat w4, Calls Try.prog 15 #[.pointer (some ⟨pr, 0, none⟩)] m.w fun e w' => e = .returned (.int .i64 (K2 : Int)) ∧ m.w = w' := fun m => bleft_calls pr s K2 m.w (HG4.out.later m.below).r
      have HLf := kept hlf
      clear hw4 hlat hGot hlf HG3 HB3 HR2 HB2 HC2 hc3 HGN HKN HC3
      refine wp_region_quietL (by kernel_rfl) (by kernel_rfl) ?_
      repeat (go_big_quiet_step ((first | (go_at_call 12; exact lat_call_same (err_calls _ _)) | (go_at_call 15; exact lat_call_same (HLf.out _)))))
      refine wpQuiet_nil ?_
      intro nq
      have HG5 := kept (HG4.out.later nq.below)
      have HB5 := kept (HB4.out.trans (nq.below.mono HG4.out.sz))
      generalize nq.w = w5 at HG5 HB5 ⊢
      clear l0 l2 l3 HG4 HB4 HLf
      go_wp2_with fail
      go_roundw
      case rel => exact ⟨i + 1, by omega, by go_num, K2, HLE.out, HG5.out, HB5.out⟩
      case measure => simp [intOf]; omega
    · have hin : i = n3 := by omega
      subst hin
      have l3 := lat_cell (HG.out.d.blk.cell (i := 0) rfl)
      have hlf : ∀ m : Lat wr, Calls Try.prog 15 #[.pointer (some ⟨pr, 0, none⟩)] m.w fun e w' => e = .returned (.int .i64 (k : Int)) ∧ m.w = w' := fun m => bleft_calls pr s k m.w (HG.out.later m.below).r
      have HLf := kept hlf
      clear hlf
      go_wp2_with fail
      refine wp_region_quietL (by kernel_rfl) (by kernel_rfl) ?_
      repeat (go_big_quiet_step ((first | (go_at_call 8; exact lat_call (awake4_calls _)) | (go_at_call 15; exact lat_call_same (HLf.out _)))))
      refine wpQuiet_nil ?_
      intro nq
      go_wp2_with fail
      go_ret
      exact ⟨rfl, HBr.out.trans (nq.below.mono HG.out.sz)⟩
end Go.Proofs.Ytdbnmijnjfbibaa
