/- BitsGet's walk: what is got of any text, and the document's answer. -/
import Derived.Test.YtcgmofakibfpiaaRk
import Derived.OpenShut
import Derived.Deep.RegionWith
namespace Go.Proofs.Ytcgmofakibfpiaa
set_option linter.unusedSimpArgs false
set_option linter.unusedVariables false
open Go.RowKit Mix Own Bits
attribute [local go_sem] max_int min_int

/-- A Reader and the document's Walk side by side. -/
structure GetS (B : Nat) (w : World) (pr pk : Nat) (v : Value) (s : ByteArray) (k : Nat) : Prop where
  r : IsRd w pr s k
  d : IsK w pk v s k
  rAt : B ≤ pr
  kAt : B ≤ pk
  sz : B ≤ w.heap.size
  le : k ≤ 8 * s.size

theorem GetS.ne {B : Nat} {w : World} {pr pk : Nat} {v : Value} {s : ByteArray} {k : Nat} (h : GetS B w pr pk v s k) : pr ≠ pk := by
  have h1 : Blk w pr #[.string s, .int .i64 (k : Int)] 57 := h.r
  exact h1.ne h.d.blk (by decide)
theorem GetS.later {B : Nat} {w w' : World} {pr pk : Nat} {v : Value} {s : ByteArray} {k : Nat} (h : GetS B w pr pk v s k) (hb : Below w.heap.size w w') : GetS B w' pr pk v s k :=
  ⟨h.r.later hb, h.d.later hb, h.rAt, h.kAt, Nat.le_trans h.sz hb.size, h.le⟩

/-- Both have gone on. -/
theorem GetS.both {B : Nat} {w w1 w2 : World} {pr pk : Nat} {v : Value} {s : ByteArray} {k k' : Nat} (h : GetS B w pr pk v s k) (hr : IsRd w1 pr s k') (hc : Chg (fun b => b = pr) w w1) (hk : IsK w2 pk v s k') (hc2 : Chg (fun b => b = pk) w1 w2) (hle : k' ≤ 8 * s.size) : GetS B w2 pr pk v s k' :=
  ⟨hr.keep hc2 h.ne, hk, h.rAt, h.kAt, Nat.le_trans h.sz (Nat.le_trans hc.size hc2.size), hle⟩
theorem GetS.mid {B : Nat} {w w1 : World} {pr pk : Nat} {v : Value} {s : ByteArray} {k : Nat} (h : GetS B w pr pk v s k) (hc : Chg (fun b => b = pr) w w1) : IsK w1 pk v s k :=
  h.d.keep hc (fun e => h.ne e.symm) (fun g hg e => by
    have h1 : Blk w pr #[.string s, .int .i64 (k : Int)] 57 := h.r
    exact h.d.row.ne h1 (by decide) (by rw [hg, e]))

theorem getS_err (s : ByteArray) (k : Nat) (n : Int) : (getS s k n).2.1 < 10 := by
  unfold getS
  split
  · exact show 1 < 10 by decide
  · split
    · exact show 2 < 10 by decide
    · exact show 0 < 10 by decide

set_option maxHeartbeats 4000000 in
theorem BitsGet_walk (s : ByteArray) (a1 : Option Addr) (n1 c1 : Nat) (z1 : List Int) (w : World) (w0 : s.size ≤ 140737488351232) (w1 : Arg .i64 w a1 n1 c1 z1) (y1 : n1 * 8 ≤ 140737488351232) :
    Calls Try.prog 5 #[.string s, .slice a1 n1 c1] w fun e w' => e = .returned (.bool true) ∧ Below w.heap.size w w' := by
  obtain ⟨ys, hy, hR1, hY⟩ := w1.rd
  clear w1
  obtain ⟨B, hB⟩ : ∃ B, B = w.heap.size := ⟨_, rfl⟩
  rw [← hB]
  have HB := kept hB
  have HR1 := kept hR1
  have HY := kept hY
  have HYL := kept hy
  have HN1 : Kept (n1 < 100000000000000) := kept (by omega)
  have HSS : Kept (s.size < 200000000000000) := kept (by omega)
  clear hB hR1 hY hy y1 w0
  go_enter Try.func5, Try.ntmps5
  go_wp2_with fail
  refine (from_calls s w).mono ?_
  rintro e wa ⟨pr, rfl, hR, hba, hpr⟩
  have HR := kept hR
  have HP := kept hpr
  have HS1 : Kept (B ≤ wa.heap.size) := kept (by rw [HB.out]; exact hba.size)
  have HBa : Kept (Below B w wa) := kept (by rw [HB.out]; exact hba)
  clear hR hba hpr
  by_cases hbig : 300 < s.size ∨ 100 < n1
  · have t0 : decide ((300 : Int) < (s.size : Int)) = true ∨ (decide ((300 : Int) < (s.size : Int)) = false ∧ decide ((100 : Int) < (n1 : Int)) = true) := by
      rcases Nat.lt_or_ge 300 s.size with h | h
      · left; simp; omega
      · right; simp; omega
    clear hbig
    rcases t0 with t0 | ⟨t0, t1⟩
    · go_wp2_with (first | (go_at_call 10; refine (awake3_calls _).mono ?_; rintro e w9 ⟨rfl, hb9⟩; have HB9 := kept hb9; clear hb9))
      go_ret
      exact ⟨rfl, HBa.out.trans (HB9.out.mono HS1.out)⟩
    · go_wp2_with (first | (go_at_call 10; refine (awake3_calls _).mono ?_; rintro e w9 ⟨rfl, hb9⟩; have HB9 := kept hb9; clear hb9))
      go_ret
      exact ⟨rfl, HBa.out.trans (HB9.out.mono HS1.out)⟩
  have t0 : decide ((300 : Int) < (s.size : Int)) = false := by simp; omega
  have t1 : decide ((100 : Int) < (n1 : Int)) = false := by simp; omega
  have hn : n1 ≤ 100 := by omega
  have HS300 : Kept (s.size ≤ 300) := kept (by omega)
  have HS9 : Kept (s.size ≤ 1000000000) := kept (by omega)
  have HS12 : Kept (s.size ≤ 1000000000000) := kept (by omega)
  clear hbig
  go_wp2_with fail
  refine (kfrom_calls s wa HS9.out).mono ?_
  rintro e wb ⟨pk, v, rfl, hK, hbb, hpk, hg⟩
  have HGS : Kept (GetS B wb pr pk v s 0) := kept ⟨HR.out.later hbb, hK, by rw [HB.out]; exact HP.out, Nat.le_trans HS1.out hpk, Nat.le_trans HS1.out hbb.size, Nat.zero_le _⟩
  have HBb := kept (HBa.out.trans (hbb.mono HS1.out))
  clear hK hbb hpk hg HR HP HS1 HBa
  go_wp2_with fail
  clear t0 t1
  go_loopw [7] (fun s7 wr => ∃ i : Nat, i ≤ n1 ∧ s7 = .int .i64 (i : Int) ∧ ∃ k, GetS B wr pr pk v s k ∧ Below B w wr) (fun s7 _ => n1 - (intOf s7).toNat)
  case atStart => exact ⟨0, Nat.zero_le _, rfl, 0, HGS.out, HBb.out⟩
  case round =>
    obtain ⟨i, hi, rfl, k, hG, hb⟩ := hrel
    have HG := kept hG
    have HBr := kept hb
    clear hG hb HGS HBb
    by_cases hlt : i < n1
    · have hrd1 := HR1.out.below HBr.out (by rw [HB.out]; exact HR1.out.lt)
      obtain ⟨x1, rfl, hc1⟩ := hrd1.at (Own.ints_at .i64 ys i (by rw [HYL.out]; exact hlt))
      obtain ⟨y, hy⟩ : ∃ y, y = ys.getD i 0 := ⟨_, rfl⟩
      rw [← hy] at hc1
      have HA1 : Kept (x1.block < w.heap.size) := kept (HR1.out.lt _ (by cases n1 with | zero => omega | succ n => rfl))
      obtain ⟨V, hV⟩ : ∃ V, V = (getS s k y).1 := ⟨_, rfl⟩
      obtain ⟨E, hE⟩ : ∃ E, E = (getS s k y).2.1 := ⟨_, rfl⟩
      obtain ⟨K2, hK2⟩ : ∃ K2, K2 = (getS s k y).2.2 := ⟨_, rfl⟩
      have hle : K2 ≤ 8 * s.size := by rw [hK2]; exact getS_le s k y HG.out.le
      have hgn := get_new B pr s k y wr HG.out.sz HG.out.rAt HG.out.r HS12.out HG.out.le
      rw [← hV, ← hE, ← hK2] at hgn
      have hkn : ∀ w', Chg (fun b => b = pr) wr w' → Calls Try.prog 21 #[.pointer (some ⟨pk, 0, none⟩), .int .i64 y] w' fun e w'' => e = .returned (.agg #[.int .u64 (V : Int), .int .i64 0, .int .i64 (E : Int)]) ∧
          IsK w'' pk v s K2 ∧ Chg (fun b => b = pk) w' w'' := fun w' hc => by
        rw [hV, hE, hK2]
        exact kget_calls pk v s k y w' (HG.out.mid hc) HS9.out HG.out.le
      have hE64 : E < 10 := by rw [hE]; exact getS_err s k y
      have HGN := kept hgn
      have HKN := kept hkn
      have HC1 := kept hc1
      have HLE := kept hle
      have HE64 := kept hE64
      clear hrd1 hy hV hE hK2 hle hgn hkn hE64
      go_wp2_with (first
        | (go_at_call 16; refine HGN.out.mono ?_; rintro e w2 ⟨rfl, hR2, hb2, hc2⟩; have HR2 := kept hR2; have HB2 := kept (HBr.out.trans hb2); have HC2 := kept hc2; have hc1 : w2.cell? (x1.add i) = some (.int .i64 y) := (hb2.cell (by rw [Own.add_block, HB.out]; exact HA1.out)).trans HC1.out; clear hR2 hb2 hc2)
        | (go_at_call 21; refine (HKN.out w2 HC2.out).mono ?_; rintro e w3 ⟨rfl, hK3, hc3⟩; have HG3 := kept (HG.out.both HR2.out HC2.out hK3 hc3 HLE.out); have HB3 : Kept (Below B w w3) := kept (HB2.out.trans (hc3.below (Nat.le_trans HG.out.sz HC2.out.size) (fun b hb e => by have := HG.out.kAt; omega))); clear hK3 hc3))
      generalize hw4 : World.alloc w3 _ = w4
      have hlat : Below w3.heap.size w3 w4 := by rw [← hw4]; exact (Below.refl _ _).alloc (Nat.le_refl _) _
      have hGot : Blk w4 w3.heap.size #[.int .u64 (V : Int), .int .i64 0, .int .i64 (E : Int)] 46 := by rw [← hw4]; exact Blk.fresh _ _ _
      have HG4 := kept (HG3.out.later hlat)
      have HB4 := kept (HB3.out.trans (hlat.mono HG3.out.sz))
      generalize w3.heap.size = G at hGot ⊢
      have l0 := lat_cell (hGot.cell (i := 0) rfl)
      have l2 := lat_cell (hGot.cell (i := 2) rfl)
      obtain ⟨R, hRR⟩ : ∃ R, R = restS s K2 := ⟨_, rfl⟩
      have hre : ∀ m : Lat w4, Calls Try.prog 18 #[.pointer (some ⟨pr, 0, none⟩)] m.w fun e w' => e = .returned (.bool R) ∧ Below m.w.heap.size m.w w' := fun m => by
        rw [hRR]; exact rest_calls pr s K2 m.w (HG4.out.later m.below).r HS12.out HG4.out.le
      have hke : ∀ m : Lat w4, Calls Try.prog 22 #[.pointer (some ⟨pk, 0, none⟩)] m.w fun e w' => e = .returned (.bool R) ∧ Below m.w.heap.size m.w w' := fun m => by
        rw [hRR]; exact krest_calls pk v s K2 m.w (HG4.out.later m.below).d HS9.out HG4.out.le
      have HRe := kept hre
      have HKe := kept hke
      clear hw4 hlat hGot hre hke hRR HG3 HB3 HR2 HB2 HC2 hc1 HGN HKN HC1
      refine wp_region_quietL (by kernel_rfl) (by kernel_rfl) ?_
      repeat (go_big_quiet_step ((first | (go_at_call 17; exact lat_call_same (err_calls _ _)) | (go_at_call 18; exact lat_call (HRe.out _)) | (go_at_call 22; exact lat_call (HKe.out _)))))
      refine wpQuiet_nil ?_
      intro nq
      have HG5 := kept (HG4.out.later nq.below)
      have HB5 := kept (HB4.out.trans (nq.below.mono HG4.out.sz))
      generalize nq.w = w5 at HG5 HB5 ⊢
      clear l0 l2 HG4 HB4 HRe HKe
      go_wp2_with fail
      go_roundw
      case rel => exact ⟨i + 1, by omega, by go_num, K2, HG5.out, HB5.out⟩
      case measure => simp [intOf]; omega
    · have hin : i = n1 := by omega
      subst hin
      obtain ⟨R, hRR⟩ : ∃ R, R = restS s k := ⟨_, rfl⟩
      have hre := rest_calls pr s k wr HG.out.r HS12.out HG.out.le
      have hke : ∀ w', Below wr.heap.size wr w' → Calls Try.prog 22 #[.pointer (some ⟨pk, 0, none⟩)] w' fun e w'' => e = .returned (.bool R) ∧ Below w'.heap.size w' w'' := fun w' hb => by
        rw [hRR]; exact krest_calls pk v s k w' (HG.out.later hb).d HS9.out HG.out.le
      rw [← hRR] at hre
      have HRe := kept hre
      have HKe := kept hke
      clear hre hke hRR
      go_wp2_with (first
        | (go_at_call 18; refine HRe.out.mono ?_; rintro e w7 ⟨rfl, hb7⟩; have HB7 := kept (HBr.out.trans (hb7.mono HG.out.sz)); have HS7 := kept (Nat.le_trans HG.out.sz hb7.size); have HKe7 := kept (HKe.out _ hb7); clear hb7)
        | (go_at_call 22; refine HKe7.out.mono ?_; rintro e w8 ⟨rfl, hb8⟩; have HB8 := kept (HB7.out.trans (hb8.mono HS7.out)); have HS8 := kept (Nat.le_trans HS7.out hb8.size); clear hb8)
        | (go_at_call 10; refine (awake3_calls _).mono ?_; rintro e w9 ⟨rfl, hb9⟩; have HB9 := kept (HB8.out.trans (hb9.mono HS8.out)); clear hb9))
      go_ret
      exact ⟨rfl, HB9.out⟩
end Go.Proofs.Ytcgmofakibfpiaa
