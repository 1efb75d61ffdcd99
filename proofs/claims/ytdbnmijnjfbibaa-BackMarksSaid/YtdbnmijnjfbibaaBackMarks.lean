/- BackMarks' walk: one number alone is sealed. -/
import Derived.Test.YtdbnmijnjfbibaaKo
import Derived.Test.YtdbnmijnjfbibaaMk
import Derived.OpenShut
import Derived.Deep.RegionWith
namespace Go.Proofs.Ytdbnmijnjfbibaa
set_option linter.unusedSimpArgs false
set_option linter.unusedVariables false
open Go.RowKit Mix Own Bits
attribute [local go_sem] max_int min_int

theorem Rd.one {w : World} {g : Nat} {u : Value} {e : TypeId} (h : Blk w g #[u] e) : Rd w (.slice (some ⟨g, 0, none⟩) 1 1) [u] :=
  ⟨_, 1, rfl, Nat.le_refl _, by simp [maxLen], fun i y hy => ⟨_, rfl, by
    match i, hy with
    | 0, hy => simp at hy; subst hy; exact h.cell rfl⟩⟩

theorem ofBits_append (l m : List Bool) : ofBits (l ++ m) = ofBits l + 2 ^ l.length * ofBits m := by
  induction l with
  | nil => simp [ofBits]
  | cons b t ih =>
    simp only [List.cons_append, ofBits, ih, List.length_cons, Nat.pow_succ, Nat.mul_add]
    rw [show 2 ^ t.length * 2 * ofBits m = 2 * (2 ^ t.length * ofBits m) by
      rw [Nat.mul_comm (2 ^ t.length) 2, Nat.mul_assoc]]
    omega

theorem ofBits_drop (s : ByteArray) (j : Nat) (h : j < s.size) : ofBits ((bitsS s).drop (8 * j)) = byteS s j + 256 * ofBits ((bitsS s).drop (8 * (j + 1))) := by
  have h1 := take_byte s j h
  have h2 : (bitsS s).take (8 * (j + 1)) = (bitsS s).take (8 * j) ++ ((bitsS s).drop (8 * j)).take 8 := by
    rw [show 8 * (j + 1) = 8 * j + 8 by omega, List.take_add]
  rw [h2] at h1
  have h3 := List.append_cancel_left h1
  have h4 : (bitsS s).drop (8 * j) = bitsOf (byteS s j) 8 ++ (bitsS s).drop (8 * (j + 1)) := by
    rw [← h3, show 8 * (j + 1) = 8 * j + 8 by omega, ← List.drop_drop, List.take_append_drop]
  rw [h4, ofBits_append, ofBits_bitsOf, length_bitsOf]
  have := byteS_lt s j
  rw [Nat.mod_eq_of_lt (show byteS s j < 2 ^ 8 by omega)]

theorem or_byte8 (x b : Nat) (hx : x < 72057594037927936) (hb : b < 256) : bits .or .u64 ((x : Int) * 256) (b : Int) = ((b + 256 * x : Nat) : Int) := by
  have e : (x : Int) * 256 = ((2 ^ 8 * x : Nat) : Int) := by omega
  rw [e, u64_or_nat _ _ (by omega) (by omega), ← Nat.two_pow_add_eq_or_of_lt (show b < 2 ^ 8 by omega)]
  congr 1
  omega

set_option maxHeartbeats 4000000 in
theorem BackMarks_walk (a0 a1 : Int) (w : World) (w0 : (Lit.int .u64 a0).wf = true) (w1 : (Lit.int .u8 a1).wf = true) :
    Calls Try.prog 3 #[.int .u64 a0, .int .u8 a1] w fun e w' => e = .returned (.bool true) ∧ Below w.heap.size w w' := by
  obtain ⟨v, rfl, hv⟩ := u64_bounds w0
  obtain ⟨m, rfl, hm⟩ := u8_bounds w1
  clear w0 w1
  obtain ⟨k, hk⟩ : ∃ k, k = m % 56 := ⟨_, rfl⟩
  have e0 : (m : Int) % 56 = (k : Int) := by omega
  have hk55 : k ≤ 55 := by omega
  obtain ⟨s, hs⟩ : ∃ s, s = markS (bitsOf v k) := ⟨_, rfl⟩
  have hss : s.size = k / 8 + 1 := by rw [hs, markS_size, length_bitsOf]
  have hseal : ∀ g w', Blk w' g #[.int .u64 (v : Int)] 22 → ∀ g2, Blk w' g2 #[.int .i64 (k : Int)] 3 → Calls Try.prog 7 #[.slice (some ⟨g, 0, none⟩) 1 1, .slice (some ⟨g2, 0, none⟩) 1 1] w' fun e w'' => e = .returned (.string s) ∧ Below w'.heap.size w' w'' := fun g w' h1 g2 h2 => by
    have h := seal_calls (some ⟨g, 0, none⟩) 1 1 [v] (some ⟨g2, 0, none⟩) 1 1 [(k : Int)] w' (Rd.one h1) (Rd.one h2) (by simpa using hv) (by simp; omega) 1 rfl (by decide) (by decide) (by decide)
    have e : catC [v] [(k : Int)] 1 = bitsOf v k := by
      show [] ++ bitsOf v (clamp (k : Int)) = _
      rw [List.nil_append, show clamp (k : Int) = k by unfold clamp; omega]
    rw [e] at h
    rw [hs]
    exact h
  have HSeal := kept hseal
  have HS := kept hs
  have HSS := kept hss
  have HV := kept hv
  have hs8 : s.size ≤ 7 := by omega
  clear hk hs hseal hv hss
  go_enter Try.func3, Try.ntmps3
  go_wp2_with fail
  generalize hw1 : World.alloc (World.alloc w _) _ = w1
  have hb : Below w.heap.size w w1 := by rw [← hw1]; exact ((Below.refl _ _).alloc (Nat.le_refl _) _).alloc (by simp) _
  have h1 : Blk w1 w.heap.size #[.int .u64 (v : Int)] 22 := by rw [← hw1]; exact (Blk.fresh _ _ _).alloc _
  have h2 : Blk w1 (w.heap.size + 1) #[.int .i64 (k : Int)] 3 := by rw [← hw1]; exact Blk.fresh_at _ _ (by simp) _ _
  refine (HSeal.out _ _ h1 _ h2).mono ?_
  rintro e w2 ⟨rfl, hb2⟩
  have HB2 := kept (hb.trans (hb2.mono hb.size))
  clear hw1 hb h1 h2 hb2
  go_wp2_with fail
  go_loopw [7, 8] (fun s7 s8 wr => ∃ j : Nat, j ≤ s.size ∧ s8 = .int .i64 ((j : Int) - 1) ∧ (∃ x : Nat, x = ofBits ((bitsS s).drop (8 * j)) ∧ s7 = .int .u64 (x : Int)) ∧ wr = w2) (fun s7 s8 _ => (intOf s8 + 1).toNat)
  case atStart => exact ⟨s.size, Nat.le_refl _, rfl, ⟨0, by rw [List.drop_eq_nil_of_le (by simp)]; rfl, rfl⟩, rfl⟩
  case round =>
    obtain ⟨j, hj, rfl, ⟨x, hx, rfl⟩, rfl⟩ := hrel
    cases j with
    | zero =>
      have e1 : ((0 : Nat) : Int) - 1 = -1 := by decide
      rw [e1]
      clear e1
      rw [Nat.mul_zero, List.drop_zero] at hx
      have hx2 : x = v % 2 ^ k + 2 ^ k := by
        obtain ⟨z, hz0, hz⟩ : ∃ z : List Bool, ofBits z = 0 ∧ bitsS s = (bitsOf v k ++ [true]) ++ z := by
          rw [HS.out]
          unfold markS
          rw [bitsS_textOf]
          refine ⟨_, ?_, rfl⟩
          rw [ofBits_zero]
          simp
        rw [hx, hz, ofBits_append, ofBits_append, hz0, ofBits_bitsOf, length_bitsOf]
        simp [ofBits]
      have hshl := shl_one k (by omega)
      obtain ⟨P, hP⟩ : ∃ P, P = 2 ^ k := ⟨_, rfl⟩
      have hP0 : 0 < P := by rw [hP]; exact Nat.pow_pos (by decide)
      have hP63 : P ≤ 9223372036854775808 := by rw [hP]; exact pow63 k (by omega)
      have hmask := and_mask v k P HV.out (by omega) hP
      obtain ⟨r, hr⟩ : ∃ r, r = v % P := ⟨_, rfl⟩
      have hrP : r < P := by rw [hr]; exact Nat.mod_lt _ hP0
      have hor := or_top r k P (by omega) hP hrP
      rw [← hr] at hmask
      rw [← hP] at hshl hx2
      rw [← hr] at hx2
      rw [← hx2] at hor
      have hsz : (k : Int) / 8 + 1 = (s.size : Int) := by have := HSS.out; omega
      have hPP : P < 18446744073709551616 := by omega
      clear hx hx2 hP hr hrP hP63
      go_wp2_with fail
      refine wp_region_quietL (by kernel_rfl) (by kernel_rfl) ?_
      repeat (go_big_quiet_step ((go_at_call 8; exact lat_call (awake4_calls _))))
      refine wpQuiet_nil ?_
      intro nq
      go_wp2_with fail
      go_ret
      exact ⟨rfl, HB2.out.trans (nq.below.mono HB2.out.size)⟩
    | succ j =>
      have e1 : ((j + 1 : Nat) : Int) - 1 = (j : Int) := by omega
      rw [e1]
      clear e1
      have hjs : j < s.size := by omega
      have hix := run_ix (P := Try.prog) (T := 9) Try.underlying9 s (j : Int) j rfl hjs
      have hd := ofBits_drop s j hjs
      rw [← hx] at hd
      obtain ⟨b, hb⟩ : ∃ b, b = byteS s j := ⟨_, rfl⟩
      have hb8 : b < 256 := by rw [hb]; exact byteS_lt _ _
      rw [← hb] at hix hd
      have hxl : x < 2 ^ (8 * s.size - 8 * (j + 1)) := by
        have := ofBits_lt ((bitsS s).drop (8 * (j + 1)))
        rw [hx]
        simpa using this
      have hx48 : x < 281474976710656 := by
        have : 2 ^ (8 * s.size - 8 * (j + 1)) ≤ 2 ^ 48 := Nat.pow_le_pow_right (by decide) (by omega)
        omega
      have hor := or_byte8 x b (by omega) hb8
      rw [← hd] at hor
      have HX := kept hx48
      clear hb hx hxl hd hx48
      have hx56 : x < 72057594037927936 := by have := HX.out; omega
      go_wp2_with fail
      go_roundw
      case rel => exact ⟨j, by omega, rfl, ⟨_, rfl, rfl⟩, trivial⟩
      case measure => simp [intOf]
end Go.Proofs.Ytdbnmijnjfbibaa
