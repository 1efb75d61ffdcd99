/- BitsBytes' walk: a text's bytes put to two writers, one of them behind a few bits; what is got of the latter. -/
import Derived.Test.YtcgmofakibfpiaaBt
import Derived.OpenShut
import Derived.Deep.RegionWith
namespace Go.Proofs.Ytcgmofakibfpiaa
set_option linter.unusedSimpArgs false
set_option linter.unusedVariables false
open Go.RowKit Mix Own Bits

theorem or256 (b : Nat) (hb : b < 256) : bits .or .u64 (b : Int) 256 = ((b ||| 256 : Nat) : Int) := u64_or_nat b 256 (by omega) (by decide)
theorem clamp_nat (n : Nat) (h : n ≤ 64) : clamp (n : Int) = n := by unfold clamp; omega

set_option maxHeartbeats 4000000 in
theorem BitsBytes_walk (s : ByteArray) (a1 : Int) (w : World) (hs0 : s.size ≤ 140737488351232) (w1 : (Lit.int .u8 a1).wf = true) :
    Calls Try.prog 8 #[.string s, .int .u8 a1] w fun e w' => e = .returned (.bool true) ∧ Below w.heap.size w w' := by
  obtain ⟨n, rfl, hn⟩ := u8_bounds w1
  clear w1
  by_cases hbig : 60 < s.size
  · have t0 : decide ((60 : Int) < (s.size : Int)) = true := by simp; omega
    go_enter Try.func8, Try.ntmps8
    go_wp2_with (first | (go_at_call 10; refine (awake3_calls _).mono ?_; rintro e w9 ⟨rfl, hb9⟩; have HB9 := kept hb9; clear hb9))
    go_ret
    exact ⟨rfl, HB9.out⟩
  have t0 : decide ((60 : Int) < (s.size : Int)) = false := by simp; omega
  have hs : s.size ≤ 60 := by omega
  clear hbig hs0
  obtain ⟨B, hB⟩ : ∃ B, B = w.heap.size := ⟨_, rfl⟩
  rw [← hB]
  have HB := kept hB
  clear hB
  obtain ⟨k, hk⟩ : ∃ k, k = n % 8 := ⟨_, rfl⟩
  have hk8 : k < 8 := by omega
  have hkm : (n : Int) % 8 = (k : Int) := by omega
  clear hk
  go_enter Try.func8, Try.ntmps8
  go_wp2_with fail
  refine (new_new B w (by rw [HB.out]; exact Nat.le_refl _)).mono ?_
  rintro e wa ⟨pa, rfl, hWa, hba, hpa⟩
  have HS1 : Kept (B ≤ wa.heap.size) := kept (by rw [HB.out]; exact hba.size)
  have hpl : pa < wa.heap.size := hWa.is.blk.lt
  have HWa := kept hWa
  have HBa : Kept (Below B w wa) := kept (by rw [HB.out]; exact hba)
  clear hWa hba hpa
  go_wp2_with fail
  refine (new_new B wa HS1.out).mono ?_
  rintro e wb ⟨pb, rfl, hWb, hbb, hpb⟩
  have HT : Kept (TwoW B wb pa pb (.slice none 0 0) (.slice none 0 0) [] []) := kept ⟨HWa.out.later hbb, hWb, by omega, fun g hg => by simp [Value.ownBlock] at hg, Nat.le_trans HS1.out hbb.size⟩
  have HBb := kept (HBa.out.trans (hbb.mono HS1.out))
  clear hWb hbb hpb hpl HWa HBa HS1
  go_wp2_with fail
  rw [hkm]
  refine (put_new B pb _ [] 0 k wb HT.out.sz HT.out.b (by decide) (by decide) (by omega) (by omega)).mono ?_
  rw [clamp_nat k (by omega), List.nil_append, bitsOf_zero]
  rintro e wc ⟨rfl, vb, hWb, hbc, hC, hG⟩
  have HT2 := kept (HT.out.swap.puta hWb hC hG).swap
  have HBc := kept (HBb.out.trans hbc)
  clear hWb hbc hC hG HT HBb hkm t0
  go_wp2_with fail
  go_loopw [8] (fun s8 wr => ∃ i : Nat, i ≤ s.size ∧ s8 = .int .i64 (i : Int) ∧ ∃ va vb, TwoW B wr pa pb va vb ((bitsS s).take (8 * i)) (List.replicate k false ++ (bitsS s).take (8 * i)) ∧ Below B w wr)
    (fun s8 _ => s.size - (intOf s8).toNat)
  case atStart => exact ⟨0, Nat.zero_le _, rfl, _, _, by simpa using HT2.out, HBc.out⟩
  case round =>
    obtain ⟨i, hi, rfl, va, vb, hT, hbr⟩ := hrel
    have HT := kept hT
    have HBr := kept hbr
    clear hT hbr HT2 HBc
    by_cases hlt : i < s.size
    · have hix := run_ix (P := Try.prog) (T := 9) Try.underlying9 s (i : Int) i rfl hlt
      have htk := take_byte s i hlt
      obtain ⟨b, hb⟩ : ∃ b, b = byteS s i := ⟨_, rfl⟩
      have hb8 : b < 256 := by rw [hb]; exact byteS_lt _ _
      rw [← hb] at hix htk
      have HK := kept htk
      obtain ⟨c, hc⟩ : ∃ c, c = b ||| 256 := ⟨_, rfl⟩
      have hc8 : c < 512 := by rw [hc]; exact Nat.or_lt_two_pow (n := 9) (by omega) (by decide)
      have hcb : bitsOf c 8 = bitsOf b 8 := by rw [hc]; exact bitsOf_or256 b
      have hor : bits .or .u64 (b : Int) 256 = (c : Int) := by rw [hc]; exact or256 b hb8
      have HCB := kept hcb
      clear hb htk hcb hc
      go_wp2_with (first
        | (go_at_call_of 11 (Value.pointer (some ⟨pa, 0, none⟩)); refine (put_new B pa va _ b 8 wr HT.out.sz HT.out.a (by simp; omega) (by omega) (by decide) (by decide)).mono ?_; rintro e w2 ⟨rfl, va2, hW2, hb2, hC2, hG2⟩; have HT2 := kept (HT.out.puta hW2 hC2 hG2); have HB2 := kept (HBr.out.trans hb2); clear hW2 hb2 hC2 hG2)
        | (go_at_call_of 11 (Value.pointer (some ⟨pb, 0, none⟩)); refine (put_new B pb vb _ c 8 w2 HT2.out.sz HT2.out.b (by simp; omega) (by omega) (by decide) (by decide)).mono ?_; rintro e w3 ⟨rfl, vb2, hW2, hb2, hC2, hG2⟩; have HT3 := kept (HT2.out.swap.puta hW2 hC2 hG2).swap; have HB3 := kept (HB2.out.trans hb2); clear hW2 hb2 hC2 hG2))
      go_roundw
      case rel =>
        refine ⟨i + 1, by omega, by go_num, va2, vb2, ?_, HB3.out⟩
        have h := HT3.out
        rw [show clamp 8 = 8 from rfl, HCB.out, List.append_assoc, ← HK.out] at h
        exact h
      case measure => simp [intOf]; omega
    · have hik : i = s.size := by omega
      subst hik
      have hTT := HT.out
      rw [take_all] at hTT
      have HT2 := kept hTT
      have hA := bytes_calls pb vb _ wr hTT.b.is
      clear hTT HT
      obtain ⟨l, hl⟩ : ∃ l, l = List.replicate k false ++ bitsS s := ⟨_, rfl⟩
      obtain ⟨T, hT⟩ : ∃ T, T = textOf (pack l) := ⟨_, rfl⟩
      rw [← hl, ← hT] at hA
      have hll : l.length = k + 8 * s.size := by rw [hl]; simp
      have hTs : T.size = (l.length + 7) / 8 := by rw [hT]; simp
      have HA := kept hA
      have HL := kept hl
      have HTe := kept hT
      have HLL := kept hll
      have HTS : Kept (T.size ≤ 1000000000000) := kept (by omega)
      have HTS2 : Kept (k + 8 * s.size ≤ 8 * T.size) := kept (by omega)
      clear hA hl hT hll hTs
      go_wp2_with (first
        | (go_at_call 14; refine HA.out.mono ?_; rintro e w' ⟨rfl, rfl⟩)
        | (go_at_call 19; refine (from_calls T _).mono ?_; rintro e wd ⟨pr, rfl, hR, hbd, hpr⟩; have HR := kept hR; have HBd := kept hbd; have HP := kept hpr; clear hR hbd hpr))
      have hBpr : B ≤ pr := Nat.le_trans HT2.out.sz HP.out
      have HBpr := kept hBpr
      have hg0 : getS T 0 (k : Int) = ((getS T 0 (k : Int)).1, 0, 0 + k) := by rw [HTe.out, getS_pack _ _ _ (by omega) (by have := HLL.out; omega)]
      rw [Nat.zero_add] at hg0
      have HG0 := kept hg0
      clear hg0 hBpr
      go_wp2_with fail
      have hgn := get_new B pr T 0 (k : Int) wd (Nat.le_trans HT2.out.sz HBd.out.size) HBpr.out HR.out HTS.out (Nat.zero_le _)
      rw [HG0.out] at hgn
      refine hgn.mono ?_
      rintro e wf ⟨rfl, hRf, hbf, hCf⟩
      have HRf := kept hRf
      have hne1 : pa ≠ pr := by have := HT2.out.a.is.blk.lt; have := HP.out; omega
      have hWf := (HT2.out.a.later HBd.out).keep hCf hne1 (fun g hg => by have := HT2.out.a.is.row.lt g hg; have := HP.out; omega)
      have HWf := kept hWf
      have HBf := kept ((HBr.out.trans (HBd.out.mono HT2.out.sz)).trans hbf)
      have HSf := kept (Nat.le_trans (Nat.le_trans HT2.out.sz HBd.out.size) hbf.size)
      have HNg : Kept (∀ g, va.ownBlock = some g → g ≠ pr) := kept (fun g hg => by have := HT2.out.a.is.row.lt g hg; have := HP.out; omega)
      have HNe := kept hne1
      clear hRf hWf hbf hCf hgn hne1 HBr HBd HR HP HT2
      go_wp2_with fail
      go_loopw [10] (fun s10 wr => ∃ i : Nat, i ≤ s.size ∧ s10 = .int .i64 (i : Int) ∧ IsRd wr pr T (k + 8 * i) ∧ NewW B wr pa va (bitsS s) ∧ Below B w wr ∧ B ≤ wr.heap.size) (fun s10 _ => s.size - (intOf s10).toNat)
      case atStart => exact ⟨0, Nat.zero_le _, rfl, HRf.out, HWf.out, HBf.out, HSf.out⟩
      case round =>
        obtain ⟨i, hi, rfl, hR, hW, hbr, hsr⟩ := hrel
        have HR := kept hR
        have HW := kept hW
        have HBr := kept hbr
        have HSr := kept hsr
        clear hR hW hbr hsr HRf HWf HBf HSf
        by_cases hlt : i < s.size
        · have hix := run_ix (P := Try.prog) (T := 9) Try.underlying9 s (i : Int) i rfl hlt
          have hgs : getS T (k + 8 * i) ((8 : Nat) : Int) = (byteS s i, 0, k + 8 * i + 8) := by
            rw [HTe.out, getS_pack _ _ _ (by omega) (by have := HLL.out; omega)]
            have e : (l.drop (k + 8 * i)).take 8 = bitsOf (byteS s i) 8 := by
              rw [HL.out, ← List.drop_drop, List.drop_left' (by simp)]
              have h1 := take_byte s i hlt
              have h2 : (bitsS s).take (8 * (i + 1)) = (bitsS s).take (8 * i) ++ ((bitsS s).drop (8 * i)).take 8 := by
                rw [show 8 * (i + 1) = 8 * i + 8 by omega, List.take_add]
              rw [h2] at h1
              exact List.append_cancel_left h1
            rw [e, ofBits_bitsOf]
            rw [Nat.mod_eq_of_lt (byteS_lt s i)]
          obtain ⟨b, hb⟩ : ∃ b, b = byteS s i := ⟨_, rfl⟩
          have hb8 : b < 256 := by rw [hb]; exact byteS_lt _ _
          rw [← hb] at hix hgs
          have HGS := kept hgs
          have hk2 : k + 8 * i ≤ 8 * T.size := by have := HTS2.out; omega
          have HK2 := kept hk2
          clear hb hgs hk2
          have hgn := get_new B pr T (k + 8 * i) ((8 : Nat) : Int) wr HSr.out HBpr.out HR.out HTS.out HK2.out
          rw [HGS.out] at hgn
          have HGN := kept hgn
          clear hgn
          go_wp2_with (first
            | (go_at_call 16; refine HGN.out.mono ?_; rintro e wx ⟨rfl, hR2, hb2, hc2⟩; have HR2 := kept hR2; have HW2 := kept (HW.out.keep hc2 HNe.out HNg.out); have HBx := kept (HBr.out.trans hb2); have HSx := kept (Nat.le_trans HSr.out hb2.size); clear hR2 hb2 hc2)
            | (go_at_call 17; refine (err_calls _ _).mono ?_; rintro e w' ⟨rfl, rfl⟩))
          go_roundw
          case rel => exact ⟨i + 1, by omega, by go_num, HR2.out, HW2.out, HBx.out, HSx.out⟩
          case measure => simp [intOf]; omega
        · have hik : i = s.size := by omega
          subst hik
          have hA := bytes_calls pa va _ wr HW.out.is
          rw [textOf_bitsS] at hA
          have hrest := rest_calls pr T (k + 8 * s.size) wr HR.out HTS.out HTS2.out
          rw [← HLL.out, HTe.out, restS_pack] at hrest
          have HA2 := kept hA
          have HRest := kept hrest
          clear hA hrest
          go_wp2_with (first
            | (go_at_call 14; refine HA2.out.mono ?_; rintro e w' ⟨rfl, rfl⟩)
            | (go_at_call 18; refine HRest.out.mono ?_; rintro e w8 ⟨rfl, hb8⟩; have HB8 := kept hb8; clear hb8)
            | (go_at_call 10; refine (awake3_calls _).mono ?_; rintro e w9 ⟨rfl, hb9⟩; have HB9 := kept hb9; clear hb9))
          go_ret
          exact ⟨rfl, (HBr.out.trans (HB8.out.mono HSr.out)).trans (HB9.out.mono (Nat.le_trans HSr.out HB8.out.size))⟩
end Go.Proofs.Ytcgmofakibfpiaa
