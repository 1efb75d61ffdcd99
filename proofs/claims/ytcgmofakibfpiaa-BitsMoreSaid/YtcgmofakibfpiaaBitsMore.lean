/- BitsMore's walk: two readers of one text; one is asked for more than there is. -/
import Derived.Test.YtcgmofakibfpiaaBo
import Derived.OpenShut
import Derived.Deep.RegionWith
namespace Go.Proofs.Ytcgmofakibfpiaa
set_option linter.unusedSimpArgs false
set_option linter.unusedVariables false
open Go.RowKit Mix Own Bits
attribute [local go_sem] max_int min_int

/-- The two readers' state. -/
structure Two (B : Nat) (w : World) (pa pb : Nat) (s : ByteArray) (i j : Nat) : Prop where
  a : IsRd w pa s i
  b : IsRd w pb s j
  ba : B ≤ pa
  bb : B ≤ pb
  ne : pa ≠ pb
  sz : B ≤ w.heap.size

theorem Two.geta {B : Nat} {w w' : World} {pa pb : Nat} {s : ByteArray} {i i' j : Nat} (h : Two B w pa pb s i j) (ha : IsRd w' pa s i') (hc : Chg (fun b => b = pa) w w') : Two B w' pa pb s i' j :=
  ⟨ha, h.b.keep hc (fun e => h.ne e.symm), h.ba, h.bb, h.ne, Nat.le_trans h.sz hc.size⟩
theorem Two.getb {B : Nat} {w w' : World} {pa pb : Nat} {s : ByteArray} {i j j' : Nat} (h : Two B w pa pb s i j) (hb : IsRd w' pb s j') (hc : Chg (fun b => b = pb) w w') : Two B w' pa pb s i j' :=
  ⟨h.a.keep hc h.ne, hb, h.ba, h.bb, h.ne, Nat.le_trans h.sz hc.size⟩

set_option maxHeartbeats 4000000 in
theorem BitsMore_walk (s : ByteArray) (a1 a2 : Int) (w : World) (hs0 : s.size ≤ 140737488351232) (w1 : (Lit.int .u8 a1).wf = true) (w2 : (Lit.int .u8 a2).wf = true) :
    Calls Try.prog 7 #[.string s, .int .u8 a1, .int .u8 a2] w fun e w' => e = .returned (.bool true) ∧ Below w.heap.size w w' := by
  obtain ⟨n, rfl, hn⟩ := u8_bounds w1
  obtain ⟨m, rfl, hm⟩ := u8_bounds w2
  clear w1 w2
  by_cases hbig : 40 < s.size
  · have t0 : decide ((40 : Int) < (s.size : Int)) = true := by simp; omega
    go_enter Try.func7, Try.ntmps7
    go_wp2_with (first | (go_at_call 10; refine (awake3_calls _).mono ?_; rintro e w9 ⟨rfl, hb9⟩; have HB9 := kept hb9; clear hb9))
    go_ret
    exact ⟨rfl, HB9.out⟩
  have t0 : decide ((40 : Int) < (s.size : Int)) = false := by simp; omega
  have hs : s.size ≤ 40 := by omega
  clear hbig hs0
  obtain ⟨B, hB⟩ : ∃ B, B = w.heap.size := ⟨_, rfl⟩
  rw [← hB]
  have HB := kept hB
  clear hB
  obtain ⟨k, hk⟩ : ∃ k, k = n % (8 * s.size + 1) := ⟨_, rfl⟩
  have hk8 : k ≤ 8 * s.size := by
    rw [hk]; have := Nat.mod_lt n (show 0 < 8 * s.size + 1 by omega); omega
  have hkm : (n : Int) % (8 * (s.size : Int) + 1) = (k : Int) := by rw [hk]; simp
  have HK := kept hkm
  clear hk hkm
  have hs12 : s.size ≤ 1000000000000 := by omega
  have HS12 := kept hs12
  clear hs12
  go_enter Try.func7, Try.ntmps7
  go_wp2_with fail
  refine (from_calls s w).mono ?_
  rintro e wa ⟨pa, rfl, hRa, hba, hpa⟩
  have HRa := kept hRa
  have HBa := kept hba
  have hpl : pa < wa.heap.size := Blk.lt hRa
  clear hRa hba
  go_wp2_with fail
  refine (from_calls s wa).mono ?_
  rintro e wb ⟨pb, rfl, hRb, hbb, hpb⟩
  have HT : Kept (Two B wb pa pb s 0 0) := kept ⟨HRa.out.later hbb, hRb, by rw [HB.out]; exact hpa, by rw [HB.out]; omega, by omega, by rw [HB.out]; exact Nat.le_trans HBa.out.size hbb.size⟩
  have HBb : Kept (Below B w wb) := kept (by rw [HB.out]; exact HBa.out.trans (hbb.mono HBa.out.size))
  clear hRb hbb hpb hpl hpa HRa HBa
  go_wp2_with fail
  rw [HK.out]
  clear t0
  go_loopw [10] (fun s10 wr => ∃ i : Nat, i ≤ k ∧ s10 = .int .i64 (i : Int) ∧ Two B wr pa pb s i i ∧ Below B w wr) (fun s10 _ => k - (intOf s10).toNat)
  case atStart => exact ⟨0, Nat.zero_le _, rfl, HT.out, HBb.out⟩
  case round =>
    obtain ⟨i, hi, rfl, hT, hbr⟩ := hrel
    have HT := kept hT
    have HBr := kept hbr
    clear hT hbr HBb
    by_cases hlt : i < k
    · obtain ⟨y, hy⟩ : ∃ y, y = (bitS s i).toNat := ⟨_, rfl⟩
      have hy1 : decide ((1 : Int) < (y : Int)) = false := by rw [hy]; cases bitS s i <;> simp
      have HY := kept hy
      clear hy
      go_wp2_with (first
        | (go_at_call_of 16 (Value.pointer (some ⟨pa, 0, none⟩)); refine (get1_new B pa s i wr HT.out.sz HT.out.ba HT.out.a HS12.out (by omega) y HY.out).mono ?_; rintro e wx ⟨rfl, hR2, hb2, hc2⟩; have HT2 := kept (HT.out.geta hR2 hc2); have HBx := kept (HBr.out.trans hb2); clear hR2 hb2 hc2)
        | (go_at_call_of 16 (Value.pointer (some ⟨pb, 0, none⟩)); refine (get1_new B pb s i wx HT2.out.sz HT2.out.bb HT2.out.b HS12.out (by omega) y HY.out).mono ?_; rintro e wy ⟨rfl, hR2, hb2, hc2⟩; have HT3 := kept (HT2.out.getb hR2 hc2); have HBy := kept (HBx.out.trans hb2); clear hR2 hb2 hc2)
        | (go_at_call 17; refine (err_calls _ _).mono ?_; rintro e w' ⟨rfl, rfl⟩))
      go_roundw
      case rel => exact ⟨i + 1, by omega, by go_num, HT3.out, HBy.out⟩
      case measure => simp [intOf]; omega
    · have hik : i = k := by omega
      subst hik
      obtain ⟨M, hM⟩ : ∃ M : Nat, M = min (8 * s.size - i + 1 + m % 8) 64 := ⟨_, rfl⟩
      have hMe : mn (8 * (s.size : Int) - (i : Int) + 1 + (m : Int) % 8) 64 = (M : Int) := by rw [mn_eq, hM]; omega
      have hM64 : M ≤ 64 := by omega
      obtain ⟨L, hL⟩ : ∃ L : Nat, L = 8 * s.size - i := ⟨_, rfl⟩
      have hML : M = L + 1 + m % 8 ∨ M = 64 := by omega
      have hML2 : M ≤ L + 1 + m % 8 := by omega
      have HL := kept hL
      have HM := kept hMe
      have HML := kept hML
      have HML2 := kept hML2
      clear hM hL hMe hML hML2
      go_wp2_with fail
      rw [HM.out]
      by_cases hl64 : 64 ≤ L
      · have h64 : M = 64 := by have h1 := HML.out; omega
        have hg := get_new B pa s i (M : Int) wr HT.out.sz HT.out.ba HT.out.a HS12.out hk8
        have e : getS s i (M : Int) = ((getS s i (M : Int)).1, 0, i + 64) := by
          have := HL.out
          unfold getS
          rw [if_neg (by omega), if_neg (by omega), h64]
          rfl
        rw [e] at hg
        refine hg.mono ?_
        rintro e wx ⟨rfl, hR2, hb2, hc2⟩
        have HT2 := kept (HT.out.geta hR2 hc2)
        have HBx := kept (HBr.out.trans hb2)
        clear hR2 hb2 hc2 hg e
        have tl : decide ((64 : Int) ≤ 8 * (s.size : Int) - (i : Int)) = true := by have := HL.out; simp; omega
        go_wp2_with (first
          | (go_at_call 16; refine (get_arg pa s 0 _ _ (by omega)).mono ?_; rintro e w' ⟨rfl, rfl⟩)
          | (go_at_call 17; refine (err_calls _ _).mono ?_; rintro e w' ⟨rfl, rfl⟩)
          | (go_at_call 10; refine (awake3_calls _).mono ?_; rintro e w9 ⟨rfl, hb9⟩; have HB9 := kept hb9; clear hb9))
        go_ret
        exact ⟨rfl, HBx.out.trans (HB9.out.mono HT2.out.sz)⟩
      · have hg := get_more pa s i M wr HT.out.a HS12.out hk8 hM64 (by have := HL.out; have := HML.out; omega)
        refine hg.mono ?_
        rintro e wx ⟨rfl, hb2⟩
        have HT2 : Kept (Two B wx pa pb s i i) := kept ⟨HT.out.a.later hb2, HT.out.b.later hb2, HT.out.ba, HT.out.bb, HT.out.ne, Nat.le_trans HT.out.sz hb2.size⟩
        have HBx : Kept (Below B w wx) := kept (HBr.out.trans (hb2.mono HT.out.sz))
        clear hb2 hg
        have tl : decide ((64 : Int) ≤ 8 * (s.size : Int) - (i : Int)) = false := by have := HL.out; simp; omega
        go_wp2_with (first
          | (go_at_call 16; refine (get_arg pa s 0 _ _ (by omega)).mono ?_; rintro e w' ⟨rfl, rfl⟩)
          | (go_at_call 17; refine (err_calls _ _).mono ?_; rintro e w' ⟨rfl, rfl⟩))
        have hLe : 8 * (s.size : Int) - (i : Int) = (L : Int) := by have := HL.out; omega
        rw [hLe]
        have hiL : i + L = 8 * s.size := by have := HL.out; omega
        have HIL := kept hiL
        clear hLe hiL tl HT HBr
        go_loopw [23] (fun s23 wr => ∃ j : Nat, j ≤ L ∧ s23 = .int .i64 (j : Int) ∧ Two B wr pa pb s (i + j) (i + j) ∧ Below B w wr) (fun s23 _ => L - (intOf s23).toNat)
        case atStart => exact ⟨0, Nat.zero_le _, rfl, HT2.out, HBx.out⟩
        case round =>
          obtain ⟨j, hj, rfl, hT, hbr⟩ := hrel
          have HT := kept hT
          have HBr := kept hbr
          clear hT hbr
          by_cases hlt : j < L
          · obtain ⟨y, hy⟩ : ∃ y, y = (bitS s (i + j)).toNat := ⟨_, rfl⟩
            have HY := kept hy
            have hlt2 : i + j < 8 * s.size := by have := HIL.out; omega
            clear hy
            go_wp2_with (first
              | (go_at_call_of 16 (Value.pointer (some ⟨pa, 0, none⟩)); refine (get1_new B pa s (i + j) wr HT.out.sz HT.out.ba HT.out.a HS12.out hlt2 y HY.out).mono ?_; rintro e wy ⟨rfl, hR2, hb2, hc2⟩; have HT3 := kept (HT.out.geta hR2 hc2); have HBy := kept (HBr.out.trans hb2); clear hR2 hb2 hc2)
              | (go_at_call_of 16 (Value.pointer (some ⟨pb, 0, none⟩)); refine (get1_new B pb s (i + j) wy HT3.out.sz HT3.out.bb HT3.out.b HS12.out hlt2 y HY.out).mono ?_; rintro e wz ⟨rfl, hR2, hb2, hc2⟩; have HT4 := kept (HT3.out.getb hR2 hc2); have HBz := kept (HBy.out.trans hb2); clear hR2 hb2 hc2)
              | (go_at_call 17; refine (err_calls _ _).mono ?_; rintro e w' ⟨rfl, rfl⟩))
            go_roundw
            case rel => exact ⟨j + 1, by omega, by go_num, HT4.out, HBz.out⟩
            case measure => simp [intOf]; omega
          · have hjL : j = L := by omega
            have hend : i + j = 8 * s.size := by have := HIL.out; omega
            have hrest := rest_calls pa s (i + j) wr HT.out.a HS12.out (by omega)
            rw [hend, restS_end] at hrest
            have HRest := kept hrest
            clear hrest hend hjL
            go_wp2_with (first
              | (go_at_call 18; refine HRest.out.mono ?_; rintro e w8 ⟨rfl, hb8⟩; have HB8 := kept hb8; clear hb8)
              | (go_at_call 10; refine (awake3_calls _).mono ?_; rintro e w9 ⟨rfl, hb9⟩; have HB9 := kept hb9; clear hb9))
            go_ret
            exact ⟨rfl, (HBr.out.trans (HB8.out.mono HT.out.sz)).trans (HB9.out.mono (Nat.le_trans HT.out.sz HB8.out.size))⟩
end Go.Proofs.Ytcgmofakibfpiaa
