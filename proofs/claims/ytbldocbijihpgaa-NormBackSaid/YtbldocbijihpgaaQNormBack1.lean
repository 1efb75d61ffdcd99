/- Part NormBack1 of what the layer's laws stand on: NormBack, LawNormBack. Written by a program (merge.py) out of this session's own texts and of what the kit's print wrote over stand-ins (sp.py). Conditions: those that each theorem names. -/
import Derived.Test.YtbldocbijihpgaaQB3
import Derived.Test.YtbldocbijihpgaaQB1
import Derived.Test.YtbldocbijihpgaaQB4
import Derived.Test.YtbldocbijihpgaaQB2
import Derived.Test.YtbldocbijihpgaaRows
import Derived.WalkKit
import Derived.ProofKit
import Derived.OpenShut
import Derived.ShutString
import Derived.ChangeOld
import Derived.Below
import Derived.SizedLaws
-- ---- NormBack
/- NormBack: numbers that may be are told again, wherever they stand; cut more is needed; with a byte turned they are others, or none: what the call answers, for every input. Conditions: the list reads as the argument does. -/
namespace Go.Proofs.Ytbldocbijihpgaa
set_option linter.unusedSimpArgs false
set_option linter.unusedVariables false
open Go.RowKit Mix _root_.Go.Proofs.Ytbldocbijihpgaa.Own PA Nl Sp By Np Go.Proofs.YtbldocbijihpgaaW.PrintWords
attribute [local go_sem] _root_.Go.Proofs.Ytbldocbijihpgaa.Own.max_int _root_.Go.Proofs.Ytbldocbijihpgaa.Own.min_int

theorem u8_atN {a : Int} (h : (Lit.int .u8 a).wf = true) : ∃ v : Nat, a = (v : Int) ∧ v ≤ 255 := by
  simp only [Lit.wf, Bool.and_eq_true, decide_eq_true_eq] at h
  have h1 : IntKind.u8.min = 0 := rfl
  have h2 : IntKind.u8.max = 255 := rfl
  exact ⟨a.toNat, by omega, by omega⟩
/-- A text with a byte turned. -/
def turned (s : ByteArray) (j by_ : Nat) : ByteArray := ⟨(s.data.toList.set j (UInt8.ofNat ((s.data.toList.getD j 0).toNat ^^^ by_))).toArray⟩
theorem turned_size (s : ByteArray) (j by_ : Nat) : (turned s j by_).size = s.size := by
  show (s.data.toList.set j _).toArray.size = s.data.size
  simp
theorem turned_ne (s : ByteArray) (j by_ : Nat) (hj : j < s.size) (h0 : by_ ≠ 0) (h1 : by_ < 256) : turned s j by_ ≠ s := by
  intro h
  have h2 : s.data.toList.set j (UInt8.ofNat ((s.data.toList.getD j 0).toNat ^^^ by_)) = s.data.toList := by
    have := congrArg (fun x : ByteArray => x.data.toList) h
    simpa [turned] using this
  have hl : j < s.data.toList.length := by simpa using hj
  have h3 := congrArg (fun l : List UInt8 => l.getD j 0) h2
  simp only [List.getD_eq_getElem?_getD, List.getElem?_set_self hl, Option.getD_some] at h3
  have h4 := congrArg UInt8.toNat h3
  obtain ⟨b, hb⟩ : ∃ b : Nat, b = (s.data.toList[j]?.getD 0).toNat := ⟨_, rfl⟩
  have hb2 : b < 256 := by rw [hb]; exact UInt8.toNat_lt _
  rw [← hb] at h4
  have hx : b ^^^ by_ < 2 ^ 8 := Nat.xor_lt_two_pow hb2 h1
  have h5 : (UInt8.ofNat (b ^^^ by_)).toNat = b ^^^ by_ := by rw [UInt8.toNat_ofNat']; exact Nat.mod_eq_of_lt hx
  rw [h5] at h4
  have h6 : by_ = 0 := by
    have h7 := congrArg (fun x => b ^^^ x) h4
    simp only [← Nat.xor_assoc, Nat.xor_self, Nat.zero_xor] at h7
    exact h7
  exact h0 h6
theorem field_lens (v0 v1 : Value) (w_ : World) : (Instr.field 30 (.agg #[v0, v1]) 0).run Try.prog w_ = .ok v0 w_ := by
  unfold Instr.field
  rw [Sem.run_bind, run_underlying Try.underlying30 w_]
  simp [part, asAgg, Sem.run_bind, isAgg, run_underlying Try.underlying24, run_underlying Try.underlying3, Result.andThen]

set_option maxRecDepth 20000 in
set_option maxHeartbeats 8000000 in
theorem back_calls (A0 : Option Addr) (c0 : Nat) (ns : List Int) (t : Nat) (s2 s3 : ByteArray) (cu at_ by_ : Nat) (w : World) (h0 : Kd.C (Kd.int .u16) w A0 ns.length ns) (hc0 : ns.length ≤ c0) (hw : ∀ x ∈ ns, (Lit.int .u16 x).wf = true) (ht : t ≤ 255) (hcu : cu ≤ 255) (hat : at_ ≤ 255) (hby : by_ ≤ 255)
    (hn : ns.length ≤ 140) (hs2 : s2.size ≤ 20) (hs3 : s3.size ≤ 20) :
    Calls Try.prog 6 #[.slice A0 ns.length c0, .int .u8 (t : Int), .string s2, .string s3, .int .u8 (cu : Int), .int .u8 (at_ : Int), .int .u8 (by_ : Int)] w fun e w' => e = .returned (.bool true) ∧ Below w.heap.size w w' := by
  obtain ⟨ka, hka⟩ := awake12.rounds
  have HA := kept (fun wx => wringerlaw12_awake.calls ka true wx hka)
  have HE := kept (fun x wx => wringerlaw1_Err.calls x x wx rfl)
  obtain ⟨f, hf, hok⟩ := freq_is ns hw (by omega)
  obtain ⟨kf, hkf⟩ := hf.rounds
  have HFr := kept (wringerlaw8_Freq.calls kf A0 c0 ns f w h0 hc0 hkf)
  obtain ⟨m, hm⟩ : ∃ m : Nat, m = 7 + t % 6 := ⟨_, rfl⟩
  obtain ⟨f3, hf3⟩ : ∃ f3, f3 = f.getD 3 0 := ⟨_, rfl⟩
  obtain ⟨f', hf'⟩ : ∃ f', f' = f.set 3 (f3 + 1) := ⟨_, rfl⟩
  have hl65' : f'.length = 65 := by rw [hf', List.length_set]; exact hok.len
  have hf3b : 0 ≤ f3 ∧ f3 ≤ 10000000 := by
    have h := hok.each f3 (by rw [hf3]; exact getD_mem (by have := hok.len; omega))
    omega
  have hFr : Fr f' := by
    have hnn : ∀ x ∈ f', 0 ≤ x := fun x hx => by
      rw [hf'] at hx
      rcases List.mem_or_eq_of_mem_set hx with h | h
      · have := hok.each x h; omega
      · omega
    refine ⟨hl65', hnn, fun x hx => ?_, ?_⟩
    · rw [hf'] at hx
      rcases List.mem_or_eq_of_mem_set hx with h | h
      · have := hok.each x h; omega
      · omega
    · have h1 : f3 + 1 ∈ f' := by rw [hf']; exact List.mem_set (by have := hok.len; omega) _
      have := le_sum f' hnn _ h1
      omega
  have h7 : 7 ≤ m := by omega
  have h12 : m ≤ 12 := by omega
  have hmay := norm_mayN hFr h7 h12
  have hLf := norm_f hFr h7 h12
  obtain ⟨l, hl⟩ : ∃ l, l = normL f' ((2 ^ m : Nat) : Int) := ⟨_, rfl⟩
  rw [← hl] at hmay hLf
  obtain ⟨_, _, hll, _⟩ := mayN_is hmay
  have hl65 := hok.len
  have HLe := kept (fun A c wx (hC : Kd.C (Kd.int .i64) wx A f'.length f') (hc : f'.length ≤ c) => wringerref7_Norm.calls A c f' (m : Int) l 0 wx hC hc hLf)
  rw [hl65'] at HLe
  obtain ⟨s, hs⟩ : ∃ s, s = txt (nputL l) := ⟨_, rfl⟩
  have HPu := kept (fun A c wx (hC : Kd.C (Kd.int .i64) wx A l.length l) (hc : l.length ≤ c) => norm_Put.calls A c l s wx hC hc (by unfold norm_Put.f; rw [if_pos, hs]; have := (mayN_is hmay).2.2.2; exact ⟨fun x hx => by have := this x hx; omega, by omega⟩))
  rw [hll] at HPu
  obtain ⟨hsz, hz9, hz130⟩ := put_size hmay
  rw [← hs] at hsz
  have hs5 : 1 ≤ s.size := by omega
  have hs65 : s.size ≤ 715 := by omega
  have hsne : s.toList.isEmpty = false := by
    rw [ByteArray.toList_eq]
    cases h : s.data.toList with
    | nil =>
      have h2 : s.data.toList.length = s.size := Array.length_toList
      rw [h] at h2
      have h3 : ([] : List UInt8).length = 0 := rfl
      omega
    | cons a t => rfl
  have hg1 := get_put hmay s2 s3
  rw [← hs] at hg1
  have HG1 := kept (fun wx => norm_Get.calls (s2 ++ s ++ s3) (s2.size : Int) (m : Int) l _ 0 wx (by unfold norm_Get.f; rw [if_pos (by rw [size_app, size_app]; omega), hg1]))
  have hg2 := get_cut hmay (cu % s.size) (by rw [← hs]; exact Nat.mod_lt _ (by omega))
  rw [← hs] at hg2
  have HG2 := kept (fun wx => norm_Get.calls (s.extract 0 (cu % s.size)) 0 (m : Int) [] 0 2 wx (by unfold norm_Get.f; rw [if_pos (by simp [ByteArray.size_extract]; omega), hg2]))
  obtain ⟨j, hj⟩ : ∃ j, j = at_ % s.size := ⟨_, rfl⟩
  have hjs : j < s.size := by rw [hj]; exact Nat.mod_lt _ (by omega)
  obtain ⟨n3, x3, e3, hg3⟩ : ∃ n3 x3 e3, getNE (turned s j by_) 0 (m : Int) = (n3, x3, e3) := ⟨_, _, _, rfl⟩
  have HG3 := kept (fun wx => norm_Get.calls (turned s j by_) 0 (m : Int) n3 x3 e3 wx (by unfold norm_Get.f; rw [if_pos (by rw [turned_size]; omega), hg3]))
  have hother : by_ ≠ 0 → e3 = 0 → n3 ≠ l := fun hb he hn => by
    have h1 : getNE (turned s j by_) 0 (m : Int) = (l, x3, 0) := by rw [hg3, hn, he]
    have h2 := get_other (by rw [turned_size, hs]) h1
    rw [← hs] at h2
    exact turned_ne s j by_ hjs hb (by omega) h2
  have HOt := kept hother
  have HLn : Kept (e3 = 0 → n3.length = 65) := kept (fun he => (getNE_ok (by rw [hg3, he])).1)
  obtain ⟨k1, hk1⟩ := (same_self l (by omega)).rounds
  have HS1 := kept (fun A c B d wx (hC : Kd.C (Kd.int .i64) wx A l.length l) (hc : l.length ≤ c) (hD : Kd.C (Kd.int .i64) wx B l.length l) (hd : l.length ≤ d) => wringerref7_SameInts.calls k1 A c l B d l true wx hC hc hD hd hk1)
  rw [hll] at HS1
  -- the numbers of the walk
  have em : (7 : Int) + (t : Int) % 6 = (m : Int) := by omega
  obtain ⟨cs, hcs⟩ : ∃ cs, cs = cu % s.size := ⟨_, rfl⟩
  have ecu : (cu : Int) % (s.size : Int) = (cs : Int) := by rw [hcs]; omega
  have eat : (at_ : Int) % (s.size : Int) = (j : Int) := by rw [hj]; omega
  rw [← hcs] at HG2
  have hcs2 : cs < s.size := by rw [hcs]; exact Nat.mod_lt _ (by omega)
  obtain ⟨n0, hn0⟩ : ∃ n, n = ns.length := ⟨_, rfl⟩
  rw [← hn0] at HFr hn ⊢
  have hsum : s2.size + s.size + s3.size ≤ 1000 := by omega
  have HF65 := kept hl65
  have HL65 := kept hll
  have HF3 := kept hf3
  have HFp := kept hf'
  have hwf3 : wrap64 (f3 + 1) = f3 + 1 := w64 (by omega) (by omega)
  clear hka hf3 hf' hf3b hFr h7 h12 hl65' h0 hc0 hw hf hkf hmay hl hll hLf hsz hz9 hz130 hg1 hg2 hg3 hother hk1 hok hs hj hcs hl65 hm hn0
  go_enter Try.func6, Try.ntmps6
  go_wp2_with fail
  refine HFr.out.mono ?_
  rintro e w1 ⟨v1, rfl, hr1, hb1⟩
  obtain ⟨ho1, hge1⟩ := owns_of_R hr1
  obtain ⟨g1, c1, rfl, hc1, _⟩ := ho1.row (by intro h; have h2 := congrArg List.length h; rw [length_ints, HF65.out] at h2; simp at h2)
  rw [length_ints, HF65.out] at ho1 hge1 hc1 ⊢
  have k3 := ho1.cell (j := 3) (Own.ints_at .i64 f 3 (by rw [HF65.out]; decide))
  rw [← HF3.out] at k3
  have fr3 := ho1.free 3
  have ho2 := ho1.store 3 (.int .i64 (f3 + 1))
  rw [← ints_set, ← HFp.out] at ho2
  have HO2 := kept ho2
  have HB1 := kept (hb1.setCell (p := ⟨g1, 3, none⟩) (hge1 g1 rfl) (.int .i64 (f3 + 1)))
  have HC1 := kept hc1
  clear hr1 hb1 ho1 hge1 ho2 hc1
  go_upto_region 5 with fail
  clear k3 fr3
  generalize World.setCell w1 _ _ = ws at HO2 HB1 ⊢
  have HLe1 := kept (HLe.out (some ⟨g1, 0, none⟩) c1 ws (C_of_rd HO2.out.rd) HC1.out)
  go_wp2_with fail
  refine HLe1.out.mono ?_
  rintro e w2 ⟨v2, rfl, hr2, hb2⟩
  obtain ⟨A2, c2, rfl⟩ := Kd.R_slice hr2
  rw [HL65.out] at hr2 ⊢
  have hq2 := Kd.R_reads' hr2
  rw [HL65.out] at hq2
  have HC2 := kept hq2.2.2
  have HD2 := kept hq2.2.1
  have HB2 := kept (HB1.out.trans (hb2.mono HB1.out.size))
  have hfl := field_lens (.slice A2 65 c2) (.int .i64 0)
  clear hr2 hb2 hq2
  go_wp2_with fail
  refine (HPu.out A2 c2 _ HC2.out HD2.out).mono ?_
  rintro e w3 ⟨rfl, hb3⟩
  have HB3 := kept hb3
  clear hb3 hfl
  go_wp2_with fail
  refine (HG1.out _).mono ?_
  rintro e w4 ⟨v4, rfl, hr4, hb4⟩
  obtain ⟨A4, c4, rfl⟩ := Kd.R_slice hr4
  rw [HL65.out] at hr4 ⊢
  have hq4 := Kd.R_reads' hr4
  rw [HL65.out] at hq4
  have HC4 := kept hq4.2.2
  have HD4 := kept hq4.2.1
  have HB4 := kept (HB3.out.trans (hb4.mono HB3.out.size))
  have HB34 := kept hb4
  clear hr4 hb4 hq4
  go_wp2_with fail
  refine (HE.out _ _).mono ?_
  rintro e w5 ⟨rfl, hd5⟩
  have HB5 := kept (HB4.out.trans (hd5.below.mono HB4.out.size))
  have HB45 := kept hd5.below
  clear hd5
  go_wp2_with fail
  refine (HS1.out A4 c4 A2 c2 _ (Kd.C_below HC4.out HB45.out) HD4.out (Kd.C_below HC2.out HB5.out) HD2.out).mono ?_
  rintro e w6 ⟨rfl, hd6⟩
  have HB6 := kept (HB5.out.trans (hd6.below.mono HB5.out.size))
  clear hd6
  go_wp2_with fail
  refine (HG2.out _).mono ?_
  rintro e w7 ⟨v7, rfl, _, hb7⟩
  have HB7 := kept (HB6.out.trans (hb7.mono HB6.out.size))
  clear hb7
  go_wp2_with fail
  rw [bytes_run w7 s]
  simp only [Result.andThen]
  rw [Oper.upon_value]
  have hBs := Bs.fresh w7 s (grownCap w7 s.size 0 5)
  have hbf := below_fresh w7 s (grownCap w7 s.size 0 5) w2.heap.size HB7.out.size
  obtain ⟨g, hg⟩ : ∃ g, g = w7.heap.size := ⟨_, rfl⟩
  rw [← hg] at hBs ⊢
  generalize World.alloc _ _ = w8 at hBs hbf ⊢
  generalize grownCap w7 s.size 0 5 = cap8
  have hgB : w2.heap.size ≤ g := by rw [hg]; exact HB7.out.size
  have hjl : j < s.data.toList.length := by simpa using hjs
  obtain ⟨b, hb⟩ : ∃ b : Nat, b = (s.data.toList.getD j 0).toNat := ⟨_, rfl⟩
  have hb2 : b < 256 := by rw [hb]; exact UInt8.toNat_lt _
  have hcb := hBs.cell j hjl
  have ebj : ((s.data.toList[j]'hjl).toNat : Int) = (b : Int) := by rw [hb, List.getD_eq_getElem?_getD, List.getElem?_eq_getElem hjl]; rfl
  rw [ebj] at hcb
  have hfb := hBs.free j hjl
  obtain ⟨X, hX⟩ : ∃ X, X = b ^^^ by_ := ⟨_, rfl⟩
  have hX2 : X < 2 ^ 8 := by rw [hX]; exact Nat.xor_lt_two_pow hb2 (by omega)
  have hxor : Go.bits .xor .u8 (b : Int) (by_ : Int) = (X : Int) := by rw [hX]; exact u8_xor_nat b by_ hb2 (by omega)
  have hset := hBs.set j hjl (UInt8.ofNat X)
  have eX : ((UInt8.ofNat X).toNat : Int) = (X : Int) := by rw [UInt8.toNat_ofNat', Nat.mod_eq_of_lt hX2]
  rw [eX] at hset
  have htx := hset.text s.size cap8 (by simp)
  have etx : (⟨(s.data.toList.set j (UInt8.ofNat X)).toArray⟩ : ByteArray) = turned s j by_ := by unfold turned; rw [hX, hb]
  rw [etx] at htx
  have HTx := kept htx
  have HB9 := kept ((HB7.out.trans hbf).setCell (p := ⟨g, j, none⟩) hgB (.int .u8 (X : Int)))
  have HB2w := HB2
  clear hBs hbf hg hgB hb ebj hX hX2 hset eX htx etx hjl
  go_wp2_with fail
  rw [HTx.out]
  simp only [Result.andThen]
  rw [Oper.upon_value]
  clear hcb hfb hxor HTx
  generalize World.setCell w8 _ _ = w9 at HB9 ⊢
  go_wp2_with fail
  refine (HG3.out _).mono ?_
  rintro e w10 ⟨v10, rfl, hr10, hb10⟩
  obtain ⟨A10, c10, rfl⟩ := Kd.R_slice hr10
  have hq10 := Kd.R_reads' hr10
  have HC10 := kept hq10.2.2
  have HD10 := kept hq10.2.1
  have HB10 := kept (HB9.out.trans (hb10.mono HB9.out.size))
  have HZz := kept (Below.refl w10.heap.size w10)
  clear hr10 hb10 hq10
  have hby0 : by_ = 0 ∨ (by_ ≠ 0 ∧ e3 ≠ 0) ∨ (by_ ≠ 0 ∧ e3 = 0) := by omega
  rcases hby0 with rfl | ⟨hb0, he0⟩ | ⟨hb0, rfl⟩
  · go_wp2_with (first
      | (go_at_call 14; refine (HE.out _ _).mono ?_; rintro e wz ⟨rfl, hd⟩; have HBy := kept (HB10.out.trans (hd.below.mono HB10.out.size)); clear hd HB10; have HB10 := HBy; clear HBy)
      | (go_at_call 9; refine (HA.out _).mono ?_; rintro e wz ⟨rfl, hd⟩; have HBy := kept (HB10.out.trans (hd.mono HB10.out.size)); clear hd HB10; have HB10 := HBy; clear HBy))
    go_ret
    exact ⟨rfl, HB2w.out.trans (HB10.out.mono HB2w.out.size)⟩
  · have tb : ((by_ : Int) == 0) = false := by rw [beq_eq_false_iff_ne]; omega
    have te : (e3 != 0) = true := by rw [bne_iff_ne]; exact he0
    clear hb0 he0
    go_wp2_with (first
      | (go_at_call 14; refine (HE.out _ _).mono ?_; rintro e wz ⟨rfl, hd⟩; have HBy := kept (HB10.out.trans (hd.below.mono HB10.out.size)); clear hd HB10; have HB10 := HBy; clear HBy)
      | (go_at_call 9; refine (HA.out _).mono ?_; rintro e wz ⟨rfl, hd⟩; have HBy := kept (HB10.out.trans (hd.mono HB10.out.size)); clear hd HB10; have HB10 := HBy; clear HBy))
    go_ret
    exact ⟨rfl, HB2w.out.trans (HB10.out.mono HB2w.out.size)⟩
  · have tb : ((by_ : Int) == 0) = false := by rw [beq_eq_false_iff_ne]; omega
    have hne := HOt.out hb0 rfl
    have hn65 := HLn.out rfl
    obtain ⟨k2, hk2⟩ := (same_is n3 l (by omega)).rounds
    rw [decide_eq_false hne] at hk2
    have hl65 := HL65.out
    have HS2 := kept (fun wx (hb : Below w2.heap.size w2 wx) (hb3 : Below w10.heap.size w10 wx) => wringerref7_SameInts.calls k2 A10 c10 n3 A2 c2 l false wx (Kd.C_below HC10.out hb3) HD10.out (by rw [hl65]; exact Kd.C_below HC2.out hb) (by rw [hl65]; exact HD2.out) hk2)
    rw [hl65, hn65] at HS2
    rw [hn65]
    clear hb0 hne hn65 hk2 hl65
    go_wp2_with (first
      | (go_at_call 14; refine (HE.out _ _).mono ?_; rintro e wz ⟨rfl, hd⟩; have HBy := kept (HB10.out.trans (hd.below.mono HB10.out.size)); have HZy := kept (HZz.out.trans (hd.below.mono HZz.out.size)); clear hd HB10 HZz; have HB10 := HBy; have HZz := HZy; clear HBy HZy)
      | (go_at_call 13; refine (HS2.out _ HB10.out HZz.out).mono ?_; rintro e wz ⟨rfl, hd⟩; have HBy := kept (HB10.out.trans (hd.below.mono HB10.out.size)); clear hd HB10 HZz; have HB10 := HBy; clear HBy)
      | (go_at_call 9; refine (HA.out _).mono ?_; rintro e wz ⟨rfl, hd⟩; have HBy := kept (HB10.out.trans (hd.mono HB10.out.size)); clear hd HB10; have HB10 := HBy; clear HBy))
    go_ret
    exact ⟨rfl, HB2w.out.trans (HB10.out.mono HB2w.out.size)⟩

set_option maxRecDepth 20000 in
set_option maxHeartbeats 2000000 in
theorem big_calls (A0 : Option Addr) (c0 n0 : Nat) (a1 a4 a5 a6 : Int) (s2 s3 : ByteArray) (w : World) (hbig : 140 < n0 ∨ 20 < s2.size ∨ 20 < s3.size) :
    Calls Try.prog 6 #[.slice A0 n0 c0, .int .u8 a1, .string s2, .string s3, .int .u8 a4, .int .u8 a5, .int .u8 a6] w fun e w' => e = .returned (.bool true) ∧ Below w.heap.size w w' := by
  obtain ⟨ka, hka⟩ := awake12.rounds
  have HA := kept (fun wx => wringerlaw12_awake.calls ka true wx hka)
  clear hka
  by_cases h1 : 140 < n0
  · clear hbig
    go_enter Try.func6, Try.ntmps6
    go_wp2_with fail
    refine (HA.out _).mono ?_
    rintro e w1 ⟨rfl, hb⟩
    go_wp2_with fail
    go_ret
    exact ⟨rfl, hb⟩
  · by_cases h2 : 20 < s2.size
    · clear hbig
      go_enter Try.func6, Try.ntmps6
      go_wp2_with fail
      refine (HA.out _).mono ?_
      rintro e w1 ⟨rfl, hb⟩
      go_wp2_with fail
      go_ret
      exact ⟨rfl, hb⟩
    · have h3 : 20 < s3.size := by omega
      clear hbig
      go_enter Try.func6, Try.ntmps6
      go_wp2_with fail
      refine (HA.out _).mono ?_
      rintro e w1 ⟨rfl, hb⟩
      go_wp2_with fail
      go_ret
      exact ⟨rfl, hb⟩

theorem NormBack_walk (a0 : Option Addr) (len0 cap0 : Nat) (z0 : List Int) (a1 : Int) (a2 a3 : ByteArray) (a4 a5 a6 : Int) (w : World)
    (w0 : _root_.Go.Proofs.Ytbldocbijihpgaa.Own.Arg .u16 w a0 len0 cap0 z0) (y0 : len0 * 2 ≤ 140737488351232) (w1 : (Lit.int .u8 a1).wf = true) (w2 : a2.size ≤ 140737488351232) (w3 : a3.size ≤ 140737488351232) (w4 : (Lit.int .u8 a4).wf = true) (w5 : (Lit.int .u8 a5).wf = true) (w6 : (Lit.int .u8 a6).wf = true) :
    Calls Try.prog 6 #[.slice a0 len0 cap0, .int .u8 a1, .string a2, .string a3, .int .u8 a4, .int .u8 a5, .int .u8 a6] w fun e w' => e = .returned (.bool true) ∧ Below w.heap.size w w' := by
  obtain ⟨l0, rfl, hr0, hm0, hw0, hc0⟩ := ReadsInt.ofRowC w0
  by_cases hbig : 140 < l0.length ∨ 20 < a2.size ∨ 20 < a3.size
  · exact big_calls a0 cap0 l0.length a1 a4 a5 a6 a2 a3 w hbig
  · obtain ⟨t, rfl, ht⟩ := u8_atN w1
    obtain ⟨cu, rfl, hcu⟩ := u8_atN w4
    obtain ⟨at_, rfl, hat⟩ := u8_atN w5
    obtain ⟨by_, rfl, hby⟩ := u8_atN w6
    exact back_calls a0 cap0 l0 t a2 a3 cu at_ by_ w (Kd.C_of_reads (d := (0 : Int)) (h1 := fun _ => rfl) hr0) hc0 hw0 ht hcu hat hby (by omega) (by omega) (by omega)
end Go.Proofs.Ytbldocbijihpgaa

-- ---- LawNormBack
/- The law NormBack holds of the program, for every input; each argument reads behind the call as it read before. Conditions: none. -/
namespace Go.Proofs.Ytbldocbijihpgaa.normBack
open Go.ChangeShapes Go.WideShapes Go.ChangeAt Go.RowKit
open Go.ChangeMaps (open_string shut_string)
set_option linter.unusedVariables false
theorem own : ownKnob Try.prog.godebug = none := by kernel_rfl
theorem laidOut : laidOutB Try.prog = true := by kernel_rfl
set_option maxRecDepth 100000 in
theorem lifted (os : Os) (started : os.Started) (H : Type) (enc : TypeId × Value → H) :
    ReturnsInHanded {} Try.checked os 6 .any (Rows.normBackSpec.pre6 enc Try.prog Try.f6 Rows.normBackRow.domain false) (Rows.normBackSpec.post enc Try.prog Try.f6 false true false false) := by
  refine returnsInHanded_of_change_sized (C := Try.checked) own started (by kernel_rfl) Try.func6
    (ChangeSpec.witness6 (enc := enc) (C := Try.checked) false ⟨#[], #[.slice none 0 0, .int .u8 0, .string ByteArray.empty, .string ByteArray.empty, .int .u8 0, .int .u8 0, .int .u8 0], []⟩ 8 (by kernel_rfl) (by kernel_rfl) (by kernel_rfl) (by kernel_rfl)) ?_
  intro W base args ds gs before hval0 hW hcnd hsz0 _
  have hsz : (DataW.weightsEach Try.prog (Try.f6.params.toList ++ Rows.normBackSpec.plain.varTypes Try.prog) (ds ++ gs)).all (· ≤ reachBytes) = true := hsz0
  have hval : ∀ (j : Nat) t v, Try.f6.params[j]? = some t → args[j]? = some v → Value.okWide Try.prog W .any base t v := hval0
  have hW' := hW
  obtain ⟨p, q, hA0, hV, rfl, hfz, hnd⟩ := hW
  have hA : DataW.TrodAll enc Try.prog W 0 (fun _ => true) true Try.f6.params.toList args.toList ds p := hA0
  rw [Try.params6] at hA hval hsz
  obtain ⟨v0, vs0, d0, ds0, p0, q0, hargs, rfl, rfl, h0, r0⟩ := trodAll_cons hA
  obtain ⟨v1, vs1, d1, ds1, p1, q1, rfl, rfl, rfl, h1, r1⟩ := trodAll_cons r0
  obtain ⟨v2, vs2, d2, ds2, p2, q2, rfl, rfl, rfl, h2, r2⟩ := trodAll_cons r1
  obtain ⟨v3, vs3, d3, ds3, p3, q3, rfl, rfl, rfl, h3, r3⟩ := trodAll_cons r2
  obtain ⟨v4, vs4, d4, ds4, p4, q4, rfl, rfl, rfl, h4, r4⟩ := trodAll_cons r3
  obtain ⟨v5, vs5, d5, ds5, p5, q5, rfl, rfl, rfl, h5, r5⟩ := trodAll_cons r4
  obtain ⟨v6, vs6, d6, ds6, p6, q6, rfl, rfl, rfl, h6, r6⟩ := trodAll_cons r5
  obtain ⟨rfl, rfl, rfl⟩ := trodAll_nil r6
  obtain rfl : args = #[v0, v1, v2, v3, v4, v5, v6] := by cases args; simp_all
  obtain ⟨rfl, rfl⟩ := trodVars_none hV
  obtain ⟨a0, len0, cap0, rfl⟩ := okWide_slice Try.underlying22 (hval 0 22 v0 rfl rfl)
  have k0 := h0
  have lt0 : ∀ x ∈ p0, x.block < W.heap.size := by obtain ⟨m, hm⟩ := k0; exact DataW.trod_lt m _ _ _ hm
  obtain ⟨z0, w0⟩ : ∃ zs, Own.Arg .u16 W a0 len0 cap0 zs := by
    obtain ⟨fuel, hf⟩ := h0
    rcases open_ints Try.underlying22 Try.underlying36 (by kernel_rfl) hf with ⟨hcs, _⟩ | ⟨x, l, c, zs, hcs, _, hl, hm, hz, _, hcell, hwz⟩
    · simp [Value.cells] at hcs
      obtain ⟨rfl, rfl, rfl⟩ := hcs
      exact ⟨[], .inl ⟨rfl, rfl, rfl, rfl⟩⟩
    · simp [Value.cells] at hcs
      obtain ⟨rfl, rfl, rfl⟩ := hcs
      exact ⟨zs, .inr ⟨_, rfl, hl, hm, by simpa using hz, hcell, hwz⟩⟩
  have y0 : len0 * 2 ≤ 140737488351232 := Own.sized_ints hsz (j := 0) (t := 22) rfl rfl Try.underlying22 Try.underlying36 (by kernel_rfl) (by kernel_rfl) h0
  obtain ⟨a1, rfl, rfl, rfl, w1⟩ := open_int Try.underlying5 (hval 1 5 v1 rfl rfl) h1
  obtain ⟨a2, rfl, rfl, rfl, y2⟩ := open_string Try.underlying9 (hval 2 9 v2 rfl rfl) h2
  have w2 : a2.size ≤ 140737488351232 := by
    have z := sized_string hsz (j := 2) (t := 9) rfl rfl
    rw [Array.length_toList] at z
    exact z
  obtain ⟨a3, rfl, rfl, rfl, y3⟩ := open_string Try.underlying9 (hval 3 9 v3 rfl rfl) h3
  have w3 : a3.size ≤ 140737488351232 := by
    have z := sized_string hsz (j := 3) (t := 9) rfl rfl
    rw [Array.length_toList] at z
    exact z
  obtain ⟨a4, rfl, rfl, rfl, w4⟩ := open_int Try.underlying5 (hval 4 5 v4 rfl rfl) h4
  obtain ⟨a5, rfl, rfl, rfl, w5⟩ := open_int Try.underlying5 (hval 5 5 v5 rfl rfl) h5
  obtain ⟨a6, rfl, rfl, rfl, w6⟩ := open_int Try.underlying5 (hval 6 5 v6 rfl rfl) h6
  clear hA0 hval0 hsz0 hsz
  refine (NormBack_walk a0 len0 cap0 z0 a1 a2 a3 a4 a5 a6 W w0 y0 w1 w2 w3 w4 w5 w6).mono fun e W' ⟨he, bel⟩ => ?_
  subst he
  exact ⟨_, rfl, _, _, _, [], _, [], hW', trodAll_mk1 (shut_bool Try.underlying4 _), (trodAll_cons_mk (Below.trod laidOut (by kernel_rfl) (of_decide_eq_true (by kernel_rfl)) k0 bel lt0) (trodAll_cons_mk (shut_int Try.underlying5 w1) (trodAll_cons_mk (shut_string Try.underlying9 y2) (trodAll_cons_mk (shut_string Try.underlying9 y3) (trodAll_cons_mk (shut_int Try.underlying5 w4) (trodAll_cons_mk (shut_int Try.underlying5 w5) (trodAll_cons_mk (shut_int Try.underlying5 w6) trodAll_mk0))))))), rfl, bel.frame _, fun h => by cases h⟩
theorem over : Rows.normBackRow.holds Try.pinned (OpenSpec.ofChange Rows.normBackSpec) :=
  OpenClaim.holds_of_wide 6 Try.f6 rfl rfl rfl rfl rfl rfl rfl ⟨rfl, rfl, rfl, rfl, rfl⟩ rfl rfl rfl rfl rfl (by kernel_rfl) Try.func6 (by kernel_rfl)
    (of_decide_eq_true (by kernel_rfl)) (by unfold Func.isWrapper; first | (rw [if_pos (by decide +kernel)]; kernel_rfl) | (rw [if_neg (by decide +kernel)]; exact ⟨rfl, rfl⟩))
    (fun os started H enc _ => lifted os started H enc)
theorem proved : Rows.NormBackSaid := over
#print axioms proved
end Go.Proofs.Ytbldocbijihpgaa.normBack
namespace Go.Proofs.Ytbldocbijihpgaa
/-- The row, under a short name. -/
theorem normBack_holds : Rows.NormBackSaid := normBack.proved
end Go.Proofs.Ytbldocbijihpgaa
