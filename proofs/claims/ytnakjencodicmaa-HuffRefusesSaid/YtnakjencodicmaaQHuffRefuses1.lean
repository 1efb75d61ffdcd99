/- Part HuffRefuses1 of what the layer's laws stand on: HuffRefuses, LawHuffRefuses. Written by a program (merge.py) out of this session's own texts and of what the kit's print wrote over stand-ins (sp.py). Conditions: those that each theorem names. -/
import Derived.Test.YtnakjencodicmaaQB3
import Derived.Test.YtnakjencodicmaaQB2
import Derived.Test.YtnakjencodicmaaQB1
import Derived.Test.YtnakjencodicmaaRows
import Derived.WalkKit
import Derived.ProofKit
import Derived.OpenShut
import Derived.ShutString
import Derived.ChangeOld
import Derived.Below
import Derived.SizedLaws
-- ---- HuffRefuses
/- HuffRefuses: what may not be asked is told so: what the call answers for every input. Conditions: the numbers are of their kinds. -/
namespace Go.Proofs.Ytnakjencodicmaa
set_option maxRecDepth 100000
set_option linter.unusedSimpArgs false
set_option linter.unusedVariables false
open Go.RowKit Go.Proofs.YtnakjencodicmaaW.PrintWords Go.Proofs.YtnakjencodicmaaW.PrintLast Go.Proofs.YtnakjencodicmaaW.PrintMore Mix _root_.Go.Proofs.Ytnakjencodicmaa.Own PA Bits Hu Dp
attribute [local go_sem] _root_.Go.Proofs.Ytnakjencodicmaa.Own.max_int _root_.Go.Proofs.Ytnakjencodicmaa.Own.min_int

theorem intsSetR (l : List Int) (i : Nat) (v : Int) : ints .i64 (l.set i v) = (ints .i64 l).set i (.int .i64 v) := by simp [ints, List.map_set]
theorem infoIntR : (Try.prog.info? 3).map (fun i => (i.zero, i.size, i.bytes)) = some (some (.int .i64 0), 1, 8) := by kernel_rfl
def knownL : List Int := (((List.replicate 65 (0 : Int)).set 0 1).set 1 2).set 3 2
def oneL : List Int := (List.replicate 65 (0 : Int)).set 5 1
def zeroL : List Int := List.replicate 65 0
theorem known_may : mayL knownL = true := by decide +kernel
theorem bad_may : ∀ x : Fin 15, mayL (knownL.set 9 ((x.val : Int) + 1)) = false := by decide +kernel
theorem one_may : mayL oneL = true := by decide +kernel
theorem zero_may : mayL zeroL = true := by decide +kernel
theorem one_sm : sm oneL < 2 := by decide +kernel
theorem zero_sm : sm zeroL < 2 := by decide +kernel
theorem one_get : getE oneL ⟨#[1]⟩ 1 = ([], 3) := by decide +kernel
theorem zero_get : getE zeroL ⟨#[0]⟩ 1 = ([], 3) := by decide +kernel
theorem known_none : ∀ x : Fin 65, x.val ≠ 0 → x.val ≠ 1 → x.val ≠ 3 → knownL.getD x.val 0 = 0 := by decide +kernel
theorem known_put (k : Int) (h0 : k ≠ 0) (h1 : k ≠ 1) (h3 : k ≠ 3) : putE knownL [(0, 0), (k, 0)] = (⟨#[]⟩, 1) := by
  have hb : okP knownL (k, 0) = false := by
    unfold okP
    cases hm : Zig.may k 0 with
    | false => rfl
    | true =>
      unfold Zig.may at hm
      rw [Bool.and_eq_true, decide_eq_true_eq] at hm
      obtain ⟨⟨h4, h5⟩, _⟩ := hm
      have h := known_none ⟨k.toNat, by omega⟩ (by show k.toNat ≠ 0; omega) (by show k.toNat ≠ 1; omega) (by show k.toNat ≠ 3; omega)
      simp only at h
      simp only [h]; rfl
  unfold putE
  rw [if_pos known_may, if_neg]
  intro hall
  have := List.all_eq_true.1 hall (k, 0) (by simp)
  rw [hb] at this; cases this
theorem known_rest : putE knownL [(1, 1)] = (⟨#[]⟩, 1) := by decide +kernel
theorem u8_atR {a : Int} (h : (Lit.int .u8 a).wf = true) : ∃ v : Nat, a = (v : Int) ∧ v ≤ 255 := by
  simp only [Lit.wf, Bool.and_eq_true, decide_eq_true_eq] at h
  have h1 : IntKind.u8.min = 0 := rfl
  have h2 : IntKind.u8.max = 255 := rfl
  exact ⟨a.toNat, by omega, by omega⟩
theorem own_capR {w : World} {e : TypeId} {a : Option Addr} {n c : Nat} {xs : List Value} (h : Owns w e (.slice a n c) xs) : n ≤ c := by
  rcases h.form with ⟨hv, _⟩ | ⟨g, cap, cur, hv, _, h3, _⟩
  · simp only [Value.slice.injEq] at hv; omega
  · simp only [Value.slice.injEq] at hv; omega
/-- A list of lengths that a call owns. -/
def Has (w : World) (g c : Nat) (L : List Int) : Prop := L.length = 65 ∧ Owns w 3 (.slice (some ⟨g, 0, none⟩) 65 c) (ints .i64 L)
theorem Has.later {w w' : World} {g c : Nat} {L : List Int} (h : Has w g c L) (hb : Below w.heap.size w w') : Has w' g c L := ⟨h.1, h.2.keep fun k _ hl => hb.block k hl⟩
theorem Has.C {w : World} {g c : Nat} {L : List Int} (h : Has w g c L) : Kd.C (Kd.int .i64) w (some ⟨g, 0, none⟩) L.length L := by rw [h.1]; exact C_of_rd h.2.rd
theorem Has.cap {w : World} {g c : Nat} {L : List Int} (h : Has w g c L) : L.length ≤ c := by rw [h.1]; exact own_capR h.2
theorem get_refused {w : World} {g c : Nat} {L : List Int} {s : ByteArray} {n : Int} {er : Int} (h : Has w g c L) (hm : mayL L = false ∨ (mayL L = true ∧ (n < 0 ∨ 4096 < n)) ∨ (mayL L = true ∧ sm L < 2 ∧ n = 1)) (hs : s.size ≤ 1000000000) (he : (getE L s n).2 = er) :
    Calls Try.prog 12 #[.string s, .int .i64 n, .slice (some ⟨g, 0, none⟩) 65 c] w fun e w' => ∃ a k cp, e = .returned (.tuple #[.slice a k cp, .int .i64 er]) ∧ Below w.heap.size w w' := by
  have key : Calls Try.prog 12 #[.string s, .int .i64 n, .slice (some ⟨g, 0, none⟩) L.length c] w (GetPost L s n w) := by
    rcases hm with hm | ⟨hm, hn⟩ | ⟨hm, hsm, rfl⟩
    · exact hget_form _ c L s n w h.C h.cap hm
    · exact hget_arg _ c L s n w h.C h.cap hm hn
    · exact hget_only _ c L s 1 w h.C h.cap hm (by decide) (by omega) hsm
  rw [h.1] at key
  refine key.mono ?_
  rintro e w' ⟨v, rfl, ho, _, hb⟩
  obtain ⟨a, cp, rfl, _⟩ := ho.slice
  rw [he]
  exact ⟨_, _, _, rfl, hb⟩
theorem put_refused {w : World} {g c n0 c0 : Nat} {A0 : Option Addr} {L : List Int} {ps : List (Int × Nat)} {s : ByteArray} {er : Int} (h : Has w g c L) (hr : mayL L = true → RdQ w A0 n0 ps) (hn : n0 ≤ 1000000) (he : putE L ps = (s, er)) :
    Calls Try.prog 10 #[.slice A0 n0 c0, .slice (some ⟨g, 0, none⟩) 65 c] w fun e w' => e = .returned (.tuple #[.string s, .int .i64 er]) ∧ Below w.heap.size w w' := by
  have key : Calls Try.prog 10 #[.slice A0 n0 c0, .slice (some ⟨g, 0, none⟩) L.length c] w fun e w' => e = .returned (.tuple #[.string (putE L ps).1, .int .i64 (putE L ps).2]) ∧ Below w.heap.size w w' := by
    cases hm : mayL L with
    | false => exact hput_form _ n0 c0 _ c L ps w h.C h.cap hm
    | true => exact hput_calls _ n0 c0 _ c L ps w (hr hm) h.C h.cap hm hn
  rw [h.1, he] at key
  exact key

theorem put_bad {L : List Int} (h : mayL L = false) : putE L [] = (⟨#[]⟩, 3) := by unfold putE; rw [h]; rfl
theorem get_bad {L : List Int} {s : ByteArray} {n : Int} (h : mayL L = false) : (getE L s n).2 = 3 := by unfold getE; rw [h]; rfl
theorem get_out {L : List Int} {s : ByteArray} {n : Int} (h : mayL L = true) (hn : n < 0 ∨ 4096 < n) : (getE L s n).2 = 1 := by
  unfold getE; simp [h]; split
  · rfl
  · omega
theorem rep65 : List.replicate 65 (Value.int .i64 0) = ints .i64 (List.replicate 65 0) := by unfold ints; rw [List.map_replicate]
theorem put_known2 {w : World} {g c : Nat} {k : Int} {t : TypeId} (h : Has w g c knownL) (h0 : k ≠ 0) (h1 : k ≠ 1) (h3 : k ≠ 3) (hkl : -9223372036854775808 ≤ k) (hkh : k ≤ 9223372036854775807) :
    Calls Try.prog 10 #[.slice (some ⟨w.heap.size, 0, none⟩) 2 2, .slice (some ⟨g, 0, none⟩) 65 c] (w.alloc (.cells #[.int .i64 0, .int .u64 0, .int .i64 k, .int .u64 0] t)) fun e w' => e = .returned (.tuple #[.string ⟨#[]⟩, .int .i64 1]) ∧ Below w.heap.size w w' := by
  have hal : Below w.heap.size w (w.alloc (.cells #[.int .i64 0, .int .u64 0, .int .i64 k, .int .u64 0] t)) := (Below.refl _ _).alloc (Nat.le_refl _) _
  have hB := Blk.fresh w #[.int .i64 0, .int .u64 0, .int .i64 k, .int .u64 0] t
  refine (put_refused (h.later hal) (fun _ => (⟨rfl, fun _ => ⟨_, rfl, ?_⟩, ?_⟩ : RdQ _ _ 2 [(0, 0), (k, 0)])) (by decide) (known_put k h0 h1 h3)).mono ?_
  · intro i p hp
    match i, hp with
    | 0, hp => cases hp; exact ⟨hB.cell rfl, hB.cell rfl⟩
    | 1, hp => cases hp; exact ⟨hB.cell rfl, hB.cell rfl⟩
    | i + 2, hp => cases hp
  · intro p hp
    simp only [List.mem_cons, List.not_mem_nil, or_false] at hp
    rcases hp with rfl | rfl
    · decide
    · exact ⟨hkl, hkh, show (0 : Nat) < 18446744073709551616 by decide⟩
  · rintro e w' ⟨rfl, hb⟩
    exact ⟨rfl, hal.trans (hb.mono hal.size)⟩
theorem put_known1 {w : World} {g c : Nat} {t : TypeId} (h : Has w g c knownL) :
    Calls Try.prog 10 #[.slice (some ⟨w.heap.size, 0, none⟩) 1 1, .slice (some ⟨g, 0, none⟩) 65 c] (w.alloc (.cells #[.int .i64 1, .int .u64 1] t)) fun e w' => e = .returned (.tuple #[.string ⟨#[]⟩, .int .i64 1]) ∧ Below w.heap.size w w' := by
  have hal : Below w.heap.size w (w.alloc (.cells #[.int .i64 1, .int .u64 1] t)) := (Below.refl _ _).alloc (Nat.le_refl _) _
  have hB := Blk.fresh w #[.int .i64 1, .int .u64 1] t
  refine (put_refused (h.later hal) (fun _ => (⟨rfl, fun _ => ⟨_, rfl, ?_⟩, ?_⟩ : RdQ _ _ 1 [(1, 1)])) (by decide) known_rest).mono ?_
  · intro i p hp
    match i, hp with
    | 0, hp => cases hp; exact ⟨hB.cell rfl, hB.cell rfl⟩
    | i + 1, hp => cases hp
  · intro p hp
    simp only [List.mem_cons, List.not_mem_nil, or_false] at hp
    subst hp
    decide
  · rintro e w' ⟨rfl, hb⟩
    exact ⟨rfl, hal.trans (hb.mono hal.size)⟩

set_option maxHeartbeats 16000000 in
theorem refuses_calls (v : Nat) (a1 a2 : Int) (w : World) (hv : v ≤ 255) (w2l : -9223372036854775808 ≤ a2) (w2h : a2 ≤ 9223372036854775807) (kk : Int) (hk0 : kk ≠ 0) (hk1 : kk ≠ 1) (hk3 : kk ≠ 3)
    (hkl : -9223372036854775808 ≤ kk) (hkh : kk ≤ 9223372036854775807) (hcase : (kk = a1) ∨ (kk = 2 ∧ (a1 = 0 ∨ a1 = 1 ∨ a1 = 3))) :
    Calls Try.prog 8 #[.int .u8 (v : Int), .int .i64 a1, .int .i64 a2] w fun e w' => e = .returned (.bool true) ∧ Below w.heap.size w w' := by
  obtain ⟨i0, hi, hz0, hz1, hz2⟩ := CanonH.info_partsE infoIntR
  obtain ⟨ka, hka⟩ := awake11.rounds
  have HA := kept (fun wx => wringerlaw11_awake.calls ka true wx hka)
  have HE := kept (fun x wx => wringerlaw1_Err.calls x x wx rfl)
  have HKn := kept (fun wx => wringerlaw11_known.calls knownL wx (by kernel_rfl))
  obtain ⟨b, hb⟩ : ∃ b, b = v % 15 := ⟨_, rfl⟩
  have evb : (v : Int) % 15 = (b : Int) := by omega
  have hb15 : b < 15 := by omega
  have hbm : mayL (knownL.set 9 ((b : Int) + 1)) = false := bad_may ⟨b, hb15⟩
  obtain ⟨bad, hbad⟩ : ∃ bad, bad = knownL.set 9 ((b : Int) + 1) := ⟨_, rfl⟩
  rw [← hbad] at hbm
  obtain ⟨nm, hnm⟩ : ∃ nm, Own.mn a2 (-1) = nm := ⟨_, rfl⟩
  obtain ⟨nx, hnx⟩ : ∃ nx, Own.mx a2 4097 = nx := ⟨_, rfl⟩
  have hnm0 : nm < 0 := by rw [← hnm, Own.mn_eq]; omega
  have hnx0 : 4096 < nx := by rw [← hnx, Own.mx_eq]; omega
  have hlk : knownL.length = 65 := by decide
  have HLk := kept hlk
  have HBm := kept hbm
  have HBad := kept hbad
  clear hka hb hbm hbad hlk
  go_enter Try.func8, Try.ntmps8
  go_wp2_with fail
  refine (HKn.out _).mono ?_
  rintro e w1 ⟨vk, rfl, hr1, hb1⟩
  obtain ⟨ho1, hn1⟩ := Own.owns_of_R hr1
  obtain ⟨ak, ck, rfl, hak⟩ := ho1.slice
  rw [length_ints, HLk.out] at ho1 ⊢
  obtain ⟨gk, rfl⟩ := hak (by intro e; have := congrArg List.length e; rw [length_ints, HLk.out] at this; simp at this)
  have HK1 : Own.Kept (Has w1 gk ck knownL) := kept ⟨HLk.out, ho1⟩
  have HB1 := kept hb1
  clear hr1 ho1 hn1 hb1 hak
  have hO3 : Owns (w1.alloc (.cells #[] 3)) 3 (.slice (some ⟨w1.heap.size, 0, none⟩) 0 0) [] :=
    Owns.mk (xs := []) (Blk.fresh _ _ _) (Nat.le_refl _) (by simp [maxLen]) rfl rfl
  have HO3 := kept hO3
  have hnews : ∀ j u, (ints .i64 knownL)[j]? = some u → (w1.alloc (.cells #[] 3)).cell? ((⟨gk, 0, none⟩ : Addr).add j) = some u := fun j u hu => by
    have := (HK1.out.later ((Below.refl _ _).alloc (Nat.le_refl _) (.cells #[] 3))).2.cell hu
    rw [show (⟨gk, 0, none⟩ : Addr).add j = ⟨gk, j, none⟩ from by unfold Addr.add; split <;> simp_all]
    exact this
  have HNews := kept hnews
  have HL0 : Own.Kept ((ints .i64 knownL).length = 65) := kept (by rw [length_ints]; exact HLk.out)
  clear hO3 hnews
  go_wp2_with (first | (at_builtin; refine wpList_app rfl _ _ 23 rfl 3 i0 (.int .i64 0) 8 Try.underlying23 hi hz0 hz1 hz2 rfl _ _ rfl HO3.out ⟨gk, 0, none⟩ _ _ _ rfl HL0.out HNews.out ?_ ?_ ?_ ?_) | fail)
  · intro u hu; obtain ⟨n, _, rfl⟩ := List.mem_map.1 hu; rfl
  · simp [maxLen]
  · simp
  intro v3 w3 O3 C3 F3
  obtain ⟨a3, c3, rfl, hg3⟩ := O3.slice
  rw [HL0.out] at O3 F3 ⊢
  obtain ⟨gb, rfl⟩ := hg3 (fun e => by have := HL0.out; rw [e] at this; simp at this)
  clear hg3
  have hgb : w1.heap.size ≤ gb := by
    rcases F3 gb rfl with h | h
    · simp [Value.ownBlock] at h; omega
    · first | omega | (simp at h; omega)
  have hb13 : Below w1.heap.size w1 w3 := (((Chg.alloc (fun _ => False) w1 _).trans C3 (fun b hb h => by simp [Value.ownBlock] at h; omega)) : Chg (fun _ => False) w1 w3).below (Nat.le_refl _) (fun _ _ h => h)
  have HK3 := kept (HK1.out.later hb13)
  have HB3 := kept (HB1.out.trans (hb13.mono HB1.out.size))
  have k3 := O3.cell (j := 9) (Own.ints_at .i64 knownL 9 (by decide))
  have f3 := O3.free 9
  have ho4 := O3.store 9 (.int .i64 ((b : Int) + 1))
  rw [← intsSetR, ← HBad.out] at ho4
  have hkb : gk < w1.heap.size := HK1.out.2.lt gk rfl
  have HBd4 : Own.Kept (Has (w3.setCell ⟨gb, 9, none⟩ (.int .i64 ((b : Int) + 1))) gb c3 bad) := kept ⟨by rw [HBad.out, List.length_set]; exact HLk.out, ho4⟩
  have HK4 : Own.Kept (Has (w3.setCell ⟨gb, 9, none⟩ (.int .i64 ((b : Int) + 1))) gk ck knownL) := kept ⟨HLk.out, HK3.out.2.setOther (a := ⟨gb, 9, none⟩) (by simp [Value.ownBlock]; omega) _⟩
  have HB4 := kept (HB3.out.setCell (p := ⟨gb, 9, none⟩) (show w.heap.size ≤ gb by have := HB1.out.size; omega) (.int .i64 ((b : Int) + 1)))
  have eadd : (1 : Int) + (b : Int) = (b : Int) + 1 := by omega
  clear O3 C3 F3 hgb hb13 ho4 HNews HL0 HO3 HK3 HB3 hkb
  go_upto_region 4 with fail
  try rw [eadd]
  clear k3 f3 eadd
  generalize World.setCell w3 _ _ = w4 at HBd4 HK4 HB4 ⊢
  go_upto_region 5 with fail
  have e0 : (kk == 0) = false := by simp [hk0]
  have e1 : (kk == 1) = false := by simp [hk1]
  have e3 : (kk == 3) = false := by simp [hk3]
  rcases hcase with h | ⟨rfl, h | h | h⟩
  all_goals subst h
  all_goals (
    go_upto_region 7 with fail
    clear e0 e1 e3
    go_wp2_with fail
    refine (put_refused (A0 := none) (n0 := 0) (c0 := 0) (ps := []) HBd4.out (fun h => by rw [HBm.out] at h; cases h) (by decide) (put_bad HBm.out)).mono ?_
    rintro e w5 ⟨rfl, hb5⟩
    have HB5 := kept (HB4.out.trans (hb5.mono HB4.out.size))
    have HBd5 := kept (HBd4.out.later hb5)
    have HK5 := kept (HK4.out.later hb5)
    clear hb5 HB4 HBd4 HK4
    go_wp2_with fail
    refine (put_known2 HK5.out hk0 hk1 hk3 hkl hkh).mono ?_
    rintro e w6 ⟨rfl, hb6⟩
    have HB6 := kept (HB5.out.trans (hb6.mono HB5.out.size))
    have HBd6 := kept (HBd5.out.later hb6)
    have HK6 := kept (HK5.out.later hb6)
    clear hb6 HB5 HBd5 HK5
    go_wp2_with fail
    refine (get_refused HBd6.out (.inl HBm.out) (by decide) (get_bad HBm.out)).mono ?_
    rintro e w7 ⟨_, _, _, rfl, hb7⟩
    have HB7 := kept (HB6.out.trans (hb7.mono HB6.out.size))
    have HK7 := kept (HK6.out.later hb7)
    clear hb7 HB6 HBd6 HK6
    go_wp2_with fail
    try rw [hnm]
    refine (get_refused HK7.out (.inr (.inl ⟨known_may, .inl hnm0⟩)) (by decide) (get_out known_may (.inl hnm0))).mono ?_
    rintro e w8 ⟨_, _, _, rfl, hb8⟩
    have HB8 := kept (HB7.out.trans (hb8.mono HB7.out.size))
    have HK8 := kept (HK7.out.later hb8)
    clear hb8 HB7 HK7
    go_wp2_with fail
    try rw [hnx]
    refine (get_refused HK8.out (.inr (.inl ⟨known_may, .inr hnx0⟩)) (by decide) (get_out known_may (.inr hnx0))).mono ?_
    rintro e w9 ⟨_, _, _, rfl, hb9⟩
    have HB9 := kept (HB8.out.trans (hb9.mono HB8.out.size))
    have HK9 := kept (HK8.out.later hb9)
    clear hb9 HB8 HK8
    go_wp2_with fail
    refine (put_known1 HK9.out).mono ?_
    rintro e w10 ⟨rfl, hb10⟩
    have HB10 := kept (HB9.out.trans (hb10.mono HB9.out.size))
    clear hb10 HB9 HK9
    go_wp2_with (first | (refine wpList_mk1 rfl _ _ 23 rfl 3 i0 (.int .i64 0) 8 Try.underlying23 hi hz0 hz1 hz2 rfl .i64 .i64 _ _ 65 rfl rfl rfl rfl (by decide) (by decide) ?_))
    intro wa hO hbm2 hlt
    replace hO : Owns wa 3 (.slice (some ⟨w10.heap.size, 0, none⟩) 65 65) (ints .i64 (List.replicate 65 0)) := hO
    have k11 := hO.cell (j := 5) (Own.ints_at .i64 _ 5 (by decide))
    have f11 := hO.free 5
    have hO2 := hO.store 5 (.int .i64 1)
    rw [← intsSetR] at hO2
    obtain ⟨g1, hg1⟩ : ∃ g, g = w10.heap.size := ⟨_, rfl⟩
    rw [← hg1] at hO2 k11 f11 ⊢
    have H1 : Own.Kept (Has (wa.setCell ⟨g1, 5, none⟩ (.int .i64 1)) g1 65 oneL) := kept ⟨by decide, hO2⟩
    have HB11 := kept (HB10.out.trans ((hbm2.setCell (p := ⟨g1, 5, none⟩) (Nat.le_of_eq hg1.symm) (.int .i64 1)).mono HB10.out.size))
    clear hO hO2 hbm2 hlt hg1 HB10
    go_wp2_with fail
    generalize World.setCell wa _ _ = w11 at H1 HB11 ⊢
    refine (get_refused H1.out (.inr (.inr ⟨one_may, one_sm, rfl⟩)) (by decide) (congrArg Prod.snd one_get)).mono ?_
    rintro e w12 ⟨_, _, _, rfl, hb12⟩
    have HB12 := kept (HB11.out.trans (hb12.mono HB11.out.size))
    clear hb12 HB11 H1 k11 f11
    go_wp2_with (first | (refine wpList_mk1 rfl _ _ 23 rfl 3 i0 (.int .i64 0) 8 Try.underlying23 hi hz0 hz1 hz2 rfl .i64 .i64 _ _ 65 rfl rfl rfl rfl (by decide) (by decide) ?_))
    intro wz hO hbz hlt
    replace hO : Owns wz 3 (.slice (some ⟨w12.heap.size, 0, none⟩) 65 65) (ints .i64 (List.replicate 65 0)) := hO
    have HZ : Own.Kept (Has wz w12.heap.size 65 zeroL) := kept ⟨by decide, hO⟩
    have HB13 := kept (HB12.out.trans (hbz.mono HB12.out.size))
    clear hO hbz hlt HB12
    go_wp2_with fail
    refine (get_refused HZ.out (.inr (.inr ⟨zero_may, zero_sm, rfl⟩)) (by decide) (congrArg Prod.snd zero_get)).mono ?_
    rintro e w14 ⟨_, _, _, rfl, hb14⟩
    have HB14 := kept (HB13.out.trans (hb14.mono HB13.out.size))
    clear hb14 HB13 HZ
    have HBz := HB14
    clear HB14
    go_wp2_with (first
        | (go_at_call 14; refine (HE.out _ _).mono ?_; rintro e wz ⟨rfl, hd⟩; have HBy := kept (HBz.out.trans (hd.below.mono HBz.out.size)); clear hd HBz; have HBz := HBy; clear HBy)
        | (go_at_call 9; refine (HA.out _).mono ?_; rintro e wz ⟨rfl, hd⟩; have HBy := kept (HBz.out.trans (hd.mono HBz.out.size)); clear hd HBz; have HBz := HBy; clear HBy))
    go_ret
    exact ⟨rfl, HBz.out⟩)
theorem HuffRefuses_walk (a0 a1 a2 : Int) (w : World) (h0 : (Lit.int .u8 a0).wf = true) (h1 : (Lit.int .i64 a1).wf = true) (h2 : (Lit.int .i64 a2).wf = true) :
    Calls Try.prog 8 #[.int .u8 a0, .int .i64 a1, .int .i64 a2] w fun e w' => e = .returned (.bool true) ∧ Below w.heap.size w w' := by
  obtain ⟨v, rfl, hv⟩ := u8_atR h0
  simp only [Lit.wf, Bool.and_eq_true, decide_eq_true_eq] at h1 h2
  have e1 : IntKind.i64.min = -9223372036854775808 := rfl
  have e2 : IntKind.i64.max = 9223372036854775807 := rfl
  rw [e1, e2] at h1 h2
  by_cases hc : a1 = 0 ∨ a1 = 1 ∨ a1 = 3
  · exact refuses_calls v a1 a2 w hv h2.1 h2.2 2 (by decide) (by decide) (by decide) (by decide) (by decide) (.inr ⟨rfl, hc⟩)
  · exact refuses_calls v a1 a2 w hv h2.1 h2.2 a1 (fun h => hc (.inl h)) (fun h => hc (.inr (.inl h))) (fun h => hc (.inr (.inr h))) h1.1 h1.2 (.inl rfl)
#print axioms HuffRefuses_walk
end Go.Proofs.Ytnakjencodicmaa

-- ---- LawHuffRefuses
/- The law HuffRefuses holds of the program, for every input; each argument reads behind the call as it read before. Conditions: none. -/
namespace Go.Proofs.Ytnakjencodicmaa.huffRefuses
set_option maxRecDepth 100000
open Go.ChangeShapes Go.WideShapes Go.ChangeAt Go.RowKit
open Go.ChangeMaps (open_string shut_string)
set_option linter.unusedVariables false
theorem own : ownKnob Try.prog.godebug = none := by kernel_rfl
set_option maxRecDepth 100000 in
theorem lifted (os : Os) (started : os.Started) (H : Type) (enc : TypeId × Value → H) :
    ReturnsInHanded {} Try.checked os 8 .any (Rows.huffRefusesSpec.pre6 enc Try.prog Try.f8 Rows.huffRefusesRow.domain false) (Rows.huffRefusesSpec.post enc Try.prog Try.f8 false true false false) := by
  refine returnsInHanded_of_change_sized (C := Try.checked) own started (by kernel_rfl) Try.func8
    (ChangeSpec.witness6 (enc := enc) (C := Try.checked) false ⟨#[], #[.int .u8 0, .int .i64 0, .int .i64 0], []⟩ 8 (by kernel_rfl) (by kernel_rfl) (by kernel_rfl) (by kernel_rfl)) ?_
  intro W base args ds gs before hval0 hW hcnd hsz0 _
  have hsz : (DataW.weightsEach Try.prog (Try.f8.params.toList ++ Rows.huffRefusesSpec.plain.varTypes Try.prog) (ds ++ gs)).all (· ≤ reachBytes) = true := hsz0
  have hval : ∀ (j : Nat) t v, Try.f8.params[j]? = some t → args[j]? = some v → Value.okWide Try.prog W .any base t v := hval0
  have hW' := hW
  obtain ⟨p, q, hA0, hV, rfl, hfz, hnd⟩ := hW
  have hA : DataW.TrodAll enc Try.prog W 0 (fun _ => true) true Try.f8.params.toList args.toList ds p := hA0
  rw [Try.params8] at hA hval hsz
  obtain ⟨v0, vs0, d0, ds0, p0, q0, hargs, rfl, rfl, h0, r0⟩ := trodAll_cons hA
  obtain ⟨v1, vs1, d1, ds1, p1, q1, rfl, rfl, rfl, h1, r1⟩ := trodAll_cons r0
  obtain ⟨v2, vs2, d2, ds2, p2, q2, rfl, rfl, rfl, h2, r2⟩ := trodAll_cons r1
  obtain ⟨rfl, rfl, rfl⟩ := trodAll_nil r2
  obtain rfl : args = #[v0, v1, v2] := by cases args; simp_all
  obtain ⟨rfl, rfl⟩ := trodVars_none hV
  obtain ⟨a0, rfl, rfl, rfl, w0⟩ := open_int Try.underlying5 (hval 0 5 v0 rfl rfl) h0
  obtain ⟨a1, rfl, rfl, rfl, w1⟩ := open_int Try.underlying3 (hval 1 3 v1 rfl rfl) h1
  obtain ⟨a2, rfl, rfl, rfl, w2⟩ := open_int Try.underlying3 (hval 2 3 v2 rfl rfl) h2
  clear hA0 hval0 hsz0 hsz
  refine (HuffRefuses_walk a0 a1 a2 W w0 w1 w2).mono fun e W' ⟨he, bel⟩ => ?_
  subst he
  exact ⟨_, rfl, _, _, _, [], _, [], hW', trodAll_mk1 (shut_bool Try.underlying4 _), (trodAll_cons_mk (shut_int Try.underlying5 w0) (trodAll_cons_mk (shut_int Try.underlying3 w1) (trodAll_cons_mk (shut_int Try.underlying3 w2) trodAll_mk0))), rfl, bel.frame _, fun h => by cases h⟩
theorem over : Rows.huffRefusesRow.holds Try.pinned (OpenSpec.ofChange Rows.huffRefusesSpec) :=
  OpenClaim.holds_of_wide 8 Try.f8 rfl rfl rfl rfl rfl rfl rfl ⟨rfl, rfl, rfl, rfl, rfl⟩ rfl rfl rfl rfl rfl (by kernel_rfl) Try.func8 (by kernel_rfl)
    (of_decide_eq_true (by kernel_rfl)) (by unfold Func.isWrapper; first | (rw [if_pos (by decide +kernel)]; kernel_rfl) | (rw [if_neg (by decide +kernel)]; exact ⟨rfl, rfl⟩))
    (fun os started H enc _ => lifted os started H enc)
theorem proved : Rows.HuffRefusesSaid := over
#print axioms proved
end Go.Proofs.Ytnakjencodicmaa.huffRefuses
namespace Go.Proofs.Ytnakjencodicmaa
/-- The row, under a short name. -/
theorem huffRefuses_holds : Rows.HuffRefusesSaid := huffRefuses.proved
end Go.Proofs.Ytnakjencodicmaa
