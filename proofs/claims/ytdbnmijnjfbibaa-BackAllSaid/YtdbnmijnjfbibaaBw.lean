/- bits.Writer: what its methods do to its memory. -/
import Derived.Test.YtdbnmijnjfbibaaProg
import Derived.Test.YtdbnmijnjfbibaaMix
import Derived.Test.YtdbnmijnjfbibaaOwn
import Derived.Test.YtdbnmijnjfbibaaBits
import Derived.WalkSpells
import Derived.WalkLawsBesides
import Derived.BigQuiet
import Derived.Lib.Hide
import Derived.Deep.DeepCutAuto
namespace Go.Proofs.Ytdbnmijnjfbibaa
set_option linter.unusedSimpArgs false
set_option linter.unusedVariables false
open Go.RowKit Mix Own Bits

theorem infoU8 : (Try.prog.info? 5).map (fun i => (i.zero, i.size, i.bytes)) = some (some (.int .u8 0), 1, 1) := by kernel_rfl

def u8s (l : List Nat) : List Value := l.map fun (b : Nat) => Value.int .u8 (b : Int)
@[simp] theorem length_u8s (l : List Nat) : (u8s l).length = l.length := by simp [u8s]
theorem u8s_append (l m : List Nat) : u8s (l ++ m) = u8s l ++ u8s m := by simp [u8s]
theorem u8s_set (l : List Nat) (i x : Nat) : u8s (l.set i x) = (u8s l).set i (.int .u8 (x : Int)) := by simp [u8s, List.map_set]

/-- A Writer at block p with its bytes at v: the row of bits l. -/
structure IsW (w : World) (p : Nat) (v : Value) (l : List Bool) : Prop where
  blk : Blk w p #[v, .int .i64 (l.length : Int)] 60
  row : Owns w 5 v (u8s (pack l))

theorem IsW.keep {w w' : World} {S : Nat → Prop} {p : Nat} {v : Value} {l : List Bool} (h : IsW w p v l) (hc : Chg S w w') (hp : ¬ S p) (hv : ∀ g, v.ownBlock = some g → ¬ S g) : IsW w' p v l :=
  ⟨hc.keep h.blk hp, h.row.chg hc hv⟩

/-- The state between the two halves of 'bit'. -/
structure Half (w w' : World) (p : Nat) (v v1 : Value) (l : List Bool) : Prop where
  blk : Blk w' p #[v1, .int .i64 (l.length : Int)] 60
  row : Owns w' 5 v1 (u8s (packN l (l.length / 8 + 1)))
  chg : Chg (fun k => k = p ∨ some k = v.ownBlock) w w'
  own : ∀ g, v1.ownBlock = some g → some g = v.ownBlock ∨ w.heap.size ≤ g

set_option maxHeartbeats 2000000 in
theorem bit_calls (p : Nat) (v : Value) (l : List Bool) (x : Int) (w : World) (hW : IsW w p v l) (hn : l.length < 1099511627776) (hx0 : 0 ≤ x) (hx1 : x < 18446744073709551616) :
    Calls Try.prog 24 #[.pointer (some ⟨p, 0, none⟩), .int .u64 x] w fun e w' => e = .returned (.tuple #[]) ∧
      ∃ v', IsW w' p v' (l ++ [bitOf x]) ∧ Chg (fun k => k = p ∨ some k = v.ownBlock) w w' ∧ ∀ g, v'.ownBlock = some g → some g = v.ownBlock ∨ w.heap.size ≤ g := by
  obtain ⟨i0, hi, hz0, hz1, hz2⟩ := info_parts infoU8
  obtain ⟨n, hnl⟩ : ∃ n, n = l.length := ⟨_, rfl⟩
  have hc0 : w.cell? ⟨p, 0, none⟩ = some v := hW.blk.cell rfl
  have hc1 : w.cell? ⟨p, 1, none⟩ = some (.int .i64 (n : Int)) := by rw [hnl]; exact hW.blk.cell rfl
  have hf0 : w.frozen? ⟨p, 0, none⟩ = false := hW.blk.free 0
  have HW := kept hW
  have HNL := kept hnl
  rw [← hnl] at hn
  clear hW hnl
  go_enter Try.func24, Try.ntmps24
  go_upto_if 9 with fail
  go_cut [] from 9 (fun w' => ∃ v1, Half w w' p v v1 l)
  case first =>
    by_cases h8 : n % 8 = 0
    · have h8b : (((n : Int) % 8) == 0) = true := by rw [beq_iff_eq]; omega
      have H8 := kept h8
      clear h8
      go_wp2_with (first | (at_builtin; go_loud (refine wpList_app1 rfl _ _ 42 rfl 5 i0 (.int .u8 0) 1 Try.underlying42 hi hz0 hz1 hz2 rfl v _ _ rfl HW.out.row rfl rfl ?c3 ?c4 ?_)) | fail)
      case c3 => have := HNL.out; simp [maxLen]; omega
      case c4 => have := HNL.out; simp; omega
      intro v1 w1 O1 hch0 F
      have hvp : v.ownBlock ≠ some p := HW.out.row.ne HW.out.blk (by decide)
      have e8 : l.length % 8 = 0 := by rw [← HNL.out]; exact H8.out
      have O1 : Owns w1 5 v1 (u8s (packN l (l.length / 8 + 1))) := by
        rw [packN_full l e8, u8s_append]; exact O1
      obtain ⟨g1, cap1, rfl, _, hg1l⟩ := O1.row (by intro e; have := congrArg List.length e; simp at this)
      simp only [length_u8s, length_packN] at O1 F
      have hB1 : Blk w1 p #[v, .int .i64 (l.length : Int)] 60 := hch0.keep HW.out.blk (fun e => hvp e.symm)
      have d0 : w1.cell? ⟨p, 0, none⟩ = some v := hB1.cell rfl
      have f0 : w1.frozen? ⟨p, 0, none⟩ = false := hB1.free 0
      have hpg : p ≠ g1 := hB1.ne (O1.blk g1 rfl).choose_spec (by decide)
      have O1 := kept O1
      have HB1 := kept hB1
      have HC0 := kept hch0
      have HF := kept F
      clear hB1 hch0 F hvp
      go_wp2_with fail
      go_meet
      case rel => exact ⟨_, by
        refine ⟨HB1.out.set 0 _, O1.out.setOther (a := ⟨p, 0, none⟩) (fun e => hpg (by simpa [Value.ownBlock] using e.symm)) _, ?_, HF.out⟩
        exact (HC0.out.mono (fun k _ h => .inr h)).trans (Chg.setCell _ _ _) (fun k _ h => .inl h)⟩
    · have h8b : (((n : Int) % 8) == 0) = false := by rw [beq_eq_false_iff_ne]; omega
      have e8 : ¬ l.length % 8 = 0 := by rw [← HNL.out]; exact h8
      have HE := kept e8
      clear h8 e8
      go_wp2_with fail
      go_meet
      case rel => exact ⟨v, by
        refine ⟨HW.out.blk, ?_, Chg.refl _ _, fun g hg => .inl hg.symm⟩
        rw [packN_part l HE.out]; exact HW.out.row⟩
  case rest =>
    obtain ⟨v1, hH⟩ := hcut
    obtain ⟨g, cap, rfl, hcap, hgl⟩ := hH.row.row (by intro e; have := congrArg List.length e; simp at this)
    have hpg : p ≠ g := hH.blk.ne (hH.row.blk g rfl).choose_spec (by decide)
    have hk : n / 8 < l.length / 8 + 1 := by rw [HNL.out]; omega
    obtain ⟨b, hb⟩ : ∃ b, b = byteAt l (n / 8) := ⟨_, rfl⟩
    have hb8 : b < 256 := by rw [hb]; exact byteAt_lt _ _
    have hcb : wc.cell? ⟨g, n / 8, none⟩ = some (.int .u8 (b : Int)) := hH.row.cell (by simp [u8s, getElem?_packN _ _ _ hk, hb])
    have hfb : wc.frozen? ⟨g, n / 8, none⟩ = false := hH.row.free _
    have e0 : wc.cell? ⟨p, 0, none⟩ = some (.slice (some ⟨g, 0, none⟩) (u8s (packN l (l.length / 8 + 1))).length cap) := hH.blk.cell rfl
    have e1 : wc.cell? ⟨p, 1, none⟩ = some (.int .i64 (n : Int)) := by rw [HNL.out]; exact hH.blk.cell rfl
    have ef1 : wc.frozen? ⟨p, 1, none⟩ = false := hH.blk.free 1
    obtain ⟨len, hlen⟩ : ∃ len, len = (u8s (packN l (l.length / 8 + 1))).length := ⟨_, rfl⟩
    have hll : n / 8 < len := by rw [hlen]; simpa using hk
    rw [← hlen] at e0
    have lc0 := lat_cell e0
    have lc1 := lat_cell e1
    have lb := lat_cell hcb
    have HH := kept hH
    have HB := kept hb
    have HL := kept hlen
    clear hH hb hlen hc0 hc1 hf0 hk hcap
    go_wp2_with fail
    refine wp_region_mixL [] [0,1,2,3,4,5,6,7,8,9,10,11,12,13,14,15,16,17,18,19,20,21] [22] (by kernel_rfl) (by kernel_rfl) ?_
    intro K hK
    simp only [pick, List.filterMap_cons, List.filterMap_nil, List.getElem?_cons_zero, List.getElem?_cons_succ]
    refine wpQuiet_nil ?_
    repeat (show wpQuiet _ _ _ _ (_ :: _) _; go_big_quiet_step (fail))
    refine wpQuiet_nil ?_
    show wpList _ _ _ (_ :: _) _ _
    go_wp2_with fail
    refine hK _ _ ?_
    have e8 : n % 8 = l.length % 8 := by rw [HNL.out]
    have hbyte : bits BinOp.or IntKind.u8 (b : Int) (bits BinOp.and IntKind.u64 x 1 % 256 * 2 ^ (n % 8) % 256) = ((b ||| (bitOf x).toNat * 2 ^ (n % 8) : Nat) : Int) := or_byte x hx0 hx1 b (n % 8) hb8 (by omega)
    rw [hbyte]
    generalize hw2 : World.drew (World.setCell wc _ _) = w2
    have hB2 : Blk w2 p #[.slice (some ⟨g, 0, none⟩) (u8s (packN l (l.length / 8 + 1))).length cap, .int .i64 (l.length : Int)] 60 := by
      rw [← hw2]; exact HH.out.blk.setOther (a := ⟨g, n / 8, none⟩) hpg _
    have hO2 : Owns w2 5 (.slice (some ⟨g, 0, none⟩) (u8s (packN l (l.length / 8 + 1))).length cap) (u8s (pack (l ++ [bitOf x]))) := by
      rw [← hw2, pack_snoc, packN_snoc, u8s_set, ← HNL.out, ← HB.out, HNL.out]
      exact HH.out.row.store _ _
    have hC2 : Chg (fun k => k = p ∨ some k = v.ownBlock) w w2 := by
      rw [← hw2]
      refine (HH.out.chg.trans (Chg.setCell wc ⟨g, n / 8, none⟩ _) ?_).trans (Chg.drew _ _) (fun _ _ h => h)
      intro k hk he
      have he' : k = g := he
      rcases HH.out.own g rfl with h | h
      · exact .inr (by rw [he', h])
      · omega
    have d1 : w2.cell? ⟨p, 1, none⟩ = some (.int .i64 (n : Int)) := by rw [HNL.out]; exact hB2.cell rfl
    have df1 : w2.frozen? ⟨p, 1, none⟩ = false := hB2.free 1
    have X1 := kept hB2
    have X2 := kept hO2
    have X3 := kept hC2
    clear hB2 hO2 hC2 hw2 hbyte e8 lc0 lc1 lb e0 e1 ef1 hcb hfb
    go_wp2_with fail
    go_end0
    refine ⟨rfl, _, ⟨?_, ?_⟩, ?_, HH.out.own⟩
    · have := X1.out.set 1 (.int .i64 ((n : Int) + 1))
      simpa [HNL.out] using this
    · exact X2.out.setOther (a := ⟨p, 1, none⟩) (fun e => hpg (by simpa [Value.ownBlock] using e.symm)) _
    · exact X3.out.trans (Chg.setCell w2 ⟨p, 1, none⟩ _) (fun k _ h => .inl h)
end Go.Proofs.Ytdbnmijnjfbibaa
