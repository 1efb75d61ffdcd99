/- Part MergeLeast2 of what the layer's laws stand on: Ro, Re, Mj, Hah, Hbh, Hch, Hdh, Heh, Ho, Rf, Rg, Mq, In, Bk, Ml, Mn, Kd, Le, PAx13, PAx14, PAx15. Written by a program (merge.py) out of this session's own texts and of what the kit's print wrote over stand-ins (sp.py). Conditions: those that each theorem names. -/
import Derived.Test.YtejecpmfhgplmaaProg
import Derived.Test.YtejecpmfhgplmaaQMergeLeast1
import Derived.WalkSpells
import Derived.WalkLawsBesides
import Derived.BigQuiet
import Derived.Lib.Hide
import Derived.Deep.DeepCutAuto
import Derived.OpenShut
import Derived.Deep.CutBlock
import Derived.RangeFuncCalls
import Derived.OrdersIn
import Derived.AtR
import Derived.RangeFuncNested
import Derived.RangeFuncBound
import Derived.RangeFuncLeaves
import Derived.Shelf.Abstract
import Derived.Shelf.RegionOpen
import Derived.WalkKit
import Derived.OwnWalkIn
import Derived.TacticsInMore
import Derived.LoopNIn
import Derived.LoopIn
import Derived.Test.YtejecpmfhgplmaaWWords
-- ---- Ro
/- The document's order of places. -/
namespace Go.Proofs.Ytejecpmfhgplmaa
set_option linter.unusedSimpArgs false
set_option linter.unusedVariables false
open Go.RowKit Mix _root_.Go.Proofs.Ytejecpmfhgplmaa.Own Ol
attribute [local go_sem] max_int min_int

theorem infoI64 : (Try.prog.info? 3).map (fun i => (i.zero, i.size, i.bytes)) = some (some (.int .i64 0), 1, 8) := by kernel_rfl
theorem info_partsI {i : Option TypeInfo} {z : Value} {s b : Nat} (h : i.map (fun i => (i.zero, i.size, i.bytes)) = some (some z, s, b)) : ∃ i0, i = some i0 ∧ i0.zero = some z ∧ i0.size = s ∧ i0.bytes = b := by
  cases i with
  | none => simp at h
  | some i => simp at h; exact ⟨i, rfl, h.1, h.2.1, h.2.2⟩

/-- Places as values. -/
def idx (l : List Nat) : List Value := l.map fun i : Nat => .int .i64 (i : Int)
@[simp] theorem length_idx (l : List Nat) : (idx l).length = l.length := by simp [idx]
theorem idx_at (l : List Nat) (i : Nat) (h : i < l.length) : (idx l)[i]? = some (.int .i64 ((l.getD i 0 : Nat) : Int)) := by
  simp [idx, List.getD_eq_getElem?_getD, h]
theorem idx_drop (l : List Nat) (k : Nat) : idx (l.drop k) = (idx l).drop k := by simp [idx, List.map_drop]
theorem idx_take (l : List Nat) (k : Nat) : idx (l.take k) = (idx l).take k := by simp [idx, List.map_take]
theorem one_idx (l : List Nat) : ∀ u ∈ idx l, u.oneCell' = true := by
  intro u hu; obtain ⟨n, _, rfl⟩ := List.mem_map.1 hu; rfl

/-- What holds of the row of places, on the way. -/
structure RowO (B : Nat) (w wr : World) (v : Value) (l : List Nat) : Prop where
  own : Owns wr 3 v (idx l)
  new : ∀ g, v.ownBlock = some g → B ≤ g
  low : Below B w wr

theorem rd_cap {w : World} {a : Option Addr} {n c : Nat} {xs : List Value} (h : Rd w (.slice a n c) xs) (c' : Nat) (h1 : n ≤ c') (h2 : c' ≤ maxLen) : Rd w (.slice a n c') xs := by
  obtain ⟨_, _, hv, h3, h4, hc⟩ := h
  simp only [Value.slice.injEq] at hv
  obtain ⟨rfl, rfl, rfl⟩ := hv
  exact ⟨_, _, rfl, h1, h2, hc⟩
/-- What stands ahead of a place, full; what stands from a place on. -/
theorem row_parts {w : World} {a : Option Addr} {cap : Nat} {o : List Nat} (h : Owns w 3 (.slice a o.length cap) (idx o)) (k : Nat) (hk : k ≤ o.length) :
    Rd w (.slice a k k) (idx (o.take k)) ∧ Rd w (.slice (if cap = k then a else a.map fun x => x.add k) (o.length - k) (cap - k)) (idx (o.drop k)) ∧ ((if cap = k then a else a.map fun x => x.add k) = none → cap - k = 0) := by
  have hr := h.rd
  have hcm : o.length ≤ cap ∧ cap ≤ maxLen ∧ (a = none → cap = 0) := by
    rcases h.form with ⟨hv, hx⟩ | ⟨g, cap', cur, hv, _, h1, h2, _⟩
    · simp only [Value.slice.injEq] at hv; obtain ⟨rfl, h0, rfl⟩ := hv; rw [h0]; exact ⟨Nat.le_refl _, Nat.zero_le _, fun _ => rfl⟩
    · simp only [Value.slice.injEq, length_idx] at hv h1; obtain ⟨rfl, _, rfl⟩ := hv; exact ⟨h1, h2, fun e => by cases e⟩
  refine ⟨?_, ?_, fun e => ?_⟩
  · have := hr.take k hk
    rw [← idx_take] at this
    exact rd_cap this k (Nat.le_refl _) (by omega)
  · have := hr.sub k (o.length - k) (by omega)
    rw [← idx_drop, show k + (o.length - k) - k = o.length - k by omega] at this
    rwa [List.take_of_length_le (by simp)] at this
  · split at e
    · omega
    · cases a with
      | none => have := hcm.2.2 rfl; omega
      | some x => cases e

set_option maxHeartbeats 8000000 in
theorem rorder_calls (a : Option Addr) (n c : Nat) (l : List Int) (w : World) (hR : Rd w (.slice a n n) (ints .i64 l)) (hn : n ≤ 100000) :
    Calls Try.prog 23 #[.slice a n c] w fun e w' => ∃ v, e = .returned v ∧ RowO w.heap.size w w' v (ordL l) := by
  have hln : l.length = n := by have := hR.length; rw [length_ints] at this; exact this.symm
  obtain ⟨i0, hi, hz0, hz1, hz2⟩ := info_partsI infoI64
  have HR := kept hR
  have HL := kept hln
  have HN := kept hn
  obtain ⟨B, hB⟩ : ∃ B, B = w.heap.size := ⟨_, rfl⟩
  rw [← hB]
  have HB := kept hB
  clear hR hln hn hB
  go_enter Try.func23, Try.ntmps23
  go_wp2_with fail
  go_loopw [3, 4] (fun s3 s4 wr => ∃ i : Nat, i ≤ n ∧ s4 = .int .i64 (i : Int) ∧ ∃ v3, v3 = s3 ∧ RowO B w wr v3 (ordN l i)) (fun s3 s4 _ => n - (intOf s4).toNat)
  case atStart => exact ⟨0, Nat.zero_le _, rfl, _, rfl, Owns.nil _ _, fun g hg => by simp [Value.ownBlock] at hg, by have := HB.out; subst this; exact Below.refl _ _⟩
  case round =>
    obtain ⟨i, hi2, rfl, v3, rfl, hro⟩ := hrel
    obtain ⟨wo, rfl⟩ : ∃ wo, wo = wr := ⟨wr, rfl⟩
    have hn5 := HN.out
    have hlow := hro.low
    have hRd := HR.out.below hlow (by rw [HB.out]; exact HR.out.lt)
    by_cases hlt : i < n
    · have hil : i < l.length := by rw [HL.out]; exact hlt
      obtain ⟨x, rfl, hc⟩ := hRd.at (Own.ints_at .i64 l i hil)
      obtain ⟨y, hy⟩ : ∃ y, y = l.getD i 0 := ⟨_, rfl⟩
      rw [← hy] at hc
      have HRd := kept hRd
      have HRo := kept hro
      have HY := kept hy
      clear hRd hro hy hlow
      by_cases hpos : 0 < y
      · have p0 : ¬ y ≤ 0 := by omega
        obtain ⟨o, ho⟩ : ∃ o, o = ordN l i := ⟨_, rfl⟩
        rw [← ho] at HRo
        have hol : o.length ≤ i := by rw [ho]; exact length_ordN l i
        obtain ⟨a1, cap1, rfl, hrow⟩ := HRo.out.own.slice
        simp only [length_idx] at HRo ⊢
        have hcapm : cap1 ≤ maxLen ∧ o.length ≤ cap1 := by
          rcases HRo.out.own.form with ⟨hv, _⟩ | ⟨g, cap, cur, hv, _, h1, h2, _⟩
          · simp at hv; simp [hv]
          · simp at hv; rw [hv.2]; exact ⟨h2, by simpa using h1⟩
        simp only [maxLen] at hcapm
        have hmem : ∀ j, j ∈ o → j < i ∧ 0 < l.getD j 0 := fun j hj => by rw [ho] at hj; exact mem_ordN.1 hj
        have HO := kept ho
        have HM := kept hmem
        clear ho hmem hrow
        obtain ⟨hcm, hoc⟩ := hcapm
        go_wp2_with fail
        go_loopw [5] (fun s5 wq => ∃ k : Nat, k ≤ o.length ∧ s5 = .int .i64 (k : Int) ∧ Below wo.heap.size wo wq ∧ (∀ j ∈ o.drop k, l.getD j 0 < y)) (fun s5 _ => (intOf s5).toNat)
        case atStart => exact ⟨o.length, Nat.le_refl _, rfl, Below.refl _ _, by simp⟩
        case round =>
          obtain ⟨k, hk, rfl, hbq, hall⟩ := hrel
          obtain ⟨wq, rfl⟩ : ∃ wq, wq = wr := ⟨wr, rfl⟩
          have HBq := kept hbq
          have HRo2 : Kept (RowO B w wq (.slice a1 o.length cap1) o) := kept ⟨HRo.out.own.keep fun g _ hg => hbq.block g hg, HRo.out.new, HRo.out.low.trans (hbq.mono (by have h1 := HRo.out.low.size; have h2 := HB.out; omega))⟩
          have HRd2 := kept (HRd.out.later hbq)
          have HAll := kept hall
          have hcq : wq.cell? (x.add i) = some (.int .i64 y) := by rw [← hc]; exact hbq.cell (World.block_lt_of_cell? wo _ hc)
          clear hbq hall
          by_cases hk0 : 0 < k
          · have hkl : k - 1 < o.length := by omega
            obtain ⟨g1, rfl⟩ : ∃ g1, a1 = some ⟨g1, 0, none⟩ := by
              obtain ⟨a', cap', hv, hg⟩ := HRo2.out.own.slice
              simp at hv
              rw [hv.1]; exact hg (by intro e; have := congrArg List.length e; simp at this; rw [this] at hkl; simp at hkl)
            have hco := HRo2.out.own.cell (idx_at o (k - 1) hkl)
            obtain ⟨q, hq⟩ : ∃ q, q = o.getD (k - 1) 0 := ⟨_, rfl⟩
            rw [← hq] at hco
            have hqm : q ∈ o := by rw [hq, List.getD_eq_getElem?_getD, List.getElem?_eq_getElem hkl]; exact List.getElem_mem _
            have hqi := (HM.out q hqm).1
            have hql : q < l.length := by rw [HL.out]; omega
            obtain ⟨x2, hx2, hcz⟩ := HRd2.out.at (Own.ints_at .i64 l q hql)
            cases hx2
            obtain ⟨z, hz⟩ : ∃ z, z = l.getD q 0 := ⟨_, rfl⟩
            rw [← hz] at hcz
            have HQ := kept hq
            have HZ := kept hz
            obtain ⟨k1, hk1⟩ : ∃ k1, k = k1 + 1 := ⟨k - 1, by omega⟩
            subst hk1
            simp only [Nat.add_sub_cancel] at hco HQ hkl
            have l0 := lat_cell hco
            have l1 := lat_cell hcz
            have l2 := lat_cell hcq
            have e1 : ((k1 + 1 : Nat) : Int) - 1 = (k1 : Int) := by omega
            have hqn : q < n := by omega
            clear hq hz hqm hqi hql hco hcz hcq
            by_cases hzy : z < y
            · have hd : decide (z < y) = true := by simpa using hzy
              go_wp2_with fail
              refine wp_region_quietL (by kernel_rfl) (by kernel_rfl) ?_
              repeat (go_big_quiet_step (fail))
              refine wpQuiet_nil ?_
              intro nq
              have HB3 := kept (HBq.out.trans (nq.below.mono HBq.out.size))
              generalize nq.w = w3 at HB3 ⊢
              clear l0 l1 l2
              go_wp2_with fail
              go_roundw
              case rel =>
                refine ⟨k1, by omega, by go_num, HB3.out, fun j hj => ?_⟩
                rw [List.drop_eq_getElem_cons (by omega)] at hj
                rcases List.mem_cons.1 hj with rfl | hj
                · have h1 := HQ.out; have h2 := HZ.out
                  rw [List.getD_eq_getElem?_getD, List.getElem?_eq_getElem (by omega)] at h1
                  simp only [Option.getD_some] at h1
                  rw [← h1, ← h2]; exact hzy
                · exact HAll.out j hj
              case measure => simp [intOf]
            · have hd : decide (z < y) = false := by simpa using hzy
              have HE : Kept (ins l i o = o.take (k1 + 1) ++ i :: o.drop (k1 + 1)) := kept (by
                have hf : Fall l o := by rw [HO.out]; exact (ordN_spec l i).1
                refine ins_at hf (k1 + 1) hk (fun j hj => by rw [← HY.out]; exact HAll.out j hj) fun _ => ?_
                rw [Nat.add_sub_cancel, ← HQ.out, ← HZ.out, ← HY.out]; exact hzy)
              clear HAll HQ HZ hzy
              go_wp2_with fail
              refine wp_region_quietL (by kernel_rfl) (by kernel_rfl) ?_
              repeat (go_big_quiet_step (fail))
              refine wpQuiet_nil ?_
              intro nq
              have HRo3 : Kept (RowO B w nq.w (.slice (some ⟨g1, 0, none⟩) o.length cap1) o) := kept ⟨HRo2.out.own.keep fun g _ hg => nq.below.block g hg, HRo2.out.new, HRo2.out.low.trans (nq.below.mono (by have h1 := HRo2.out.low.size; have h2 := HB.out; omega))⟩
              generalize nq.w = w3 at HRo3 ⊢
              clear l0 l1 l2
              have hkc : k1 + 1 ≤ cap1 := by omega
              go_wp2_with fail
              refine wp_region_mixL [0,1,2,3] [4,6,7,8] [5,9,10,11] (by kernel_rfl) (by kernel_rfl) ?_
              intro K hK
              simp only [pick, List.filterMap_cons, List.filterMap_nil, List.getElem?_cons_zero, List.getElem?_cons_succ]
              repeat (show wpQuiet _ _ _ _ (_ :: _) _; go_big_quiet_step (fail))
              refine wpQuiet_nil ?_
              obtain ⟨hA, hBs, hnil⟩ := row_parts HRo3.out.own (k1 + 1) hk
              obtain ⟨A2, hA2⟩ : ∃ A2, A2 = (if cap1 = k1 + 1 then some (⟨g1, 0, none⟩ : Addr) else some (⟨g1, k1 + 1, none⟩ : Addr)) := ⟨_, rfl⟩
              have hA3 : (if cap1 = k1 + 1 then some (⟨g1, 0, none⟩ : Addr) else (some (⟨g1, 0, none⟩ : Addr)).map fun x => x.add (k1 + 1)) = A2 := by rw [hA2]; simp [Addr.add]
              rw [hA3] at hBs hnil
              rw [← hA2]
              clear hA3
              clear hA2
              generalize hwd : World.drew w3 = w4
              have HRo4 : Kept (RowO B w w4 (.slice (some ⟨g1, 0, none⟩) o.length cap1) o) := kept (by rw [← hwd]; exact ⟨HRo3.out.own, HRo3.out.new, HRo3.out.low.drew⟩)
              have HA : Kept (Rd w4 (.slice (some ⟨g1, 0, none⟩) (k1 + 1) (k1 + 1)) (idx (o.take (k1 + 1)))) := kept (by rw [← hwd]; exact hA)
              have HBs : Kept (Rd w4 (.slice A2 (o.length - (k1 + 1)) (cap1 - (k1 + 1))) (idx (o.drop (k1 + 1)))) := kept (by rw [← hwd]; exact hBs)
              have HNil := kept hnil
              clear hA hBs hnil hwd HRo3
              have hb5 : Below w4.heap.size w4 (w4.alloc (.cells #[.int .i64 (i : Int)] 3)) := (Below.refl _ _).alloc (Nat.le_refl _) _
              have hO5 : Owns (w4.alloc (.cells #[.int .i64 (i : Int)] 3)) 3 (.slice (some ⟨w4.heap.size, 0, none⟩) 1 1) [.int .i64 (i : Int)] :=
                Owns.mk (xs := [.int .i64 (i : Int)]) (Blk.fresh _ _ _) (Nat.le_refl _) (by simp [maxLen]) rfl rfl
              have HB5 := kept hb5
              have HO5 := kept hO5
              have HC5 : Kept (Rd (w4.alloc (.cells #[.int .i64 (i : Int)] 3)) (.slice A2 (o.length - (k1 + 1)) (cap1 - (k1 + 1))) (idx (o.drop (k1 + 1)))) := kept (HBs.out.later hb5)
              clear hb5 hO5
              show wpList _ _ _ [_, _, _, _] _ _
              go_wp2_with (first | (at_builtin; refine wpList_appRd rfl _ _ 22 rfl 3 i0 (.int .i64 0) 8 Try.underlying22 hi hz0 hz1 hz2 rfl _ _ rfl HO5.out A2 _ _ _ rfl HC5.out HNil.out (one_idx _) ?_ ?_ ?_) | fail)
              · simp [maxLen]; omega
              · simp; omega
              intro v6 w6 O6 C6 F6
              obtain ⟨a6, cap6, rfl, hg6⟩ := O6.slice
              have hsz5 : (w4.alloc (.cells #[.int .i64 (i : Int)] 3)).heap.size = w4.heap.size + 1 := by simp
              have hc46 : Chg (fun _ => False) w4 w6 := ((Chg.of_below (S := fun _ => False) HB5.out).trans C6 (fun b hb h => by
                simp [Value.ownBlock] at h; omega))
              have hb6 : Below w4.heap.size w4 w6 := hc46.below (Nat.le_refl _) (fun _ _ h => h)
              have HA6 := kept (HA.out.later hb6)
              have HR6 := kept O6.rd
              have HB6 := kept hb6
              have hl6 : (Value.int .i64 (i : Int) :: idx (o.drop (k1 + 1))).length = o.length - (k1 + 1) + 1 := by simp
              rw [hl6] at HR6 ⊢
              clear O6 C6 F6 hg6 hsz5 hc46 hb6 hl6
              go_wp2_with (first | (at_builtin; refine wpList_appFull rfl _ _ 22 rfl 3 i0 (.int .i64 0) 8 Try.underlying22 hi hz0 hz1 hz2 rfl (some ⟨g1, 0, none⟩) _ _ rfl HA6.out a6 _ _ _ rfl HR6.out (by omega) ?_ ?_ ?_) | fail)
              · simp [maxLen]; omega
              · omega
              intro v7 w7 O7 B7 F7
              have HO7 : Kept (RowO B w w7 v7 (ordN l (i + 1))) := kept (by
                have e1 : ordN l (i + 1) = o.take (k1 + 1) ++ i :: o.drop (k1 + 1) := by
                  rw [← HE.out, HO.out]; show (if _ then _ else _) = _; rw [if_pos (by rw [← HY.out]; exact hpos)]
                have h1 := HRo4.out.low.size
                have h2 := HB.out
                have h3 := HB6.out.size
                refine ⟨?_, fun g hg => by have := F7 g hg; omega, (HRo4.out.low.trans (HB6.out.mono (by omega))).trans (B7.mono (by omega))⟩
                rw [e1]; simpa [idx] using O7)
              clear O7 B7 F7
              go_wp2_with fail
              refine hK _ _ ?_
              go_wp2_with fail
              go_roundw
              case rel => exact ⟨i + 1, by omega, by go_num, _, rfl, HO7.out⟩
              case measure => simp [intOf]; omega
          · have hd : decide (0 < k) = false := by simp; omega
            have hkz : k = 0 := by omega
            subst hkz
            have HE : Kept (ins l i o = o.take 0 ++ i :: o.drop 0) := kept (by
                have hf : Fall l o := by rw [HO.out]; exact (ordN_spec l i).1
                refine ins_at hf 0 hk (fun j hj => by rw [← HY.out]; exact HAll.out j hj) fun h => ?_
                omega)
            clear HAll hk0 hd
            have hd : decide ((0 : Int) < ((0 : Nat) : Int)) = false := rfl
            go_wp2_with fail
            refine wp_region_quietL (by kernel_rfl) (by kernel_rfl) ?_
            repeat (go_big_quiet_step (fail))
            refine wpQuiet_nil ?_
            intro nq
            have HRo3 : Kept (RowO B w nq.w (.slice a1 o.length cap1) o) := kept ⟨HRo2.out.own.keep fun g _ hg => nq.below.block g hg, HRo2.out.new, HRo2.out.low.trans (nq.below.mono (by have h1 := HRo2.out.low.size; have h2 := HB.out; omega))⟩
            generalize nq.w = w3 at HRo3 ⊢
            clear hd
            have hkc : 0 ≤ cap1 := by omega
            go_wp2_with fail
            refine wp_region_mixL [0,1,2,3] [4,6,7,8] [5,9,10,11] (by kernel_rfl) (by kernel_rfl) ?_
            intro K hK
            simp only [pick, List.filterMap_cons, List.filterMap_nil, List.getElem?_cons_zero, List.getElem?_cons_succ]
            repeat (show wpQuiet _ _ _ _ (_ :: _) _; go_big_quiet_step (fail))
            refine wpQuiet_nil ?_
            have hA := (row_parts HRo3.out.own 0 hk).1
            have hBs : Rd w3 (.slice a1 o.length cap1) (idx (o.drop 0)) := by simpa using HRo3.out.own.rd
            have hnil : a1 = none → cap1 = 0 := fun e => by
              rcases HRo3.out.own.form with ⟨hv, _⟩ | ⟨g, cap', cur, hv, _⟩
              · simp only [Value.slice.injEq] at hv; exact hv.2.2
              · simp only [Value.slice.injEq] at hv; rw [e] at hv; cases hv.1
            generalize hwd : World.drew w3 = w4
            have HRo4 : Kept (RowO B w w4 (.slice a1 o.length cap1) o) := kept (by rw [← hwd]; exact ⟨HRo3.out.own, HRo3.out.new, HRo3.out.low.drew⟩)
            have HA : Kept (Rd w4 (.slice a1 (0) (0)) (idx (o.take (0)))) := kept (by rw [← hwd]; exact hA)
            have HBs : Kept (Rd w4 (.slice a1 o.length cap1) (idx (o.drop (0)))) := kept (by rw [← hwd]; exact hBs)
            have HNil := kept hnil
            clear hA hBs hnil hwd HRo3
            have hb5 : Below w4.heap.size w4 (w4.alloc (.cells #[.int .i64 (i : Int)] 3)) := (Below.refl _ _).alloc (Nat.le_refl _) _
            have hO5 : Owns (w4.alloc (.cells #[.int .i64 (i : Int)] 3)) 3 (.slice (some ⟨w4.heap.size, 0, none⟩) 1 1) [.int .i64 (i : Int)] :=
              Owns.mk (xs := [.int .i64 (i : Int)]) (Blk.fresh _ _ _) (Nat.le_refl _) (by simp [maxLen]) rfl rfl
            have HB5 := kept hb5
            have HO5 := kept hO5
            have HC5 : Kept (Rd (w4.alloc (.cells #[.int .i64 (i : Int)] 3)) (.slice a1 o.length cap1) (idx (o.drop (0)))) := kept (HBs.out.later hb5)
            clear hb5 hO5
            show wpList _ _ _ [_, _, _, _] _ _
            go_wp2_with (first | (at_builtin; refine wpList_appRd rfl _ _ 22 rfl 3 i0 (.int .i64 0) 8 Try.underlying22 hi hz0 hz1 hz2 rfl _ _ rfl HO5.out a1 _ _ _ rfl HC5.out HNil.out (one_idx _) ?_ ?_ ?_) | fail)
            · simp [maxLen]; omega
            · simp; omega
            intro v6 w6 O6 C6 F6
            obtain ⟨a6, cap6, rfl, hg6⟩ := O6.slice
            have hsz5 : (w4.alloc (.cells #[.int .i64 (i : Int)] 3)).heap.size = w4.heap.size + 1 := by simp
            have hc46 : Chg (fun _ => False) w4 w6 := ((Chg.of_below (S := fun _ => False) HB5.out).trans C6 (fun b hb h => by
              simp [Value.ownBlock] at h; omega))
            have hb6 : Below w4.heap.size w4 w6 := hc46.below (Nat.le_refl _) (fun _ _ h => h)
            have HA6 := kept (HA.out.later hb6)
            have HR6 := kept O6.rd
            have HB6 := kept hb6
            have hl6 : (Value.int .i64 (i : Int) :: idx o).length = o.length + 1 := by simp
            rw [hl6] at HR6 ⊢
            clear O6 C6 F6 hg6 hsz5 hc46 hb6 hl6
            go_wp2_with (first | (at_builtin; refine wpList_appFull rfl _ _ 22 rfl 3 i0 (.int .i64 0) 8 Try.underlying22 hi hz0 hz1 hz2 rfl a1 _ _ rfl HA6.out a6 _ _ _ rfl HR6.out (by omega) ?_ ?_ ?_) | fail)
            · simp [maxLen]; omega
            · omega
            intro v7 w7 O7 B7 F7
            have HO7 : Kept (RowO B w w7 v7 (ordN l (i + 1))) := kept (by
              have e1 : ordN l (i + 1) = o.take (0) ++ i :: o.drop (0) := by
                rw [← HE.out, HO.out]; show (if _ then _ else _) = _; rw [if_pos (by rw [← HY.out]; exact hpos)]
              have h1 := HRo4.out.low.size
              have h2 := HB.out
              have h3 := HB6.out.size
              refine ⟨?_, fun g hg => by have := F7 g hg; omega, (HRo4.out.low.trans (HB6.out.mono (by omega))).trans (B7.mono (by omega))⟩
              rw [e1]; simpa [idx] using O7)
            clear O7 B7 F7
            go_wp2_with fail
            refine hK _ _ ?_
            go_wp2_with fail
            go_roundw
            case rel => exact ⟨i + 1, by omega, by go_num, _, rfl, HO7.out⟩
            case measure => simp [intOf]; omega
      · have p0 : y ≤ 0 := by omega
        have HE : Kept (ordN l (i + 1) = ordN l i) := kept (by show (if _ then _ else _) = _; rw [if_neg (by rw [← HY.out]; exact hpos)])
        have HRo2 : Kept (RowO B w wo v3 (ordN l (i + 1))) := kept (by rw [HE.out]; exact HRo.out)
        go_wp2_with fail
        go_roundw
        case rel => exact ⟨i + 1, by omega, by go_num, _, rfl, HRo2.out⟩
        case measure => simp [intOf]; omega
    · have hin : i = n := by omega
      subst hin
      have HF : Kept (RowO B w wo v3 (ordL l)) := kept (by unfold ordL; rw [HL.out]; exact hro)
      clear hro hlow hRd
      go_wp2_with fail
      go_ret
      exact ⟨v3, rfl, HF.out⟩
end Go.Proofs.Ytejecpmfhgplmaa

-- ---- Re
/- wringerref7.Lengths: what it refuses. Conditions: the list reads as the argument does. -/
namespace Go.Proofs.Ytejecpmfhgplmaa
set_option linter.unusedSimpArgs false
set_option linter.unusedVariables false
open Go.RowKit Mix _root_.Go.Proofs.Ytejecpmfhgplmaa.Own Dp Ol
attribute [local go_sem] Own.max_int Own.min_int

/-- What may be asked, as a Bool. -/
def fqB (l : List Int) (a : Int) : Bool := decide (l.length = 65 ∧ 7 ≤ a ∧ a ≤ 15 ∧ ∀ x ∈ l, 0 ≤ x ∧ x ≤ 16777216)
theorem fqB_iff (l : List Int) (a : Int) : fqB l a = true ↔ ∃ m : Nat, a = (m : Int) ∧ Fq l m := by
  unfold fqB
  rw [decide_eq_true_eq]
  constructor
  · rintro ⟨h1, h2, h3, h4⟩
    exact ⟨a.toNat, by omega, h1, h4, by omega, by omega⟩
  · rintro ⟨m, rfl, h⟩
    exact ⟨h.len, by have := h.lo; omega, by have := h.hi; omega, h.each⟩

set_option maxRecDepth 100000 in
set_option maxHeartbeats 2000000 in
theorem rlen_bad (A0 : Option Addr) (n0 c0 : Nat) (l0 : List Int) (a1 : Int) (w : World) (hR : Rd w (.slice A0 n0 n0) (ints .i64 l0)) (hn : n0 < 200000000000000) (hb : ¬ fqB l0 a1 = true) :
    Calls Try.prog 12 #[.slice A0 n0 c0, .int .i64 a1] w fun e w' => e = .returned (.agg #[.slice none 0 0, .int .i64 1]) ∧ Below w.heap.size w w' := by
  have hl : l0.length = n0 := by have := hR.length; rw [length_ints] at this; exact this.symm
  by_cases h65 : n0 = 65
  · subst h65
    by_cases h7 : a1 < 7
    · have t7 : decide (a1 < 7) = true := decide_eq_true h7
      clear hR hb hl hn
      go_enter Try.func12, Try.ntmps12
      go_wp2_with fail
      exact bodyPost_ret (results_cell_row rfl _ _ w.heap.size 28 #[.slice none 0 0, .int .i64 1] (0, 0) _ rfl (Blk.fresh _ _ _) Try.underlying28 rfl (by kernel_rfl)) rfl ⟨rfl, (Below.refl _ _).alloc (Nat.le_refl _) _⟩
    · have t7 : decide (a1 < 7) = false := decide_eq_false h7
      by_cases h15 : 15 < a1
      · have t15 : decide (15 < a1) = true := decide_eq_true h15
        clear hR hb hl hn
        go_enter Try.func12, Try.ntmps12
        go_wp2_with fail
        exact bodyPost_ret (results_cell_row rfl _ _ w.heap.size 28 #[.slice none 0 0, .int .i64 1] (0, 0) _ rfl (Blk.fresh _ _ _) Try.underlying28 rfl (by kernel_rfl)) rfl ⟨rfl, (Below.refl _ _).alloc (Nat.le_refl _) _⟩
      · have t15 : decide (15 < a1) = false := decide_eq_false h15
        obtain ⟨j, hj, hjb⟩ : ∃ j, j < 65 ∧ ¬ (0 ≤ l0.getD j 0 ∧ l0.getD j 0 ≤ 16777216) := by
          refine Classical.byContradiction fun hc => hb ?_
          unfold fqB
          rw [decide_eq_true_eq]
          refine ⟨hl, by omega, by omega, fun x hx => ?_⟩
          obtain ⟨j, hj, e⟩ := List.getElem_of_mem hx
          refine Classical.byContradiction fun hx2 => hc ⟨j, by omega, ?_⟩
          have e2 : l0.getD j 0 = x := by simp [List.getD_eq_getElem?_getD, hj, e]
          rw [e2]; exact hx2
        obtain ⟨B, hB⟩ : ∃ B, B = w.heap.size := ⟨_, rfl⟩
        have HB := kept hB
        have HR := kept hR
        have HL := kept hl
        have HJ := kept hjb
        clear hR hb hl hn hjb hB
        go_enter Try.func12, Try.ntmps12
        go_wp2_with fail
        rw [show w.heap.size = B from HB.out.symm]
        generalize hw1 : World.alloc w _ = w1
        have HR1 := kept (HR.out.later (show Below w.heap.size w w1 by rw [← hw1]; exact (Below.refl _ _).alloc (Nat.le_refl _) _))
        have HS : Kept (Blk w1 B #[.slice none 0 0, .int .i64 0] 28 ∧ Below B w w1) := kept (by rw [← hw1, HB.out]; exact ⟨Blk.fresh _ _ _, (Below.refl _ _).alloc (Nat.le_refl _) _⟩)
        clear hw1
        go_loopw [5] (fun s5 wr => ∃ i : Nat, i ≤ j ∧ s5 = .int .i64 (i : Int) ∧ wr = w1) (fun s5 _ => 65 - (intOf s5).toNat)
        case atStart => exact ⟨0, by omega, rfl, rfl⟩
        case round =>
          obtain ⟨i, hi, rfl, rfl⟩ := hrel
          have hil : i < 65 := by omega
          obtain ⟨x, rfl, hc⟩ := HR1.out.at (Own.ints_at .i64 l0 i (by rw [HL.out]; omega))
          by_cases hij : i = j
          · subst hij
            have hy := HJ.out
            have hd0 := HS.out.1.cell (i := 0) rfl
            have hd1 := HS.out.1.cell (i := 1) rfl
            have hf0 := HS.out.1.free 0
            have hf1 := HS.out.1.free 1
            obtain ⟨y, hye⟩ : ∃ y, y = l0.getD i 0 := ⟨_, rfl⟩
            rw [← hye] at hc hy
            clear hye
            by_cases h0 : y < 0
            · have ty : decide (y < 0) = true := decide_eq_true h0
              clear hy
              go_wp2_with fail
              exact bodyPost_ret (results_cell_row rfl _ _ B 28 #[.slice none 0 0, .int .i64 1] (0, 0) _ rfl ((HS.out.1.set 0 _).set 1 _) Try.underlying28 rfl (by kernel_rfl)) rfl ⟨rfl, by rw [← HB.out]; exact (HS.out.2.setCell (p := ⟨B, 0, none⟩) (Nat.le_refl _) _).setCell (p := ⟨B, 1, none⟩) (Nat.le_refl _) _⟩
            · have ty : decide (y < 0) = false := decide_eq_false h0
              have tz : decide (16777216 < y) = true := decide_eq_true (by omega)
              have hz : 16777216 < y := by omega
              clear hy
              go_wp2_with fail
              exact bodyPost_ret (results_cell_row rfl _ _ B 28 #[.slice none 0 0, .int .i64 1] (0, 0) _ rfl ((HS.out.1.set 0 _).set 1 _) Try.underlying28 rfl (by kernel_rfl)) rfl ⟨rfl, by rw [← HB.out]; exact (HS.out.2.setCell (p := ⟨B, 0, none⟩) (Nat.le_refl _) _).setCell (p := ⟨B, 1, none⟩) (Nat.le_refl _) _⟩
          · obtain ⟨y, hye⟩ : ∃ y, y = l0.getD i 0 := ⟨_, rfl⟩
            rw [← hye] at hc
            clear hye
            have hd0 := HS.out.1.cell (i := 0) rfl
            have hd1 := HS.out.1.cell (i := 1) rfl
            have hf0 := HS.out.1.free 0
            have hf1 := HS.out.1.free 1
            by_cases h0 : y < 0
            · have ty : decide (y < 0) = true := decide_eq_true h0
              go_wp2_with fail
              exact bodyPost_ret (results_cell_row rfl _ _ B 28 #[.slice none 0 0, .int .i64 1] (0, 0) _ rfl ((HS.out.1.set 0 _).set 1 _) Try.underlying28 rfl (by kernel_rfl)) rfl ⟨rfl, by rw [← HB.out]; exact (HS.out.2.setCell (p := ⟨B, 0, none⟩) (Nat.le_refl _) _).setCell (p := ⟨B, 1, none⟩) (Nat.le_refl _) _⟩
            · have ty : decide (y < 0) = false := decide_eq_false h0
              by_cases hz : 16777216 < y
              · have tz : decide (16777216 < y) = true := decide_eq_true hz
                go_wp2_with fail
                exact bodyPost_ret (results_cell_row rfl _ _ B 28 #[.slice none 0 0, .int .i64 1] (0, 0) _ rfl ((HS.out.1.set 0 _).set 1 _) Try.underlying28 rfl (by kernel_rfl)) rfl ⟨rfl, by rw [← HB.out]; exact (HS.out.2.setCell (p := ⟨B, 0, none⟩) (Nat.le_refl _) _).setCell (p := ⟨B, 1, none⟩) (Nat.le_refl _) _⟩
              · have tz : decide (16777216 < y) = false := decide_eq_false hz
                go_wp2_with fail
                go_roundw
                case rel => exact ⟨i + 1, by omega, by go_num, trivial⟩
                case measure => simp [intOf]; omega
  · have t65 : ((n0 : Int) != 65) = true := by simp; omega
    clear hR hb hl h65
    go_enter Try.func12, Try.ntmps12
    go_wp2_with fail
    exact bodyPost_ret (results_cell_row rfl _ _ w.heap.size 28 #[.slice none 0 0, .int .i64 1] (0, 0) _ rfl (Blk.fresh _ _ _) Try.underlying28 rfl (by kernel_rfl)) rfl ⟨rfl, (Below.refl _ _).alloc (Nat.le_refl _) _⟩
end Go.Proofs.Ytejecpmfhgplmaa

-- ---- Mj
/- merge.may: whether frequencies and a limit may be. Conditions: the list reads as the argument does. -/
namespace Go.Proofs.Ytejecpmfhgplmaa
set_option linter.unusedSimpArgs false
set_option linter.unusedVariables false
open Go.RowKit Mix _root_.Go.Proofs.Ytejecpmfhgplmaa.Own Dp Ol

/-- No frequency. -/
def badF (x : Int) : Bool := decide (x < 0) || decide (16777216 < x)
theorem may1_calls (x : Int) (w : World) : Calls Try.prog 26 #[.int .i64 x] w fun e w' => e = .returned (.bool (badF x)) ∧ w = w' := by
  by_cases h1 : x < 0
  · have t1 : decide (x < 0) = true := decide_eq_true h1
    have HB := kept (show badF x = true by unfold badF; rw [t1]; rfl)
    go_enter Try.func26, Try.ntmps26
    go_wp2_with fail
    go_ret
    exact ⟨by rw [HB.out]; rfl, rfl⟩
  · have t1 : decide (x < 0) = false := decide_eq_false h1
    by_cases h2 : 16777216 < x
    · have t2 : decide (16777216 < x) = true := decide_eq_true h2
      have HB := kept (show badF x = true by unfold badF; rw [t1, t2]; rfl)
      go_enter Try.func26, Try.ntmps26
      go_wp2_with fail
      go_ret
      exact ⟨by rw [HB.out]; rfl, rfl⟩
    · have t2 : decide (16777216 < x) = false := decide_eq_false h2
      have HB := kept (show badF x = false by unfold badF; rw [t1, t2]; rfl)
      go_enter Try.func26, Try.ntmps26
      go_wp2_with fail
      go_ret
      exact ⟨by rw [HB.out]; rfl, rfl⟩

/-- Whether one of them is bad, as an index. -/
def IdxE (l : List Int) (w : World) (e : Ending) (w' : World) : Prop := (∃ r : Int, e = .returned (.int .i64 r) ∧ decide (0 ≤ r) = l.any badF) ∧ w = w'
set_option maxHeartbeats 2000000 in
theorem idxf_calls (A0 : Option Addr) (n0 c0 : Nat) (l0 : List Int) (w : World) (hR : Rd w (.slice A0 n0 n0) (ints .i64 l0)) (hn : n0 < 200000000000000) :
    Calls Try.prog 33 #[.slice A0 n0 c0, .func (.func 26) #[] #[]] w (IdxE l0 w) := by
  have hl : l0.length = n0 := by have := hR.length; rw [length_ints] at this; exact this.symm
  have HR := kept hR
  have HL := kept hl
  clear hR hl
  go_enter Try.func33, Try.ntmps33
  go_wp2_with fail
  go_loop [8] (fun s8 => ∃ i : Nat, i ≤ n0 ∧ s8 = .int .i64 (i : Int) ∧ ∀ j, j < i → badF (l0.getD j 0) = false) (fun s8 => n0 - (intOf s8).toNat)
  case atStart => exact ⟨0, Nat.zero_le _, rfl, fun j h => by omega⟩
  case round =>
    obtain ⟨i, hi, rfl, hall⟩ := hrel
    have HAll := kept hall
    clear hall
    by_cases hlt : i < n0
    · obtain ⟨x, rfl, hc⟩ := HR.out.at (Own.ints_at .i64 l0 i (by rw [HL.out]; exact hlt))
      obtain ⟨y, hy⟩ : ∃ y, y = l0.getD i 0 := ⟨_, rfl⟩
      rw [← hy] at hc
      cases hb : badF y with
      | true =>
        have HY := kept hy
        have HB := kept hb
        clear hy hb
        go_wp2_with (first | (go_at_call 26; refine (may1_calls y _).mono ?_; rw [HB.out]; rintro e w1 ⟨rfl, rfl⟩))
        go_ret
        refine ⟨⟨_, rfl, ?_⟩, rfl⟩
        have h1 : l0.any badF = true := List.any_eq_true.2 ⟨y, by rw [HY.out]; have : i < l0.length := by rw [HL.out]; exact hlt
                                                                  simp [List.getD_eq_getElem?_getD, this], HB.out⟩
        rw [h1]; exact decide_eq_true (by omega)
      | false =>
        have HY := kept hy
        have HB := kept hb
        clear hy hb
        go_wp2_with (first | (go_at_call 26; refine (may1_calls y _).mono ?_; rw [HB.out]; rintro e w1 ⟨rfl, rfl⟩))
        go_round
        case rel => exact ⟨i + 1, by omega, by go_num, fun j hj => by
          by_cases e : j = i
          · rw [e, ← HY.out]; exact HB.out
          · exact HAll.out j (by omega)⟩
        case measure => simp [intOf]; omega
    · have hie : i = n0 := by omega
      subst hie
      go_wp2_with fail
      go_ret
      refine ⟨⟨_, rfl, ?_⟩, rfl⟩
      have h1 : l0.any badF = false := by
        rw [Bool.eq_false_iff]
        intro h
        obtain ⟨y, hy, hb⟩ := List.any_eq_true.1 h
        obtain ⟨j, hj, e⟩ := List.getElem_of_mem hy
        have := HAll.out j (by rw [← HL.out]; exact hj)
        rw [show l0.getD j 0 = y by simp [List.getD_eq_getElem?_getD, hj, e]] at this
        rw [this] at hb; cases hb
      rw [h1]; rfl

theorem contf_calls (A0 : Option Addr) (n0 c0 : Nat) (l0 : List Int) (w : World) (hR : Rd w (.slice A0 n0 n0) (ints .i64 l0)) (hn : n0 < 200000000000000) :
    Calls Try.prog 25 #[.slice A0 n0 c0, .func (.func 26) #[] #[]] w fun e w' => e = .returned (.bool (l0.any badF)) ∧ w = w' := by
  have HC := kept (idxf_calls A0 n0 c0 l0 w hR hn)
  clear hR
  go_enter Try.func25, Try.ntmps25
  go_wp2_with (first | (go_at_call 33; refine HC.out.mono ?_; rintro e w1 ⟨⟨r, rfl, hr⟩, rfl⟩; have HRr := kept hr; clear hr))
  go_ret
  exact ⟨by rw [HRr.out]; rfl, rfl⟩

set_option maxHeartbeats 2000000 in
theorem mmay_calls (A0 : Option Addr) (n0 c0 : Nat) (l0 : List Int) (a1 : Int) (w : World) (hR : Rd w (.slice A0 n0 n0) (ints .i64 l0)) (hn : n0 < 200000000000000) :
    Calls Try.prog 19 #[.slice A0 n0 c0, .int .i64 a1] w fun e w' => e = .returned (.bool (fqB l0 a1)) ∧ w = w' := by
  have hl : l0.length = n0 := by have := hR.length; rw [length_ints] at this; exact this.symm
  have hbad : l0.any badF = false ↔ ∀ x ∈ l0, 0 ≤ x ∧ x ≤ 16777216 := by
    rw [Bool.eq_false_iff, Ne, List.any_eq_true]
    constructor
    · intro h x hx
      have h2 : badF x ≠ true := fun e => h ⟨x, hx, e⟩
      unfold badF at h2
      simp at h2
      omega
    · rintro h ⟨x, hx, hb⟩
      have := h x hx
      unfold badF at hb
      simp at hb
      omega
  have hq : fqB l0 a1 = (decide (n0 = 65) && !(l0.any badF) && decide (7 ≤ a1) && decide (a1 ≤ 15)) := by
    unfold fqB
    rw [Bool.eq_iff_iff]
    simp only [decide_eq_true_eq, Bool.and_eq_true, Bool.not_eq_true', hbad, hl]
    constructor
    · rintro ⟨h1, h2, h3, h4⟩; exact ⟨⟨⟨h1, h4⟩, h2⟩, h3⟩
    · rintro ⟨⟨⟨h1, h4⟩, h2⟩, h3⟩; exact ⟨h1, h2, h3, h4⟩
  have HC := kept (contf_calls A0 n0 c0 l0 w hR hn)
  have HQ := kept hq
  clear hR hl hbad hq
  obtain ⟨b, hb⟩ : ∃ b, b = l0.any badF := ⟨_, rfl⟩
  rw [← hb] at HC HQ
  clear hb
  by_cases h65 : n0 = 65
  · subst h65
    cases b with
    | true =>
      have HE := kept (show fqB l0 a1 = false by rw [HQ.out]; rfl)
      go_enter Try.func19, Try.ntmps19
      go_wp2_with (first | (go_at_call 25; refine HC.out.mono ?_; rintro e w1 ⟨rfl, rfl⟩))
      go_ret
      exact ⟨by rw [HE.out]; rfl, rfl⟩
    | false =>
      by_cases h7 : 7 ≤ a1
      · have t7 : decide (7 ≤ a1) = true := decide_eq_true h7
        by_cases h15 : a1 ≤ 15
        · have t15 : decide (a1 ≤ 15) = true := decide_eq_true h15
          have HE := kept (show fqB l0 a1 = true by rw [HQ.out, t7, t15]; rfl)
          go_enter Try.func19, Try.ntmps19
          go_wp2_with (first | (go_at_call 25; refine HC.out.mono ?_; rintro e w1 ⟨rfl, rfl⟩))
          go_ret
          exact ⟨by rw [HE.out]; rfl, rfl⟩
        · have t15 : decide (a1 ≤ 15) = false := decide_eq_false h15
          have HE := kept (show fqB l0 a1 = false by rw [HQ.out, t7, t15]; rfl)
          go_enter Try.func19, Try.ntmps19
          go_wp2_with (first | (go_at_call 25; refine HC.out.mono ?_; rintro e w1 ⟨rfl, rfl⟩))
          go_ret
          exact ⟨by rw [HE.out]; rfl, rfl⟩
      · have t7 : decide (7 ≤ a1) = false := decide_eq_false h7
        have HE := kept (show fqB l0 a1 = false by rw [HQ.out, t7]; rfl)
        go_enter Try.func19, Try.ntmps19
        go_wp2_with (first | (go_at_call 25; refine HC.out.mono ?_; rintro e w1 ⟨rfl, rfl⟩))
        go_ret
        exact ⟨by rw [HE.out]; rfl, rfl⟩
  · have t65 : ((n0 : Int) == 65) = false := by rw [beq_eq_false_iff_ne]; omega
    have HE := kept (show fqB l0 a1 = false by rw [HQ.out, decide_eq_false h65]; rfl)
    clear h65
    go_enter Try.func19, Try.ntmps19
    go_wp2_with (first | (go_at_call 25; refine HC.out.mono ?_; rintro e w1 ⟨rfl, rfl⟩))
    go_ret
    exact ⟨by rw [HE.out]; rfl, rfl⟩
end Go.Proofs.Ytejecpmfhgplmaa

-- ---- Hah
/- A heap's own methods: what the calls answer, and what they do to the heap's memory. -/
namespace Go.Proofs.Ytejecpmfhgplmaa.HistH
set_option linter.unusedSimpArgs false
set_option linter.unusedVariables false
open Go.RowKit Mix _root_.Go.Proofs.Ytejecpmfhgplmaa.Own Ol Hp
attribute [local go_sem] Own.max_int Own.min_int

/-- Pairs, their cells one behind the other. -/
def fl (l : List (Int × Int)) : List Value := l.flatMap fun a => [.int .i64 a.1, .int .i64 a.2]
theorem length_fl (l : List (Int × Int)) : (fl l).length = l.length * 2 := by
  induction l with
  | nil => rfl
  | cons a t ih => simp only [fl, List.flatMap_cons, List.length_append, List.length_cons, List.length_nil] at *; omega
theorem fl_append (a b : List (Int × Int)) : fl (a ++ b) = fl a ++ fl b := by simp [fl, List.flatMap_append]
theorem fl_at (l : List (Int × Int)) : ∀ (i : Nat), i < l.length → (fl l)[i * 2]? = some (.int .i64 (at_ l i).1) ∧ (fl l)[i * 2 + 1]? = some (.int .i64 (at_ l i).2) := by
  induction l with
  | nil => intro i h; simp at h
  | cons a t ih =>
    intro i h
    cases i with
    | zero => exact ⟨rfl, rfl⟩
    | succ i =>
      have := ih i (by simpa using h)
      have e : at_ (a :: t) (i + 1) = at_ t i := by simp [at_]
      rw [e]
      have e2 : fl (a :: t) = .int .i64 a.1 :: .int .i64 a.2 :: fl t := rfl
      rw [e2, show (i + 1) * 2 = i * 2 + 1 + 1 by omega]
      exact this
theorem fl_set (l : List (Int × Int)) : ∀ (i : Nat) (x : Int × Int), i < l.length → fl (l.set i x) = ((fl l).set (i * 2) (.int .i64 x.1)).set (i * 2 + 1) (.int .i64 x.2) := by
  induction l with
  | nil => intro i x h; simp at h
  | cons a t ih =>
    intro i x h
    have e2 : fl (a :: t) = .int .i64 a.1 :: .int .i64 a.2 :: fl t := rfl
    cases i with
    | zero => rw [e2]; rfl
    | succ i =>
      have := ih i x (by simpa using h)
      rw [e2, show (i + 1) * 2 = i * 2 + 1 + 1 by omega]
      simp only [List.set_cons_succ]
      rw [← this]; rfl

theorem infoE : (Try.prog.info? 70).map (fun i => (i.zero, i.size, i.bytes)) = some (some (.agg #[.int .i64 0, .int .i64 0]), 2, 16) := by kernel_rfl
theorem info_partsE {i : Option TypeInfo} {z : Value} {s b : Nat} (h : i.map (fun i => (i.zero, i.size, i.bytes)) = some (some z, s, b)) : ∃ i0, i = some i0 ∧ i0.zero = some z ∧ i0.size = s ∧ i0.bytes = b := by
  cases i with
  | none => simp at h
  | some i => simp at h; exact ⟨i, rfl, h.1, h.2.1, h.2.2⟩

set_option maxHeartbeats 4000000 in
theorem less_calls (g n cap : Nat) (l : List (Int × Int)) (i j : Nat) (w : World) (hO : OwnK w 70 2 (.slice (some ⟨g, 0, none⟩) n cap) n (fl l)) (hi : i < n) (hj : j < n) (b : Bool) (hb : b = ltG (at_ l i) (at_ l j)) :
    Calls Try.prog 52 #[.slice (some ⟨g, 0, none⟩) n cap, .int .i64 (i : Int), .int .i64 (j : Int)] w fun e w' => e = .returned (.bool b) ∧ Below w.heap.size w w' := by
  have hln : l.length = n := by have := hO.1; rw [length_fl] at this; omega
  obtain ⟨c1, c2⟩ := fl_at l i (by omega)
  obtain ⟨d1, d2⟩ := fl_at l j (by omega)
  have c1 := hO.cell c1
  have c2 := hO.cell c2
  have d1 := hO.cell d1
  have d2 := hO.cell d2
  generalize at_ l i = a at c1 c2 hb
  generalize at_ l j = c at d1 d2 hb
  obtain ⟨a1, a2⟩ := a
  obtain ⟨b1, b2⟩ := c
  unfold ltG at hb
  have l1 := lat_cell c1
  have l2 := lat_cell c2
  have l3 := lat_cell d1
  have l4 := lat_cell d2
  clear hO c1 c2 d1 d2 hln
  by_cases h1 : b2 < a2
  · have e : b = true := by rw [hb, decide_eq_true_eq]; exact .inl h1
    subst e
    have t1 : decide (b2 < a2) = true := by simpa using h1
    clear hb h1
    go_enter Try.func52, Try.ntmps52
    go_wp2_with fail
    refine wp_region_quietL (by kernel_rfl) (by kernel_rfl) ?_
    repeat (go_big_quiet_step (fail))
    refine wpQuiet_nil ?_
    intro nq
    go_wp2_with fail
    go_ret
    exact ⟨rfl, nq.below⟩
  · have t1 : decide (b2 < a2) = false := by simpa using h1
    by_cases h2 : a2 = b2
    · subst h2
      have t2 : (a2 == a2) = true := by simp
      have e : b = decide (a1 < b1) := by rw [hb]; congr 1; rw [eq_iff_iff]; exact ⟨fun h => h.elim (fun h => absurd h h1) (fun h => h.2), fun h => .inr ⟨rfl, h⟩⟩
      subst e
      clear hb h1
      by_cases h3 : a1 < b1
      · have t3 : decide (a1 < b1) = true := by simpa using h3
        rw [t3]
        clear h3
        go_enter Try.func52, Try.ntmps52
        go_wp2_with fail
        refine wp_region_quietL (by kernel_rfl) (by kernel_rfl) ?_
        repeat (go_big_quiet_step (fail))
        refine wpQuiet_nil ?_
        intro nq
        go_wp2_with fail
        go_ret
        exact ⟨rfl, nq.below⟩
      · have t3 : decide (a1 < b1) = false := by simpa using h3
        rw [t3]
        clear h3
        go_enter Try.func52, Try.ntmps52
        go_wp2_with fail
        refine wp_region_quietL (by kernel_rfl) (by kernel_rfl) ?_
        repeat (go_big_quiet_step (fail))
        refine wpQuiet_nil ?_
        intro nq
        go_wp2_with fail
        go_ret
        exact ⟨rfl, nq.below⟩
    · have t2 : (a2 == b2) = false := by simpa using h2
      have e : b = false := by rw [hb, decide_eq_false_iff_not]; rintro (h | h); exact h1 h; exact h2 h.1
      subst e
      clear hb h1 h2
      go_enter Try.func52, Try.ntmps52
      go_wp2_with fail
      refine wp_region_quietL (by kernel_rfl) (by kernel_rfl) ?_
      repeat (go_big_quiet_step (fail))
      refine wpQuiet_nil ?_
      intro nq
      go_wp2_with fail
      go_ret
      exact ⟨rfl, nq.below⟩
end Go.Proofs.Ytejecpmfhgplmaa.HistH

-- ---- Hbh
/- A heap's Swap, Push and Pop of its own. -/
namespace Go.Proofs.Ytejecpmfhgplmaa.HistH
set_option linter.unusedSimpArgs false
set_option linter.unusedVariables false
open Go.RowKit Mix _root_.Go.Proofs.Ytejecpmfhgplmaa.Own Ol Hp
attribute [local go_sem] Own.max_int Own.min_int

set_option maxHeartbeats 4000000 in
theorem swap_calls (g n cap : Nat) (l : List (Int × Int)) (i j : Nat) (w : World) (hO : OwnK w 70 2 (.slice (some ⟨g, 0, none⟩) n cap) n (fl l)) (hi : i < n) (hj : j < n) :
    Calls Try.prog 55 #[.slice (some ⟨g, 0, none⟩) n cap, .int .i64 (i : Int), .int .i64 (j : Int)] w fun e w' => e = .returned (.tuple #[]) ∧ OwnK w' 70 2 (.slice (some ⟨g, 0, none⟩) n cap) n (fl (swapL l i j)) ∧ Chg (fun b => b = g) w w' := by
  have hln : l.length = n := by have := hO.1; rw [length_fl] at this; omega
  obtain ⟨c1, c2⟩ := fl_at l i (by omega)
  obtain ⟨d1, d2⟩ := fl_at l j (by omega)
  have c1 := hO.cell c1
  have c2 := hO.cell c2
  have d1 := hO.cell d1
  have d2 := hO.cell d2
  have hsw : fl (swapL l i j) = ((((fl l).set (i * 2) (.int .i64 (at_ l j).1)).set (i * 2 + 1) (.int .i64 (at_ l j).2)).set (j * 2) (.int .i64 (at_ l i).1)).set (j * 2 + 1) (.int .i64 (at_ l i).2) := by
    unfold swapL
    rw [fl_set _ j _ (by rw [List.length_set]; omega), fl_set l i _ (by omega)]
  generalize at_ l i = a at c1 c2 hsw
  generalize at_ l j = c at d1 d2 hsw
  obtain ⟨a1, a2⟩ := a
  obtain ⟨b1, b2⟩ := c
  have l1 := lat_cell c1
  have l2 := lat_cell c2
  have l3 := lat_cell d1
  have l4 := lat_cell d2
  have HO := kept hO
  have HSw := kept hsw
  clear hO c1 c2 d1 d2 hln hsw
  go_enter Try.func55, Try.ntmps55
  go_wp2_with fail
  refine wp_region_mixL [2,3] [0,1,4,5,6,7,8,9,10,11,12] [13,14,15] (by kernel_rfl) (by kernel_rfl) ?_
  intro K hK
  simp only [pick, List.filterMap_cons, List.filterMap_nil, List.getElem?_cons_zero, List.getElem?_cons_succ]
  repeat (show wpQuiet _ _ _ _ (_ :: _) _; go_big_quiet_step (fail))
  refine wpQuiet_nil ?_
  show wpList _ _ _ [_, _, _] _ _
  generalize hwd : World.drew w = wd
  have HOd : Kept (OwnK wd 70 2 (.slice (some ⟨g, 0, none⟩) n cap) n (fl l)) := kept (by rw [← hwd]; exact HO.out.later ((Below.refl _ _).drew))
  have HCd : Kept (Chg (fun b => b = g) w wd) := kept (by rw [← hwd]; exact Chg.drew _ _)
  have c1 : wd.cell? ⟨g, i * 2, none⟩ = some (.int .i64 a1) := by rw [← hwd]; exact l1 (Lat.drew w)
  have c2 : wd.cell? ⟨g, i * 2 + 1, none⟩ = some (.int .i64 a2) := by rw [← hwd]; exact l2 (Lat.drew w)
  have d1 : wd.cell? ⟨g, j * 2, none⟩ = some (.int .i64 b1) := by rw [← hwd]; exact l3 (Lat.drew w)
  have d2 : wd.cell? ⟨g, j * 2 + 1, none⟩ = some (.int .i64 b2) := by rw [← hwd]; exact l4 (Lat.drew w)
  have q1 := HOd.out.free (i * 2)
  have q2 := HOd.out.free (i * 2 + 1)
  have q3 := HOd.out.free (j * 2)
  have q4 := HOd.out.free (j * 2 + 1)
  clear hwd l1 l2 l3 l4
  have HFin : Kept (OwnK ((((wd.setCell ⟨g, i * 2, none⟩ (.int .i64 b1)).setCell ⟨g, i * 2 + 1, none⟩ (.int .i64 b2)).setCell ⟨g, j * 2, none⟩ (.int .i64 a1)).setCell ⟨g, j * 2 + 1, none⟩ (.int .i64 a2)) 70 2 (.slice (some ⟨g, 0, none⟩) n cap) n (fl (swapL l i j)) ∧
      Chg (fun b => b = g) w ((((wd.setCell ⟨g, i * 2, none⟩ (.int .i64 b1)).setCell ⟨g, i * 2 + 1, none⟩ (.int .i64 b2)).setCell ⟨g, j * 2, none⟩ (.int .i64 a1)).setCell ⟨g, j * 2 + 1, none⟩ (.int .i64 a2))) := kept (by
    rw [HSw.out]
    exact ⟨(((HOd.out.store _ _).store _ _).store _ _).store _ _, (((HCd.out.trans (Chg.setCell _ _ _) (fun _ _ h => h)).trans (Chg.setCell _ _ _) (fun _ _ h => h)).trans (Chg.setCell _ _ _) (fun _ _ h => h)).trans (Chg.setCell _ _ _) (fun _ _ h => h)⟩)
  by_cases hij : i = j
  · subst hij
    go_wp2_with fail
    refine hK _ _ ?_
    go_wp2_with fail
    go_end0
    exact ⟨rfl, HFin.out.1, HFin.out.2⟩
  · have n1 : i * 2 ≠ j * 2 := by omega
    have n2 : i * 2 + 1 ≠ j * 2 := by omega
    have n3 : i * 2 ≠ j * 2 + 1 := by omega
    have n4 : i * 2 + 1 ≠ j * 2 + 1 := by omega
    go_wp2_with fail
    refine hK _ _ ?_
    go_wp2_with fail
    go_end0
    exact ⟨rfl, HFin.out.1, HFin.out.2⟩

theorem assertE (x : TypeId) (v : Value) (w : World) : (Instr.typeAssert (.iface 70 v) x 70 true).run Try.prog w = .ok (.tuple #[v, .bool true]) w := by kernel_rfl

/-- A heap at block p, its pairs at v. -/
structure IsHp (w : World) (p : Nat) (v : Value) (l : List (Int × Int)) : Prop where
  blk : Blk w p #[v] 67
  row : OwnK w 70 2 v l.length (fl l)
theorem IsHp.later {w w' : World} {p : Nat} {v : Value} {l : List (Int × Int)} (h : IsHp w p v l) (hb : Below w.heap.size w w') : IsHp w' p v l := ⟨(hb.block p h.blk.lt).trans h.blk, h.row.later hb⟩
theorem IsHp.keep {w w' : World} {S : Nat → Prop} {p : Nat} {v : Value} {l : List (Int × Int)} (h : IsHp w p v l) (hc : Chg S w w') (hp : ¬ S p) (hv : ∀ g, v.ownBlock = some g → ¬ S g) : IsHp w' p v l :=
  ⟨hc.keep h.blk hp, h.row.chg hc hv⟩
theorem IsHp.ne {w : World} {p : Nat} {v : Value} {l : List (Int × Int)} (h : IsHp w p v l) : v.ownBlock ≠ some p := h.row.ne h.blk (by decide)
theorem IsHp.row0 {w : World} {p : Nat} {v : Value} {l : List (Int × Int)} (h : IsHp w p v l) (h0 : 0 < l.length) : ∃ g cap, v = .slice (some ⟨g, 0, none⟩) l.length cap ∧ l.length ≤ cap ∧ cap ≤ maxLen ∧ g ≠ p ∧ g < w.heap.size := by
  obtain ⟨a, cap, rfl, h1, h2, h3⟩ := h.row.slice
  obtain ⟨g, rfl⟩ := h3 h0
  exact ⟨g, cap, rfl, h1, h2, fun e => h.ne (by simp [Value.ownBlock, e]), h.row.lt g rfl⟩

set_option maxHeartbeats 4000000 in
theorem push_calls (p : Nat) (v : Value) (l : List (Int × Int)) (a1 a2 : Int) (w : World) (h : IsHp w p v l) (hl : l.length ≤ 1000000) :
    Calls Try.prog 54 #[.pointer (some ⟨p, 0, none⟩), .iface 70 (.agg #[.int .i64 a1, .int .i64 a2])] w fun e w' => e = .returned (.tuple #[]) ∧
      ∃ v', IsHp w' p v' (l ++ [(a1, a2)]) ∧ Chg (fun b => b = p ∨ some b = v.ownBlock) w w' ∧ ∀ g, v'.ownBlock = some g → some g = v.ownBlock ∨ w.heap.size ≤ g := by
  obtain ⟨j0, hj, hy0, hy1, hy2⟩ := info_partsE infoE
  have hpl := h.blk.lt
  have hta := assertE
  have c0 : w.cell? ⟨p, 0, none⟩ = some v := h.blk.cell rfl
  have H := kept h
  clear h
  go_enter Try.func54, Try.ntmps54
  go_wp2_with fail
  obtain ⟨C, hC⟩ : ∃ C, C = w.heap.size := ⟨_, rfl⟩
  rw [← hC]
  generalize hwa : World.alloc w _ = wa
  have hG : Blk wa C #[.int .i64 a1, .int .i64 a2] 70 := by rw [← hwa, hC]; exact Blk.fresh _ _ _
  have hBa : Below w.heap.size w wa := by rw [← hwa]; exact (Below.refl _ _).alloc (Nat.le_refl _) _
  have HA := kept (H.out.later hBa)
  have HBa := kept hBa
  have HCs := kept hC
  have g0 : wa.cell? ⟨C, 0, none⟩ = some (.int .i64 a1) := hG.cell rfl
  have g1 : wa.cell? ⟨C, 1, none⟩ = some (.int .i64 a2) := hG.cell rfl
  have c1 : wa.cell? ⟨p, 0, none⟩ = some v := HA.out.blk.cell rfl
  have k0 := lat_cell g0
  have k1 := lat_cell g1
  have k2 := lat_cell c1
  clear hwa hG hBa c0 g0 g1 c1 hta hC
  refine wp_region_mixL [0] [1,2,3,4] [5,6,7,8] (by kernel_rfl) (by kernel_rfl) ?_
  intro K hK
  simp only [pick, List.filterMap_cons, List.filterMap_nil, List.getElem?_cons_zero, List.getElem?_cons_succ]
  repeat (show wpQuiet _ _ _ _ (_ :: _) _; go_big_quiet_step (fail))
  refine wpQuiet_nil ?_
  show wpList _ _ _ [_, _, _, _] _ _
  generalize hwd : World.drew wa = wd
  have HD : Kept (IsHp wd p v l) := kept (by rw [← hwd]; exact HA.out.later ((Below.refl _ _).drew))
  have HBd : Kept (Below w.heap.size w wd) := kept (by rw [← hwd]; exact HBa.out.drew)
  clear hwd k0 k1 k2
  obtain ⟨va, vc, rfl, _⟩ := HD.out.row.slice
  go_wp2_with (first | (at_builtin; refine wpList_appK1 rfl _ _ 67 rfl 70 j0 (.agg #[.int .i64 0, .int .i64 0]) 2 16 Try.underlying67 hj hy0 hy1 hy2 rfl (by decide) (.slice va l.length vc) l.length _ [.int .i64 a1, .int .i64 a2] rfl HD.out.row rfl (by intro u hu; simp at hu; rcases hu with rfl | rfl <;> rfl) rfl ?_ ?_ ?_))
  · simp [maxLen]; omega
  · omega
  intro v7 w7 O7 C7 F7
  obtain ⟨a7, cap7, rfl, _⟩ := O7.slice
  have hne : (Value.slice va l.length vc).ownBlock ≠ some p := HD.out.ne
  have hB7 : Blk w7 p #[.slice va l.length vc] 67 := C7.keep HD.out.blk (fun e => hne e.symm)
  have c7 : w7.cell? ⟨p, 0, none⟩ = some (.slice va l.length vc) := hB7.cell rfl
  have f7 : w7.frozen? ⟨p, 0, none⟩ = false := hB7.free 0
  have HB7 := kept hB7
  have HO7 : Kept (OwnK w7 70 2 (.slice a7 (l.length + 1) cap7) (l.length + 1) (fl (l ++ [(a1, a2)]))) := kept (by rw [fl_append]; exact O7)
  have HC7 : Kept (Chg (fun b => b = p ∨ some b = (Value.slice va l.length vc).ownBlock) w w7) := kept ((Chg.of_below HBd.out).trans C7 (fun b _ h => .inr h))
  have HF7 : Kept (∀ g, (Value.slice a7 (l.length + 1) cap7).ownBlock = some g → some g = (Value.slice va l.length vc).ownBlock ∨ w.heap.size ≤ g) := kept (fun g hg => (F7 g hg).imp id fun h => Nat.le_trans HBd.out.size h)
  clear hB7 O7 C7 F7 hne
  go_wp2_with fail
  refine hK _ _ ?_
  go_wp2_with fail
  go_end0
  have hl1 : (l ++ [(a1, a2)]).length = l.length + 1 := by simp
  refine ⟨rfl, _, ⟨HB7.out.set 0 _, ?_⟩, HC7.out.trans (Chg.setCell _ ⟨p, 0, none⟩ _) (fun b _ h => .inl h), HF7.out⟩
  rw [hl1]
  exact HO7.out.setOther (a := ⟨p, 0, none⟩) (HO7.out.ne HB7.out (by decide)) _

set_option maxHeartbeats 4000000 in
theorem pop_calls (p g n cap : Nat) (l : List (Int × Int)) (w : World) (h : IsHp w p (.slice (some ⟨g, 0, none⟩) (n + 1) cap) l) (hn : l.length = n + 1) (hl : n ≤ 1000000) :
    Calls Try.prog 53 #[.pointer (some ⟨p, 0, none⟩)] w fun e w' => e = .returned (.iface 70 (.agg #[.int .i64 (at_ l n).1, .int .i64 (at_ l n).2])) ∧
      IsHp w' p (.slice (some ⟨g, 0, none⟩) n cap) (l.take n) ∧ Chg (fun b => b = p) w w' := by
  have hgp : g ≠ p := fun e => h.ne (by simp [Value.ownBlock, e])
  have hrow : OwnK w 70 2 (.slice (some ⟨g, 0, none⟩) (n + 1) cap) (n + 1) (fl l) := by have := h.row; rw [hn] at this; exact this
  obtain ⟨_, cap', hv, hnc, hcm, _⟩ := hrow.slice
  simp only [Value.slice.injEq, true_and] at hv
  obtain ⟨rfl, rfl⟩ := hv
  simp only [maxLen] at hcm
  obtain ⟨c1, c2⟩ := fl_at l n (by omega)
  have c1 := hrow.cell c1
  have c2 := hrow.cell c2
  have c0 : w.cell? ⟨p, 0, none⟩ = some (.slice (some ⟨g, 0, none⟩) (n + 1) cap) := h.blk.cell rfl
  have f0 : w.frozen? ⟨p, 0, none⟩ = false := h.blk.free 0
  have hpl := h.blk.lt
  have hgl := hrow.lt g rfl
  obtain ⟨a1, ha1⟩ : ∃ a1, a1 = (at_ l n).1 := ⟨_, rfl⟩
  obtain ⟨a2, ha2⟩ : ∃ a2, a2 = (at_ l n).2 := ⟨_, rfl⟩
  rw [← ha1] at c1
  rw [← ha2] at c2
  rw [← ha1, ← ha2]
  have hcut : OwnK w 70 2 (.slice (some ⟨g, 0, none⟩) n cap) n (fl (l.take n)) := by
    refine ⟨by rw [length_fl, List.length_take]; omega, ?_⟩
    rcases hrow.2 with ⟨hv, _⟩ | ⟨g', cap', cur, hv, hb, hgg, h1, h2, h3, h4⟩
    · simp at hv
    · simp only [Value.slice.injEq, Option.some.injEq, Addr.mk.injEq, and_true, true_and] at hv
      obtain ⟨rfl, rfl⟩ := hv
      refine .inr ⟨g, cap, cur, rfl, hb, hgg, by omega, h2, h3, ?_⟩
      have e : fl l = fl (l.take n) ++ fl (l.drop n) := by rw [← fl_append, List.take_append_drop]
      rw [e] at h4
      have h5 := congrArg (List.take (n * 2)) h4
      rw [List.take_take, Nat.min_eq_left (by omega), List.take_left' (by rw [length_fl, List.length_take]; omega)] at h5
      exact h5
  have HCut := kept hcut
  have HBl := kept h.blk
  have HLt := kept (show (l.take n).length = n by rw [List.length_take]; omega)
  have hcap : n ≤ cap := by omega
  clear h hrow ha1 ha2 hcut hn
  go_enter Try.func53, Try.ntmps53
  go_wp2_with fail
  go_ret
  refine ⟨rfl, ⟨(HBl.out.set 0 _).alloc _, ?_⟩, (Chg.setCell w ⟨p, 0, none⟩ _).trans (Chg.alloc (fun _ => False) _ _) (fun _ _ h => h.elim)⟩
  rw [HLt.out]
  exact (HCut.out.setOther (a := ⟨p, 0, none⟩) (by simpa [Value.ownBlock] using hgp) _).later ((Below.refl _ _).alloc (Nat.le_refl _) _)
end Go.Proofs.Ytejecpmfhgplmaa.HistH

-- ---- Hch
/- The library's heap over these methods: up, down, Push, Pop. -/
namespace Go.Proofs.Ytejecpmfhgplmaa.HistH
set_option linter.unusedSimpArgs false
set_option linter.unusedVariables false
open Go.RowKit Mix _root_.Go.Proofs.Ytejecpmfhgplmaa.Own Ol Hp
attribute [local go_sem] Own.max_int Own.min_int

theorem par_t (j : Nat) : ((j : Int) - 1).tdiv 2 = (par j : Int) := by
  unfold par
  rcases Nat.eq_zero_or_pos j with h | h
  · subst h; rfl
  · rw [Int.tdiv_eq_ediv_of_nonneg (by omega)]; omega
theorem par_e (j : Nat) (h : 0 < j) : ((j : Int) - 1) / 2 = (par j : Int) := by unfold par; omega

theorem load_rows (a : Addr) (v : Value) (w : World) (h : w.cell? a = some v) : (loadVar 67 a).run Try.prog w = .ok v w := by
  simp [loadVar, Sem.run_bind, isAgg, run_underlying Try.underlying67 w, h, Result.andThen]
theorem method_len (a : Addr) (v : Value) (w : World) (h : w.cell? a = some v) : (Go.method 200 65 (.pointer (some a)) "Len").run Try.prog w = .ok (28, v) w := by
  have e1 : (Go.method 200 65 (.pointer (some a)) "Len").run Try.prog w = ((receiverAt 65 (.val (.pointer (some a))) false (some (("Len".splitOn ".").getLastD "Len"))) >>= fun r => pure ((28 : FuncId), r)).run Try.prog w := by kernel_rfl
  have e2 : (receiverAt 65 (.val (.pointer (some a))) false (some (("Len".splitOn ".").getLastD "Len"))).run Try.prog w = (loadVar 67 a).run Try.prog w := by kernel_rfl
  rw [e1, Sem.run_bind, e2, load_rows a v w h]
  rfl
theorem method_less (a : Addr) (v : Value) (w : World) (h : w.cell? a = some v) : (Go.method 200 65 (.pointer (some a)) "Less").run Try.prog w = .ok (52, v) w := by
  have e1 : (Go.method 200 65 (.pointer (some a)) "Less").run Try.prog w = ((receiverAt 65 (.val (.pointer (some a))) false (some (("Less".splitOn ".").getLastD "Less"))) >>= fun r => pure ((52 : FuncId), r)).run Try.prog w := by kernel_rfl
  have e2 : (receiverAt 65 (.val (.pointer (some a))) false (some (("Less".splitOn ".").getLastD "Less"))).run Try.prog w = (loadVar 67 a).run Try.prog w := by kernel_rfl
  rw [e1, Sem.run_bind, e2, load_rows a v w h]
  rfl
theorem method_swap (a : Addr) (v : Value) (w : World) (h : w.cell? a = some v) : (Go.method 200 65 (.pointer (some a)) "Swap").run Try.prog w = .ok (55, v) w := by
  have e1 : (Go.method 200 65 (.pointer (some a)) "Swap").run Try.prog w = ((receiverAt 65 (.val (.pointer (some a))) false (some (("Swap".splitOn ".").getLastD "Swap"))) >>= fun r => pure ((55 : FuncId), r)).run Try.prog w := by kernel_rfl
  have e2 : (receiverAt 65 (.val (.pointer (some a))) false (some (("Swap".splitOn ".").getLastD "Swap"))).run Try.prog w = (loadVar 67 a).run Try.prog w := by kernel_rfl
  rw [e1, Sem.run_bind, e2, load_rows a v w h]
  rfl
theorem method_push (a : Addr) (w : World) : (Go.method 200 65 (.pointer (some a)) "Push").run Try.prog w = .ok (54, .pointer (some a)) w := by kernel_rfl
theorem method_pop (a : Addr) (w : World) : (Go.method 200 65 (.pointer (some a)) "Pop").run Try.prog w = .ok (53, .pointer (some a)) w := by kernel_rfl

attribute [local go_sem] method_len method_less method_swap method_push method_pop

set_option maxHeartbeats 8000000 in
theorem up_calls (p g n cap : Nat) (l : List (Int × Int)) (j : Nat) (w : World) (h : IsHp w p (.slice (some ⟨g, 0, none⟩) n cap) l) (hn : l.length = n) (hnb : n ≤ 1000000) (hj : j < n) (hu : UpInv ltG l n j) :
    Calls Try.prog 34 #[.iface 65 (.pointer (some ⟨p, 0, none⟩)), .int .i64 (j : Int)] w fun e w' => e = .returned (.tuple #[]) ∧
      ∃ l', IsHp w' p (.slice (some ⟨g, 0, none⟩) n cap) l' ∧ l'.length = n ∧ Heap ltG l' n ∧ l'.Perm l ∧ Chg (fun b => b = g) w w' := by
  have H := kept h
  have HU := kept hu
  have HN := kept hn
  clear h hu hn
  go_enter Try.func34, Try.ntmps34
  go_wp2_with fail
  go_loopw [1] (fun s1 wr => ∃ (k : Nat) (l1 : List (Int × Int)), s1 = .int .i64 (k : Int) ∧ k < n ∧ IsHp wr p (.slice (some ⟨g, 0, none⟩) n cap) l1 ∧ l1.length = n ∧ UpInv ltG l1 n k ∧ l1.Perm l ∧ Chg (fun b => b = g) w wr) (fun s1 _ => (intOf s1).toNat)
  case atStart => exact ⟨j, l, rfl, hj, H.out, HN.out, HU.out, List.Perm.refl _, Chg.refl _ _⟩
  case round =>
    obtain ⟨k, l1, rfl, hk, hh, hl1, hui, hpm, hch⟩ := hrel
    have c0 : wr.cell? ⟨p, 0, none⟩ = some (.slice (some ⟨g, 0, none⟩) n cap) := hh.blk.cell rfl
    have HH := kept hh
    have HL1 := kept hl1
    have HUI := kept hui
    have HPM := kept hpm
    have HCh := kept hch
    clear hh hl1 hui hpm hch
    by_cases hk0 : k = 0
    · subst hk0
      have HF : Kept (Heap ltG l1 n) := kept (up_done HUI.out (.inl rfl))
      go_wp2_with fail
      go_end0
      exact ⟨rfl, l1, HH.out, HL1.out, HF.out, HPM.out, HCh.out⟩
    · have hpt := par_t k
      have hpe := par_e k (by omega)
      have hpl := par_lt (show 0 < k by omega)
      obtain ⟨q, hq⟩ : ∃ q, q = par k := ⟨_, rfl⟩
      rw [← hq] at hpt hpe hpl
      have hne : ((q : Int) == (k : Int)) = false := by rw [beq_eq_false_iff_ne]; omega
      obtain ⟨b, hb⟩ : ∃ b, b = ltG (at_ l1 k) (at_ l1 q) := ⟨_, rfl⟩
      have hrow : OwnK wr 70 2 (.slice (some ⟨g, 0, none⟩) n cap) n (fl l1) := by have := HH.out.row; rw [HL1.out] at this; exact this
      have hless := less_calls g n cap l1 k q wr hrow hk (by omega) b hb
      have HLess := kept hless
      have HQ := kept hq
      have HBq := kept hb
      have hk0' : 0 < k := by omega
      clear hless hrow hq hb hk0
      cases b with
      | false =>
        have HF : Kept (Heap ltG l1 n) := kept (up_done HUI.out (.inr (by rw [← HQ.out]; exact HBq.out.symm)))
        go_wp2_with (first | (go_at_call 52; refine HLess.out.mono ?_; rintro e w2 ⟨rfl, hb2⟩; have HH2 := kept (HH.out.later hb2); have HCh2 := kept (HCh.out.trans (Chg.of_below (S := fun _ => False) hb2) (fun _ _ h => h.elim)); clear hb2))
        go_end0
        exact ⟨rfl, l1, HH2.out, HL1.out, HF.out, HPM.out, HCh2.out⟩
      | true =>
        go_wp2_with (first
          | (go_at_call 52; refine HLess.out.mono ?_; rintro e w2 ⟨rfl, hb2⟩; have HH2 := kept (HH.out.later hb2); have HCh2 := kept (HCh.out.trans (Chg.of_below (S := fun _ => False) hb2) (fun _ _ h => h.elim)); have c2 : w2.cell? ⟨p, 0, none⟩ = some (.slice (some ⟨g, 0, none⟩) n cap) := HH2.out.blk.cell rfl; have HS : Kept (OwnK w2 70 2 (.slice (some ⟨g, 0, none⟩) n cap) n (fl l1)) := kept (by have := HH2.out.row; rw [HL1.out] at this; exact this); clear hb2)
          | (go_at_call 55; refine (swap_calls g n cap l1 q k _ HS.out (by omega) hk).mono ?_; rintro e w3 ⟨rfl, ho3, hc3⟩
             have HH3 : Kept (IsHp w3 p (.slice (some ⟨g, 0, none⟩) n cap) (swapL l1 q k)) := kept ⟨hc3.keep HH2.out.blk (fun e => HH2.out.ne (by simp [Value.ownBlock, e])), by rw [length_swapL, HL1.out]; exact ho3⟩
             have HCh3 := kept (HCh2.out.trans hc3 (fun _ _ h => h)); clear ho3 hc3))
        go_roundw
        case rel =>
          have h1 := up_step oG HUI.out (by omega) hk (by rw [HL1.out]; exact Nat.le_refl _) (by rw [← HQ.out]; exact HBq.out.symm)
          rw [← HQ.out] at h1
          exact ⟨q, swapL l1 q k, rfl, by omega, HH3.out, by rw [length_swapL]; exact HL1.out, h1, (perm_swap l1 q k (by rw [HL1.out]; omega) (by rw [HL1.out]; exact hk)).trans HPM.out, HCh3.out⟩
        case measure => simp [intOf]; omega
end Go.Proofs.Ytejecpmfhgplmaa.HistH

-- ---- Hdh
/- The library's heap: down. -/
namespace Go.Proofs.Ytejecpmfhgplmaa.HistH
set_option linter.unusedSimpArgs false
set_option linter.unusedVariables false
open Go.RowKit Mix _root_.Go.Proofs.Ytejecpmfhgplmaa.Own Ol Hp
attribute [local go_sem] Own.max_int Own.min_int
attribute [local go_sem] method_len method_less method_swap method_push method_pop

theorem par_two {i k : Nat} (h0 : 0 < i) (h : par i = k) : i = 2 * k + 1 ∨ i = 2 * k + 2 := by unfold par at h; omega
theorem par_l (k : Nat) : par (2 * k + 1) = k := by unfold par; omega
theorem par_r (k : Nat) : par (2 * k + 2) = k := by unfold par; omega

/-- What holds on the way down. -/
structure DownS (w wr : World) (p g N cap n : Nat) (l l1 : List (Int × Int)) (k : Nat) : Prop where
  hp : IsHp wr p (.slice (some ⟨g, 0, none⟩) N cap) l1
  len : l1.length = N
  inv : DownInv ltG l1 n k
  perm : l1.Perm l
  far : ∀ i, n ≤ i → at_ l1 i = at_ l i
  chg : Chg (fun b => b = g) w wr

theorem DownS.later {w wr w' : World} {p g N cap n : Nat} {l l1 : List (Int × Int)} {k : Nat} (h : DownS w wr p g N cap n l l1 k) (hb : Below wr.heap.size wr w') : DownS w w' p g N cap n l l1 k :=
  ⟨h.hp.later hb, h.len, h.inv, h.perm, h.far, h.chg.trans (Chg.of_below (S := fun _ => False) hb) (fun _ _ h => h.elim)⟩
theorem DownS.row {w wr : World} {p g N cap n : Nat} {l l1 : List (Int × Int)} {k : Nat} (h : DownS w wr p g N cap n l l1 k) : OwnK wr 70 2 (.slice (some ⟨g, 0, none⟩) N cap) N (fl l1) := by
  have := h.hp.row; rw [h.len] at this; exact this
theorem DownS.swap {w wr w' : World} {p g N cap n : Nat} {l l1 : List (Int × Int)} {k j : Nat} (h : DownS w wr p g N cap n l l1 k) (hn : n ≤ N) (hj0 : 0 < j) (hj : j < n) (hp : par j = k) (hlt : ltG (at_ l1 j) (at_ l1 k) = true) (hc : ∀ i, 0 < i → i < n → par i = k → ltG (at_ l1 i) (at_ l1 j) = false)
    (ho : OwnK w' 70 2 (.slice (some ⟨g, 0, none⟩) N cap) N (fl (swapL l1 k j))) (hch : Chg (fun b => b = g) wr w') : DownS w w' p g N cap n l (swapL l1 k j) j := by
  have hpl := par_lt hj0
  rw [hp] at hpl
  refine ⟨⟨hch.keep h.hp.blk (fun e => h.hp.ne (by simp [Value.ownBlock, e])), by rw [length_swapL, h.len]; exact ho⟩, by rw [length_swapL]; exact h.len, down_step oG h.inv hj0 hj (by rw [h.len]; exact hn) hp hlt hc, (perm_swap l1 k j (by rw [h.len]; omega) (by rw [h.len]; omega)).trans h.perm, fun i hi => ?_, h.chg.trans hch (fun _ _ h => h)⟩
  rw [at_swap l1 k j i (by rw [h.len]; omega) (by rw [h.len]; omega), if_neg (by omega), if_neg (by omega)]
  exact h.far i hi

set_option maxHeartbeats 16000000 in
theorem down_calls (p g N cap n : Nat) (l : List (Int × Int)) (i0 : Nat) (w : World) (h : IsHp w p (.slice (some ⟨g, 0, none⟩) N cap) l) (hN : l.length = N) (hNb : N ≤ 1000000) (hn : n ≤ N) (hi0 : i0 ≤ N) (hu : DownInv ltG l n i0) :
    Calls Try.prog 35 #[.iface 65 (.pointer (some ⟨p, 0, none⟩)), .int .i64 (i0 : Int), .int .i64 (n : Int)] w fun e w' => ∃ b l', e = .returned (.bool b) ∧ IsHp w' p (.slice (some ⟨g, 0, none⟩) N cap) l' ∧ l'.length = N ∧ Heap ltG l' n ∧ l'.Perm l ∧ (∀ i, n ≤ i → at_ l' i = at_ l i) ∧ Chg (fun b => b = g) w w' := by
  have HS0 : Kept (DownS w w p g N cap n l l i0) := kept ⟨h, hN, hu, List.Perm.refl _, fun _ _ => rfl, Chg.refl _ _⟩
  clear h hu hN
  go_enter Try.func35, Try.ntmps35
  go_wp2_with fail
  go_loopw [7] (fun s7 wr => ∃ (k : Nat) (l1 : List (Int × Int)), s7 = .int .i64 (k : Int) ∧ k ≤ N ∧ DownS w wr p g N cap n l l1 k) (fun s7 _ => N - (intOf s7).toNat)
  case atStart => exact ⟨i0, l, rfl, hi0, HS0.out⟩
  case round =>
    obtain ⟨k, l1, rfl, hk, hs⟩ := hrel
    have c0 : wr.cell? ⟨p, 0, none⟩ = some (.slice (some ⟨g, 0, none⟩) N cap) := hs.hp.blk.cell rfl
    have HS := kept hs
    have hless := fun i j (wx : World) (hx : DownS w wx p g N cap n l l1 k) (hi : i < N) (hj : j < N) => less_calls g N cap l1 i j wx hx.row hi hj _ rfl
    have HLess := kept hless
    clear hs hless HS0
    by_cases hA : n ≤ 2 * k + 1
    · have hd : decide ((2 * (k : Int) + 1) < (n : Int)) = false := by simp; omega
      have hA2 : (n : Int) ≤ 2 * (k : Int) + 1 := by omega
      have HF : Kept (Heap ltG l1 n) := kept (down_done HS.out.inv fun i h0 hi hp => by rcases par_two h0 hp with e | e <;> omega)
      go_wp2_with fail
      go_ret
      exact ⟨_, l1, rfl, HS.out.hp, HS.out.len, HF.out, HS.out.perm, HS.out.far, HS.out.chg⟩
    · have hB : 2 * k + 1 < n := by omega
      have hB2 : ¬ (n : Int) ≤ 2 * (k : Int) + 1 := by omega
      have hB3 : (2 * (k : Int) + 1) < (n : Int) := by omega
      by_cases hC : 2 * k + 2 < n
      · have hC2 : (2 * (k : Int) + 1 + 1) < (n : Int) := by omega
        cases hR : ltG (at_ l1 (2 * k + 2)) (at_ l1 (2 * k + 1)) with
        | true =>
          have HL1 : Kept (Calls Try.prog 52 #[.slice (some ⟨g, 0, none⟩) N cap, .int .i64 (2 * (k : Int) + 1 + 1), .int .i64 (2 * (k : Int) + 1)] wr fun e w' => e = .returned (.bool true) ∧ Below wr.heap.size wr w') := kept (by have h := HLess.out (2 * k + 2) (2 * k + 1) wr HS.out (by omega) (by omega); rw [hR, show ((2 * k + 2 : Nat) : Int) = 2 * (k : Int) + 1 + 1 by omega, show ((2 * k + 1 : Nat) : Int) = 2 * (k : Int) + 1 by omega] at h; exact h)
          have HKids : Kept (∀ i, 0 < i → i < n → par i = k → ltG (at_ l1 i) (at_ l1 (2 * k + 2)) = false) := kept (fun i h0 hi hp => by
            rcases par_two h0 hp with e | e <;> subst e; exact oG.asym hR; exact oG.irr _)
          have hL2 := fun wx hx => HLess.out (2 * k + 2) k wx hx (by omega) (by omega)
          rw [show ((2 * k + 2 : Nat) : Int) = 2 * (k : Int) + 1 + 1 by omega] at hL2
          have HL2 := kept hL2
          clear hL2
          cases hb : ltG (at_ l1 (2 * k + 2)) (at_ l1 k) with
          | false =>
            rw [hb] at HL2
            have HB := kept hb
            clear hb HLess
            go_wp2_with fail
            refine HL1.out.mono ?_
            rintro e w1 ⟨rfl, hb1⟩
            have HS1 := kept (HS.out.later hb1)
            have c1 : w1.cell? ⟨p, 0, none⟩ = some (.slice (some ⟨g, 0, none⟩) N cap) := HS1.out.hp.blk.cell rfl
            clear hb1
            go_wp2_with fail
            refine (HL2.out _ HS1.out).mono ?_
            rintro e w2 ⟨rfl, hb2⟩
            have HS2 := kept (HS1.out.later hb2)
            have c2 : w2.cell? ⟨p, 0, none⟩ = some (.slice (some ⟨g, 0, none⟩) N cap) := HS2.out.hp.blk.cell rfl
            clear hb2
            have HF : Kept (Heap ltG l1 n) := kept (down_done HS2.out.inv fun i h0 hi hp => oG.le HB.out (HKids.out i h0 hi hp))
            go_wp2_with fail
            go_ret
            exact ⟨_, l1, rfl, HS2.out.hp, HS2.out.len, HF.out, HS2.out.perm, HS2.out.far, HS2.out.chg⟩
          | true =>
            rw [hb] at HL2
            have HB := kept hb
            clear hb HLess
            go_wp2_with fail
            refine HL1.out.mono ?_
            rintro e w1 ⟨rfl, hb1⟩
            have HS1 := kept (HS.out.later hb1)
            have c1 : w1.cell? ⟨p, 0, none⟩ = some (.slice (some ⟨g, 0, none⟩) N cap) := HS1.out.hp.blk.cell rfl
            clear hb1
            go_wp2_with fail
            refine (HL2.out _ HS1.out).mono ?_
            rintro e w2 ⟨rfl, hb2⟩
            have HS2 := kept (HS1.out.later hb2)
            have c2 : w2.cell? ⟨p, 0, none⟩ = some (.slice (some ⟨g, 0, none⟩) N cap) := HS2.out.hp.blk.cell rfl
            clear hb2
            have HSw := kept (swap_calls g N cap l1 k (2 * k + 2) w2 HS2.out.row (by omega) (by omega))
            rw [show ((2 * k + 2 : Nat) : Int) = 2 * (k : Int) + 1 + 1 by omega] at HSw
            go_wp2_with fail
            refine HSw.out.mono ?_
            rintro e w3 ⟨rfl, ho3, hc3⟩
            have HS3 := kept (HS2.out.swap hn (by omega) (by omega) (par_r k) HB.out HKids.out ho3 hc3)
            clear ho3 hc3
            go_wp2_with fail
            go_roundw
            case rel => exact ⟨2 * k + 2, _, by congr 1, by omega, HS3.out⟩
            case measure => simp [intOf]; omega
        | false =>
          have HL1 : Kept (Calls Try.prog 52 #[.slice (some ⟨g, 0, none⟩) N cap, .int .i64 (2 * (k : Int) + 1 + 1), .int .i64 (2 * (k : Int) + 1)] wr fun e w' => e = .returned (.bool false) ∧ Below wr.heap.size wr w') := kept (by have h := HLess.out (2 * k + 2) (2 * k + 1) wr HS.out (by omega) (by omega); rw [hR, show ((2 * k + 2 : Nat) : Int) = 2 * (k : Int) + 1 + 1 by omega, show ((2 * k + 1 : Nat) : Int) = 2 * (k : Int) + 1 by omega] at h; exact h)
          have HKids : Kept (∀ i, 0 < i → i < n → par i = k → ltG (at_ l1 i) (at_ l1 (2 * k + 1)) = false) := kept (fun i h0 hi hp => by
            rcases par_two h0 hp with e | e <;> subst e; exact oG.irr _; exact hR)
          have hL2 := fun wx hx => HLess.out (2 * k + 1) k wx hx (by omega) (by omega)
          rw [show ((2 * k + 1 : Nat) : Int) = 2 * (k : Int) + 1 by omega] at hL2
          have HL2 := kept hL2
          clear hL2
          cases hb : ltG (at_ l1 (2 * k + 1)) (at_ l1 k) with
          | false =>
            rw [hb] at HL2
            have HB := kept hb
            clear hb HLess
            go_wp2_with fail
            refine HL1.out.mono ?_
            rintro e w1 ⟨rfl, hb1⟩
            have HS1 := kept (HS.out.later hb1)
            have c1 : w1.cell? ⟨p, 0, none⟩ = some (.slice (some ⟨g, 0, none⟩) N cap) := HS1.out.hp.blk.cell rfl
            clear hb1
            go_wp2_with fail
            refine (HL2.out _ HS1.out).mono ?_
            rintro e w2 ⟨rfl, hb2⟩
            have HS2 := kept (HS1.out.later hb2)
            have c2 : w2.cell? ⟨p, 0, none⟩ = some (.slice (some ⟨g, 0, none⟩) N cap) := HS2.out.hp.blk.cell rfl
            clear hb2
            have HF : Kept (Heap ltG l1 n) := kept (down_done HS2.out.inv fun i h0 hi hp => oG.le HB.out (HKids.out i h0 hi hp))
            go_wp2_with fail
            go_ret
            exact ⟨_, l1, rfl, HS2.out.hp, HS2.out.len, HF.out, HS2.out.perm, HS2.out.far, HS2.out.chg⟩
          | true =>
            rw [hb] at HL2
            have HB := kept hb
            clear hb HLess
            go_wp2_with fail
            refine HL1.out.mono ?_
            rintro e w1 ⟨rfl, hb1⟩
            have HS1 := kept (HS.out.later hb1)
            have c1 : w1.cell? ⟨p, 0, none⟩ = some (.slice (some ⟨g, 0, none⟩) N cap) := HS1.out.hp.blk.cell rfl
            clear hb1
            go_wp2_with fail
            refine (HL2.out _ HS1.out).mono ?_
            rintro e w2 ⟨rfl, hb2⟩
            have HS2 := kept (HS1.out.later hb2)
            have c2 : w2.cell? ⟨p, 0, none⟩ = some (.slice (some ⟨g, 0, none⟩) N cap) := HS2.out.hp.blk.cell rfl
            clear hb2
            have HSw := kept (swap_calls g N cap l1 k (2 * k + 1) w2 HS2.out.row (by omega) (by omega))
            rw [show ((2 * k + 1 : Nat) : Int) = 2 * (k : Int) + 1 by omega] at HSw
            go_wp2_with fail
            refine HSw.out.mono ?_
            rintro e w3 ⟨rfl, ho3, hc3⟩
            have HS3 := kept (HS2.out.swap hn (by omega) (by omega) (par_l k) HB.out HKids.out ho3 hc3)
            clear ho3 hc3
            go_wp2_with fail
            go_roundw
            case rel => exact ⟨2 * k + 1, _, by congr 1, by omega, HS3.out⟩
            case measure => simp [intOf]; omega
      · have hC2 : ¬ (2 * (k : Int) + 1 + 1) < (n : Int) := by omega
        have HKids : Kept (∀ i, 0 < i → i < n → par i = k → ltG (at_ l1 i) (at_ l1 (2 * k + 1)) = false) := kept (fun i h0 hi hp => by
          rcases par_two h0 hp with e | e; subst e; exact oG.irr _; omega)
        have hL2 := fun wx hx => HLess.out (2 * k + 1) k wx hx (by omega) (by omega)
        rw [show ((2 * k + 1 : Nat) : Int) = 2 * (k : Int) + 1 by omega] at hL2
        have HL2 := kept hL2
        clear hL2
        cases hb : ltG (at_ l1 (2 * k + 1)) (at_ l1 k) with
        | false =>
          rw [hb] at HL2
          have HB := kept hb
          clear hb HLess
          go_wp2_with fail
          refine (HL2.out _ HS.out).mono ?_
          rintro e w2 ⟨rfl, hb2⟩
          have HS2 := kept (HS.out.later hb2)
          have c2 : w2.cell? ⟨p, 0, none⟩ = some (.slice (some ⟨g, 0, none⟩) N cap) := HS2.out.hp.blk.cell rfl
          clear hb2
          have HF : Kept (Heap ltG l1 n) := kept (down_done HS2.out.inv fun i h0 hi hp => oG.le HB.out (HKids.out i h0 hi hp))
          go_wp2_with fail
          go_ret
          exact ⟨_, l1, rfl, HS2.out.hp, HS2.out.len, HF.out, HS2.out.perm, HS2.out.far, HS2.out.chg⟩
        | true =>
          rw [hb] at HL2
          have HB := kept hb
          clear hb HLess
          go_wp2_with fail
          refine (HL2.out _ HS.out).mono ?_
          rintro e w2 ⟨rfl, hb2⟩
          have HS2 := kept (HS.out.later hb2)
          have c2 : w2.cell? ⟨p, 0, none⟩ = some (.slice (some ⟨g, 0, none⟩) N cap) := HS2.out.hp.blk.cell rfl
          clear hb2
          have HSw := kept (swap_calls g N cap l1 k (2 * k + 1) w2 HS2.out.row (by omega) (by omega))
          rw [show ((2 * k + 1 : Nat) : Int) = 2 * (k : Int) + 1 by omega] at HSw
          go_wp2_with fail
          refine HSw.out.mono ?_
          rintro e w3 ⟨rfl, ho3, hc3⟩
          have HS3 := kept (HS2.out.swap hn (by omega) (by omega) (par_l k) HB.out HKids.out ho3 hc3)
          clear ho3 hc3
          go_wp2_with fail
          go_roundw
          case rel => exact ⟨2 * k + 1, _, by congr 1, by omega, HS3.out⟩
          case measure => simp [intOf]; omega
end Go.Proofs.Ytejecpmfhgplmaa.HistH

-- ---- Heh
/- The library's heap: Push and Pop. -/
namespace Go.Proofs.Ytejecpmfhgplmaa.HistH
set_option linter.unusedSimpArgs false
set_option linter.unusedVariables false
open Go.RowKit Mix _root_.Go.Proofs.Ytejecpmfhgplmaa.Own Ol Hp
attribute [local go_sem] Own.max_int Own.min_int
attribute [local go_sem] method_len method_less method_swap method_push method_pop

theorem hlen_calls (a : Option Addr) (n cap : Nat) (w : World) : Calls Try.prog 28 #[.slice a n cap] w fun e w' => e = .returned (.int .i64 (n : Int)) ∧ Below w.heap.size w w' := by
  go_enter Try.func28, Try.ntmps28
  go_wp2_with fail
  go_ret
  exact ⟨rfl, Below.refl _ _⟩

set_option maxHeartbeats 4000000 in
theorem hpush_calls (p : Nat) (v : Value) (l : List (Int × Int)) (a1 a2 : Int) (w : World) (h : IsHp w p v l) (hl : l.length < 1000000) (hh : Heap ltG l l.length) :
    Calls Try.prog 27 #[.iface 65 (.pointer (some ⟨p, 0, none⟩)), .iface 70 (.agg #[.int .i64 a1, .int .i64 a2])] w fun e w' => e = .returned (.tuple #[]) ∧
      ∃ v' l', IsHp w' p v' l' ∧ Heap ltG l' l'.length ∧ l'.Perm (l ++ [(a1, a2)]) ∧ Chg (fun b => b = p ∨ some b = v.ownBlock) w w' ∧ ∀ g, v'.ownBlock = some g → some g = v.ownBlock ∨ w.heap.size ≤ g := by
  have H := kept h
  have HHe := kept hh
  clear h hh
  go_enter Try.func27, Try.ntmps27
  go_wp2_with fail
  refine (push_calls p v l a1 a2 _ H.out (by omega)).mono ?_
  rintro e w1 ⟨rfl, v1, h1, hc1, hf1⟩
  have hl1 : (l ++ [(a1, a2)]).length = l.length + 1 := by simp
  obtain ⟨g, cap, rfl, _, _, hgp, hgl⟩ := h1.row0 (by omega)
  rw [hl1] at h1 hf1
  have c1 : w1.cell? ⟨p, 0, none⟩ = some (.slice (some ⟨g, 0, none⟩) (l.length + 1) cap) := by
    have := h1.blk.cell (i := 0) rfl
    exact this
  have hup := fun w1b (hb : Below w1.heap.size w1 w1b) => up_calls p g (l.length + 1) cap (l ++ [(a1, a2)]) l.length w1b (h1.later hb) hl1 (by omega) (by omega) (up_start HHe.out)
  have HUp := kept hup
  have HC1 := kept hc1
  have HF1 := kept (hf1 g rfl)

  clear hup hc1 hf1 h1
  go_wp2_with (first | (go_at_call 28; refine (hlen_calls _ _ _ _).mono ?_; rintro e w1b ⟨rfl, hbl⟩; have HC1b := kept (HC1.out.trans (Chg.of_below (S := fun _ => False) hbl) (fun _ _ h => h.elim)); have HUpb := HUp.out w1b hbl; clear hbl) | (go_at_call 34; refine HUpb.mono ?_; rintro e w2 ⟨rfl, l', h2, hl2, hh2, hp2, hc2⟩; have H2 := kept h2; have HL2 := kept hl2; have HH2 := kept hh2; have HP2 := kept hp2; have HC2 := kept hc2; clear h2 hl2 hh2 hp2 hc2))
  go_end0
  refine ⟨rfl, _, l', H2.out, by rw [HL2.out]; exact HH2.out, HP2.out, HC1b.out.trans HC2.out (fun b hb h => ?_), ?_⟩
  · subst h
    rcases HF1.out with h | h
    · exact .inr h
    · omega
  · intro g' hg'
    simp only [Value.ownBlock, Option.map_some, Option.some.injEq] at hg'
    rw [← hg']; exact HF1.out

set_option maxHeartbeats 4000000 in
theorem hpop_calls (p g n cap : Nat) (l : List (Int × Int)) (w : World) (h : IsHp w p (.slice (some ⟨g, 0, none⟩) (n + 1) cap) l) (hn : l.length = n + 1) (hl : n < 1000000) (hh : Heap ltG l (n + 1)) :
    Calls Try.prog 29 #[.iface 65 (.pointer (some ⟨p, 0, none⟩))] w fun e w' => e = .returned (.iface 70 (.agg #[.int .i64 (at_ l 0).1, .int .i64 (at_ l 0).2])) ∧
      ∃ l', IsHp w' p (.slice (some ⟨g, 0, none⟩) n cap) l' ∧ l'.length = n ∧ Heap ltG l' n ∧ l.Perm (at_ l 0 :: l') ∧ (∀ y ∈ l', ltG y (at_ l 0) = false) ∧ Chg (fun b => b = p ∨ b = g) w w' := by
  have hgp : g ≠ p := fun e => h.ne (by simp [Value.ownBlock, e])
  have H := kept h
  have HHe := kept hh
  have HN := kept hn
  have c0 : w.cell? ⟨p, 0, none⟩ = some (.slice (some ⟨g, 0, none⟩) (n + 1) cap) := h.blk.cell rfl
  have hrow : OwnK w 70 2 (.slice (some ⟨g, 0, none⟩) (n + 1) cap) (n + 1) (fl l) := by have := h.row; rw [hn] at this; exact this
  have HSw0 := kept (fun w0 (hb : Below w.heap.size w w0) => swap_calls g (n + 1) cap l 0 n w0 (hrow.later hb) (by omega) (by omega))

  clear h hh hn hrow
  go_enter Try.func29, Try.ntmps29
  go_wp2_with (first | (go_at_call 28; refine (hlen_calls _ _ _ _).mono ?_; rintro e w0 ⟨rfl, hbl⟩; have H0 := kept (H.out.later hbl); have HC0 := kept (Chg.of_below (S := fun b => b = p ∨ b = g) hbl); have HSw := kept (HSw0.out w0 hbl); have c00 : w0.cell? ⟨p, 0, none⟩ = some (.slice (some ⟨g, 0, none⟩) (n + 1) cap) := H0.out.blk.cell rfl; clear hbl)
                     | (go_at_call 55; refine HSw.out.mono ?_; rintro e w1 ⟨rfl, ho1, hc1⟩
                        have H1 : Kept (IsHp w1 p (.slice (some ⟨g, 0, none⟩) (n + 1) cap) (swapL l 0 n)) := kept ⟨hc1.keep H0.out.blk (fun e => H0.out.ne (by simp [Value.ownBlock, e])), by rw [length_swapL, HN.out]; exact ho1⟩
                        have HC1 := kept (HC0.out.trans hc1 (fun _ _ h => .inr h))
                        have c1 : w1.cell? ⟨p, 0, none⟩ = some (.slice (some ⟨g, 0, none⟩) (n + 1) cap) := H1.out.blk.cell rfl
                        have HDn := kept (down_calls p g (n + 1) cap n (swapL l 0 n) 0 w1 H1.out (by rw [length_swapL]; exact HN.out) (by omega) (by omega) (by omega) (pop_start HN.out HHe.out))
                        clear ho1 hc1)
                     | (go_at_call 35; refine HDn.out.mono ?_; rintro e w2 ⟨b, l2, rfl, h2, hl2, hh2, hp2, hf2, hc2⟩
                        have HPop := kept (pop_calls p g n cap l2 w2 h2 hl2 (by omega))
                        have HH2 := kept hh2
                        have HP2 : Kept (l2.Perm l) := kept (hp2.trans (perm_swap l 0 n (by rw [HN.out]; omega) (by rw [HN.out]; omega)))
                        have HF2 : Kept (at_ l2 n = at_ l 0) := kept (by rw [hf2 n (Nat.le_refl _), at_swap l 0 n n (by rw [HN.out]; omega) (by rw [HN.out]; omega), if_pos rfl])
                        have HC2 := kept hc2
                        have HL2 := kept hl2
                        clear h2 hl2 hh2 hp2 hf2 hc2)
                     | (go_at_call 53; refine HPop.out.mono ?_; rintro e w3 ⟨rfl, h3, hc3⟩; have H3 := kept h3; have HC3 := kept hc3; clear h3 hc3))
  go_ret
  obtain ⟨h1, h2⟩ := pop_end oG HN.out HHe.out HP2.out HF2.out
  rw [HF2.out] at h1 h2 ⊢
  refine ⟨rfl, l2.take n, H3.out, by rw [List.length_take, HL2.out]; omega, heap_take HH2.out, h1, h2, ?_⟩
  exact (HC1.out.trans HC2.out (fun _ _ h => .inr h)).trans HC3.out (fun _ _ h => .inl h)
end Go.Proofs.Ytejecpmfhgplmaa.HistH

-- ---- Ho
/- The places of numbers above nought, the greatest first, by a heap. -/
namespace Go.Proofs.Ytejecpmfhgplmaa.HistH
set_option linter.unusedSimpArgs false
set_option linter.unusedVariables false
open Go.RowKit Mix _root_.Go.Proofs.Ytejecpmfhgplmaa.Own Ol Hp
attribute [local go_sem] Own.max_int Own.min_int

/-- What holds on the way: the heap's own memory lies behind B. -/
structure HpS (B : Nat) (w wr : World) (p : Nat) (v : Value) (lh : List (Int × Int)) : Prop where
  hp : IsHp wr p v lh
  heap : Heap ltG lh lh.length
  newp : B ≤ p
  new : ∀ g, v.ownBlock = some g → B ≤ g
  low : Below B w wr
theorem HpS.later {B : Nat} {w wr w' : World} {p : Nat} {v : Value} {lh : List (Int × Int)} (h : HpS B w wr p v lh) (hb : Below wr.heap.size wr w') (hB : B ≤ wr.heap.size) : HpS B w w' p v lh :=
  ⟨h.hp.later hb, h.heap, h.newp, h.new, h.low.trans (hb.mono hB)⟩

def lenOf : Value → Nat
  | .slice _ n _ => n
  | _ => 0

set_option maxHeartbeats 8000000 in
theorem horder_calls (a : Option Addr) (n c : Nat) (l : List Int) (w : World) (hR : Rd w (.slice a n n) (ints .i64 l)) (hn : n ≤ 100000) :
    Calls Try.prog 20 #[.slice a n c] w fun e w' => ∃ v, e = .returned v ∧ RowO w.heap.size w w' v (ordL l) := by
  have hln : l.length = n := by have := hR.length; rw [length_ints] at this; exact this.symm
  obtain ⟨i0, hi, hz0, hz1, hz2⟩ := info_partsI infoI64
  have HR := kept hR
  have HL := kept hln
  have HN := kept hn
  have hta := assertE
  obtain ⟨B, hB⟩ : ∃ B, B = w.heap.size := ⟨_, rfl⟩
  rw [← hB]
  have HB := kept hB
  clear hR hln hn hB
  go_enter Try.func20, Try.ntmps20
  go_wp2_with fail
  obtain ⟨p, hp⟩ : ∃ p, p = w.heap.size + 1 := ⟨_, rfl⟩
  rw [← hp]
  generalize hw0 : World.alloc (World.alloc w _) _ = w0
  have hS0 : HpS B w w0 p (.slice (some ⟨w.heap.size, 0, none⟩) 0 0) [] := by
    have e1 : (w.alloc (.cells #[] 70)).heap.size = p := by rw [hp]; simp
    refine ⟨⟨by rw [← hw0]; exact Blk.fresh_at _ p e1.symm _ _, rfl, .inr ⟨w.heap.size, 0, #[], rfl, Nat.zero_le _, by rw [← hw0]; exact (Blk.fresh w _ _).alloc _, Nat.le_refl _, by simp [maxLen], rfl, rfl⟩⟩, fun i _ h => absurd h (by simp), by rw [HB.out, hp]; omega, fun g hg => ?_, ?_⟩
    · simp [Value.ownBlock] at hg; rw [HB.out, hg]; exact Nat.le_refl _
    · rw [← hw0, HB.out]; exact ((Below.refl _ _).alloc (Nat.le_refl _) _).alloc (by rw [e1, hp]; omega) _
  have HS0 := kept hS0
  have HpK := kept hp
  clear hS0 hp hw0
  go_loopw [13] (fun s13 wr => ∃ (i : Nat) (v : Value) (lh : List (Int × Int)), i ≤ n ∧ s13 = .int .i64 (i : Int) ∧ HpS B w wr p v lh ∧ lh.Perm ((posL l i).map (pr l))) (fun s13 _ => n - (intOf s13).toNat)
  case atStart => exact ⟨0, _, [], Nat.zero_le _, rfl, HS0.out, List.Perm.refl _⟩
  case round =>
    obtain ⟨i, v, lh, hi2, rfl, hs, hpm⟩ := hrel
    obtain ⟨wo, rfl⟩ : ∃ wo, wo = wr := ⟨wr, rfl⟩
    have hn5 := HN.out
    have hlow := hs.low
    have hRd := HR.out.below hlow (by rw [HB.out]; exact HR.out.lt)
    by_cases hlt : i < n
    · have hil : i < l.length := by rw [HL.out]; exact hlt
      obtain ⟨x, rfl, hc⟩ := hRd.at (Own.ints_at .i64 l i hil)
      obtain ⟨y, hy⟩ : ∃ y, y = l.getD i 0 := ⟨_, rfl⟩
      rw [← hy] at hc
      have hlen : lh.length ≤ i := by have := hpm.length_eq; rw [List.length_map] at this; have := length_posL l i; omega
      have HS := kept hs
      have HPm := kept hpm
      have HY := kept hy
      clear hRd hs hpm hy hlow
      by_cases hpos : 0 < y
      · have p0 : ¬ y ≤ 0 := by omega
        have HPush := kept (hpush_calls p v lh (i : Int) y wo HS.out.hp (by omega) HS.out.heap)
        go_wp2_with fail
        refine HPush.out.mono ?_
        rintro e w1 ⟨rfl, v1, l1, h1, hh1, hp1, hc1, hf1⟩
        have HS1 : Kept (HpS B w w1 p v1 l1) := kept ⟨h1, hh1, HS.out.newp, fun g hg => (hf1 g hg).elim (fun h => HS.out.new g h.symm) (fun h => Nat.le_trans (HB.out ▸ HS.out.low.size) h), HS.out.low.trans (hc1.below (HB.out ▸ HS.out.low.size) (fun k hk h => by
          rcases h with h | h
          · have := HS.out.newp; omega
          · have := HS.out.new k h.symm; omega))⟩
        have HPm1 : Kept (l1.Perm ((posL l (i + 1)).map (pr l))) := kept (by
          rw [posL_succ, if_pos (by rw [← HY.out]; exact hpos), List.map_append]
          refine hp1.trans (HPm.out.append ?_)
          simp only [List.map_cons, List.map_nil, pr]; rw [← HY.out])
        clear h1 hh1 hp1 hc1 hf1
        go_wp2_with fail
        go_roundw
        case rel => exact ⟨i + 1, v1, l1, by omega, by go_num, HS1.out, HPm1.out⟩
        case measure => simp [intOf]; omega
      · have p0 : y ≤ 0 := by omega
        have HPm1 : Kept (lh.Perm ((posL l (i + 1)).map (pr l))) := kept (by
          rw [posL_succ, if_neg (by rw [← HY.out]; exact hpos), List.append_nil]; exact HPm.out)
        go_wp2_with fail
        go_roundw
        case rel => exact ⟨i + 1, v, lh, by omega, by go_num, HS.out, HPm1.out⟩
        case measure => simp [intOf]; omega
    · have hin : i = n := by omega
      subst hin
      have HS := kept hs
      have HPm : Kept (lh.Perm ((ordL l).map (pr l))) := kept (hpm.trans (by rw [← HL.out]; exact (pairs_perm l).symm))
      clear hs hpm hRd hlow
      go_wp2_with fail
      go_loopw [6] (fun s6 wq => ∃ (out rest : List Nat) (v1 : Value) (l1 : List (Int × Int)) (v6 : Value), ordL l = out ++ rest ∧ v6 = s6 ∧ HpS B w wq p v1 l1 ∧ (rest.map (pr l)).Perm l1 ∧ RowO B w wq v6 out) (fun s6 _ => i + 1 - lenOf s6)
      case atStart => exact ⟨[], ordL l, v, lh, _, rfl, rfl, HS.out, HPm.out.symm, Owns.nil _ _, fun g hg => by simp [Value.ownBlock] at hg, HS.out.low⟩
      case round =>
        obtain ⟨out, rest, v1, l1, v6, ho, rfl, hs, hpm, hro⟩ := hrel
        obtain ⟨wq, rfl⟩ : ∃ wq, wq = wr := ⟨wr, rfl⟩
        have hBq : B ≤ wq.heap.size := by rw [HB.out]; exact hs.low.size
        have hlen : rest.length = l1.length := by have := hpm.length_eq; rwa [List.length_map] at this
        have hlen2 : out.length + rest.length ≤ i := by have := length_ordL l; rw [ho, List.length_append, HL.out] at this; exact this
        cases rest with
        | nil =>
          have hnil : l1 = [] := List.length_eq_zero_iff.1 (by simpa using hlen.symm)
          subst hnil
          obtain ⟨av, cv, rfl, _⟩ := hs.hp.row.slice
          simp only [List.length_nil] at hs ⊢
          have c0 : wq.cell? ⟨p, 0, none⟩ = some (.slice av 0 cv) := hs.hp.blk.cell rfl
          have HF : Kept (RowO B w wq v6 (ordL l)) := kept (by rw [ho, List.append_nil]; exact hro)
          clear hs hpm hro ho hlen hlen2 HS HPm
          go_wp2_with (first | (go_at_call 28; refine (hlen_calls _ _ _ _).mono ?_; rintro e w1 ⟨rfl, hbl⟩
                                have HF1 : Kept (RowO B w w1 v6 (ordL l)) := kept ⟨HF.out.own.keep fun g _ hg => hbl.block g hg, HF.out.new, HF.out.low.trans (hbl.mono hBq)⟩
                                clear hbl))
          go_ret
          exact ⟨v6, rfl, HF1.out⟩
        | cons k rest =>
          simp only [List.length_cons] at hlen hlen2
          obtain ⟨g, cap, rfl, hnc, hcm, hgp, hgl⟩ := hs.hp.row0 (by omega)
          have hl1 : l1.length = rest.length + 1 := hlen.symm
          simp only [hl1] at hs hnc ⊢
          have c0 : wq.cell? ⟨p, 0, none⟩ = some (.slice (some ⟨g, 0, none⟩) (rest.length + 1) cap) := hs.hp.blk.cell rfl
          have hx : ∃ rest' : List (Int × Int), ((k :: rest).map (pr l)) = at_ l1 0 :: rest' ∧ ∀ l', l1.Perm (at_ l1 0 :: l') → (∀ y ∈ l', ltG y (at_ l1 0) = false) → rest'.Perm l' := by
            have hs1 : ((k :: rest).map (pr l)).Pairwise fun a b => ltG b a = false := by
              have := pairs_sorted l
              rw [ho, List.map_append] at this
              exact (List.pairwise_append.1 this).2.1
            have hat : ∀ y ∈ l1, ltG y (at_ l1 0) = false := by
              intro y hy
              obtain ⟨j, hj, rfl⟩ := List.mem_iff_getElem.1 hy
              rw [← at_lt l1 j hj]
              exact heap_min oG hs.heap j hj
            have hmem : at_ l1 0 ∈ l1 := by rw [at_lt l1 0 (by omega)]; exact List.getElem_mem _
            obtain ⟨l1', hl1'⟩ : ∃ l', l1.Perm (at_ l1 0 :: l') := ⟨l1.erase (at_ l1 0), List.perm_cons_erase hmem⟩
            obtain ⟨r', hr1, hr2⟩ := pop_head oG hs1 (hpm.trans hl1') (fun y hy => hat y (hl1'.mem_iff.2 (List.mem_cons_of_mem _ hy)))
            exact ⟨r', hr1, fun l' hp _ => hr2.trans ((List.perm_cons _).1 (hl1'.symm.trans hp))⟩
          obtain ⟨rest', hx1, hx2⟩ := hx
          simp only [List.map_cons, List.cons.injEq] at hx1
          obtain ⟨hk, rfl⟩ := hx1
          have hpos : (0 : Int) < ((rest.length + 1 : Nat) : Int) := by omega
          have HPop := kept (fun (w1 : World) (hb : Below wq.heap.size wq w1) => hpop_calls p g rest.length cap l1 w1 (hs.hp.later hb) hl1 (by omega) (by rw [← hl1]; exact hs.heap))
          have HX := kept hx2
          have HS := kept hs
          have HRo := kept hro
          have HO := kept ho
          have HK := kept hk
          have HBq := kept hBq
          clear hs hpm hro ho hlen hx2 hk HPm hBq
          have hax : ∃ ax ay, at_ l1 0 = (ax, ay) ∧ ax = (k : Int) := ⟨(k : Int), l.getD k 0, HK.out.symm, rfl⟩
          obtain ⟨ax, ay, hax, haxk⟩ := hax
          rw [hax] at HPop HX
          simp only at HPop
          subst haxk
          clear hax HK
          obtain ⟨a6, cap6, rfl, _⟩ := HRo.out.own.slice
          simp only [length_idx] at HRo ⊢
          go_wp2_with fail
          refine (hlen_calls _ _ _ _).mono ?_; rintro e w1 ⟨rfl, hbl⟩
          have HS1 := kept (HS.out.later hbl HBq.out)
          have HRo1 : Kept (RowO B w w1 (.slice a6 out.length cap6) out) := kept ⟨HRo.out.own.keep fun g _ hg => hbl.block g hg, HRo.out.new, HRo.out.low.trans (hbl.mono HBq.out)⟩
          have HPop1 := kept (HPop.out w1 hbl)
          have hB1 : B ≤ w1.heap.size := Nat.le_trans HBq.out hbl.size
          have HB1 := kept hB1
          clear hbl hB1
          go_wp2_with fail
          refine HPop1.out.mono ?_
          rintro e w2 ⟨rfl, l2, h2, hl2, hh2, hp2, hm2, hc2⟩
          have hb2 : Below B w1 w2 := hc2.below HB1.out (fun b hb h => by
            rcases h with rfl | rfl
            · have := HS.out.newp; omega
            · have := HS.out.new b rfl; omega)
          have HS2 : Kept (HpS B w w2 p (.slice (some ⟨g, 0, none⟩) rest.length cap) l2) := kept ⟨h2, by rw [hl2]; exact hh2, HS.out.newp, fun b hb => HS.out.new b hb, HS1.out.low.trans hb2⟩
          have HX2 := kept (HX.out l2 hp2 hm2)
          have HRo2 : Kept (RowO B w w2 (.slice a6 out.length cap6) out) := kept ⟨HRo1.out.own.chg hc2 (fun b hb h => by
            rcases h with rfl | rfl
            · exact HRo1.out.own.ne HS1.out.hp.blk (by decide) hb
            · exact HS1.out.hp.row.neO HRo1.out.own (by decide) hb rfl), HRo1.out.new, HRo1.out.low.trans hb2⟩
          have HB2 : Kept (B ≤ w2.heap.size) := kept (Nat.le_trans HB1.out hb2.size)
          clear h2 hl2 hh2 hp2 hm2 hc2 hb2
          obtain ⟨w3, hw3⟩ : ∃ w3, w3 = w2.alloc (.cells #[.int .i64 (k : Int), .int .i64 ay] 70) := ⟨_, rfl⟩
          have hb3 : Below w2.heap.size w2 w3 := by rw [hw3]; exact (Below.refl _ _).alloc (Nat.le_refl _) _
          have HRo3 : Kept (RowO B w w3 (.slice a6 out.length cap6) out) := kept ⟨HRo2.out.own.keep fun g _ hg => hb3.block g hg, HRo2.out.new, HRo2.out.low.trans (hb3.mono HB2.out)⟩
          have HS3 := kept (HS2.out.later hb3 HB2.out)
          have HB3 : Kept (B ≤ w3.heap.size) := kept (Nat.le_trans HB2.out hb3.size)
          rw [hw3] at HRo3 HS3 HB3
          clear hb3 hw3
          have hl6 : out.length + 1 ≤ i := by omega
          have hl7 : i ≤ 100000 := HN.out
          go_wp2_with (first | (at_builtin; go_loud (refine wpList_app1 rfl _ _ 22 rfl 3 i0 (.int .i64 0) 8 Try.underlying22 hi hz0 hz1 hz2 rfl (.slice a6 out.length cap6) _ (.int .i64 (k : Int)) rfl HRo3.out.own rfl (by show Value.slice (some ⟨w2.heap.size + 1, 0, none⟩) 1 1 = _; simp) ?_ ?_ ?_)) | fail)
          · simp [maxLen]; omega
          · simp; omega
          intro v7 w7 O7 C7 F7
          have hid : idx out ++ [.int .i64 (k : Int)] = idx (out ++ [k]) := by simp [idx]
          rw [hid] at O7
          have HRo7 : Kept (RowO B w w7 v7 (out ++ [k])) := kept ⟨O7, fun g hg => (F7 g hg).elim (fun h => HRo3.out.new g h.symm) (fun h => by have h3 := HB2.out; omega), HRo3.out.low.trans (C7.below HB3.out (fun b hb h => by have := HRo3.out.new b h.symm; omega))⟩
          have HS7 : Kept (HpS B w w7 p (.slice (some ⟨g, 0, none⟩) rest.length cap) l2) := kept (by
            have h := HS3.out
            refine ⟨h.hp.keep C7 ?_ ?_, h.heap, h.newp, h.new, HRo7.out.low⟩
            · intro e; exact HRo3.out.own.ne h.hp.blk (by decide) e.symm
            · intro b hb e; exact h.hp.row.neO HRo3.out.own (by decide) e.symm hb)
          have hv7 := O7.slice
          rw [length_idx, List.length_append, List.length_singleton] at hv7
          obtain ⟨a7, cap7, rfl, _⟩ := hv7
          clear O7 C7 F7 hid
          go_wp2_with fail
          go_roundw
          case rel => exact ⟨out ++ [k], rest, _, l2, _, by rw [HO.out]; simp, rfl, HS7.out, HX2.out, HRo7.out⟩
          case measure => simp [lenOf]; omega
end Go.Proofs.Ytejecpmfhgplmaa.HistH

-- ---- Rf
/- wringerref7.Lengths: the memory on the way. Conditions: those that each theorem names. -/
namespace Go.Proofs.Ytejecpmfhgplmaa
set_option linter.unusedSimpArgs false
set_option linter.unusedVariables false
open Go.RowKit Mix _root_.Go.Proofs.Ytejecpmfhgplmaa.Own Dp Ol

/-- On the way: the result's block, the lengths at g, the order at g7, the maker at p with its rows. -/
structure StB (B : Nat) (w wr : World) (g g7 c7 : Nat) (l : List Int) (m p : Nat) (vf vk vs : Value) (xs F K S : List Int) : Prop where
  res : Blk wr B #[.slice none 0 0, .int .i64 0] 28
  low : Below B w wr
  pB : B ≤ p
  blk : Blk wr p #[vf, .int .i64 (m : Int), vk, vs] 61
  many : Many B wr 3 [(.slice (some ⟨g, 0, none⟩) 65 65, ints .i64 xs), (.slice (some ⟨g7, 0, none⟩) (ordL l).length c7, idx (ordL l)), (vk, ints .i64 K), (vs, ints .i64 S), (vf, ints .i64 F)]

section
variable {B : Nat} {w wr : World} {g g7 c7 : Nat} {l : List Int} {m p : Nat} {vf vk vs : Value} {xs F K S : List Int}
theorem StB.sz (h : StB B w wr g g7 c7 l m p vf vk vs xs F K S) : B ≤ wr.heap.size := Nat.le_of_lt h.res.lt
theorem StB.later {w' : World} (h : StB B w wr g g7 c7 l m p vf vk vs xs F K S) (hb : Below wr.heap.size wr w') : StB B w w' g g7 c7 l m p vf vk vs xs F K S :=
  ⟨(hb.block B h.res.lt).trans h.res, h.low.trans (hb.mono h.sz), h.pB, (hb.block p h.blk.lt).trans h.blk, h.many.later hb⟩
theorem StB.out (h : StB B w wr g g7 c7 l m p vf vk vs xs F K S) : Owns wr 3 (.slice (some ⟨g, 0, none⟩) 65 65) (ints .i64 xs) := h.many.own 0 _ _ rfl
theorem StB.ord (h : StB B w wr g g7 c7 l m p vf vk vs xs F K S) : Owns wr 3 (.slice (some ⟨g7, 0, none⟩) (ordL l).length c7) (idx (ordL l)) := h.many.own 1 _ _ rfl
theorem StB.ordAt (h : StB B w wr g g7 c7 l m p vf vk vs xs F K S) (i : Nat) (hi : i < (ordL l).length) : wr.cell? ⟨g7, i, none⟩ = some (.int .i64 (((ordL l).getD i 0 : Nat) : Int)) := h.ord.cell (idx_at _ i hi)
theorem StB.storeOut (h : StB B w wr g g7 c7 l m p vf vk vs xs F K S) (j : Nat) (v : Int) : StB B w (wr.setCell ⟨g, j, none⟩ (.int .i64 v)) g g7 c7 l m p vf vk vs (xs.set j v) F K S := by
  have hc : Chg (fun k => some k = (Value.slice (some ⟨g, 0, none⟩) 65 65).ownBlock) wr (wr.setCell ⟨g, j, none⟩ (.int .i64 v)) := (Chg.setCell wr ⟨g, j, none⟩ (.int .i64 v)).mono fun k _ hk => by rw [hk]; rfl
  refine ⟨h.many.other 0 rfl hc h.res (by decide), h.low.trans (h.many.below 0 rfl hc h.sz), h.pB, h.many.other 0 rfl hc h.blk (by decide), ?_⟩
  have := h.many.store 0 rfl j (.int .i64 v) h.sz
  rw [← ints_set] at this; exact this
theorem StB.tab (h : StB B w wr g g7 c7 l m p vf vk vs xs F K (sums F)) (hK : KGood m F K) : Tab wr p vf vk vs m F K :=
  ⟨h.blk, h.many.own 4 _ _ rfl, h.many.own 2 _ _ rfl, h.many.own 3 _ _ rfl, fun b hb => h.many.sep 2 4 _ _ _ _ (by decide) rfl rfl b hb, fun b hb => h.many.sep 2 3 _ _ _ _ (by decide) rfl rfl b hb, hK⟩
theorem StB.costed {w' : World} {K' : List Int} (h : StB B w wr g g7 c7 l m p vf vk vs xs F K (sums F)) (hT : Tab w' p vf vk vs m F K') (hc : Chg (fun b => some b = vk.ownBlock) wr w') : StB B w w' g g7 c7 l m p vf vk vs xs F K' (sums F) :=
  ⟨h.many.other 2 rfl hc h.res (by decide), h.low.trans (h.many.below 2 rfl hc h.sz), h.pB, hT.blk, h.many.set 2 rfl hc hT.rk (fun b hb => .inl hb.symm) h.sz⟩
/-- A number behind the frequencies, and the field laid anew. -/
theorem StB.push {w' : World} {v2 : Value} {x : Int} (h : StB B w wr g g7 c7 l m p vf vk vs xs F K S) (ho : Owns w' 3 v2 (ints .i64 (F ++ [x]))) (hc : Chg (fun b => some b = vf.ownBlock) wr w') (hn : ∀ b, v2.ownBlock = some b → some b = vf.ownBlock ∨ wr.heap.size ≤ b) :
    StB B w (w'.setCell ⟨p, 0, none⟩ v2) g g7 c7 l m p v2 vk vs xs (F ++ [x]) K S ∧ w'.frozen? ⟨p, 0, none⟩ = false ∧ w'.cell? ⟨p, 0, none⟩ = some vf := by
  have h1 := h.many.set 4 rfl hc ho hn h.sz
  have hb : Blk w' p #[vf, .int .i64 (m : Int), vk, vs] 61 := h.many.other 4 rfl hc h.blk (by decide)
  have hr : Blk w' B #[.slice none 0 0, .int .i64 0] 28 := h.many.other 4 rfl hc h.res (by decide)
  have hl := h.low.trans (h.many.below 4 rfl hc h.sz)
  exact ⟨⟨hr.setOther (hr.ne hb (by decide)) _, hl.setCell h.pB _, h.pB, hb.set 0 _, h1.setBlk hb (by decide) 0 v2⟩, hb.free 0, hb.cell rfl⟩
theorem StB.storeSum {gs cs n : Nat} (h : StB B w wr g g7 c7 l m p vf vk (.slice (some ⟨gs, 0, none⟩) n cs) xs F K S) (j : Nat) (v : Int) : StB B w (wr.setCell ⟨gs, j, none⟩ (.int .i64 v)) g g7 c7 l m p vf vk (.slice (some ⟨gs, 0, none⟩) n cs) xs F K (S.set j v) := by
  have hc : Chg (fun k => some k = (Value.slice (some ⟨gs, 0, none⟩) n cs).ownBlock) wr (wr.setCell ⟨gs, j, none⟩ (.int .i64 v)) := (Chg.setCell wr ⟨gs, j, none⟩ (.int .i64 v)).mono fun k _ hk => by rw [hk]; rfl
  refine ⟨h.many.other 3 rfl hc h.res (by decide), h.low.trans (h.many.below 3 rfl hc h.sz), h.pB, h.many.other 3 rfl hc h.blk (by decide), ?_⟩
  have := h.many.store 3 rfl j (.int .i64 v) h.sz
  rw [← ints_set] at this; exact this
end

theorem Own.Many.sub {B : Nat} {w : World} {e : TypeId} {R R' : List (Value × List Value)} (h : Many B w e R) (f : Nat → Nat) (h1 : ∀ i, i < R'.length → R[f i]? = R'[i]?) (h2 : ∀ i j, i < R'.length → j < R'.length → f i = f j → i = j) : Many B w e R' := by
  have lt : ∀ (i : Nat) r, R'[i]? = some r → i < R'.length := fun i r hi => (List.getElem?_eq_some_iff.1 hi).1
  exact ⟨fun i v xs hi => h.own (f i) v xs (by rw [h1 i (lt i _ hi)]; exact hi), fun i v xs hi => h.new (f i) v xs (by rw [h1 i (lt i _ hi)]; exact hi),
    fun i j a xs b ys hij hi hj => h.sep (f i) (f j) a xs b ys (fun e => hij (h2 i j (lt i _ hi) (lt j _ hj) e)) (by rw [h1 i (lt i _ hi)]; exact hi) (by rw [h1 j (lt j _ hj)]; exact hj)⟩
theorem Own.Many.swap {B : Nat} {w : World} {e : TypeId} {a b c d : Value × List Value} (h : Many B w e [a, b, c, d]) : Many B w e [a, b, d, c] := by
  refine h.sub (fun i => if i = 2 then 3 else if i = 3 then 2 else i) (fun i hi => ?_) (fun i j hi hj he => ?_)
  · have : i = 0 ∨ i = 1 ∨ i = 2 ∨ i = 3 := by simp at hi; omega
    rcases this with rfl | rfl | rfl | rfl <;> rfl
  · simp at hi hj he
    split at he <;> split at he <;> (try split at he) <;> (try split at he) <;> omega
/-- The maker is laid. -/
theorem StB.make {B : Nat} {w x : World} {g g7 c7 : Nat} {l : List Int} {m : Nat} {vk vs : Value} {xs K S : List Int} (h1 : Blk x B #[.slice none 0 0, .int .i64 0] 28) (h2 : Below B w x)
    (h3 : Many B x 3 [(.slice (some ⟨g, 0, none⟩) 65 65, ints .i64 xs), (.slice (some ⟨g7, 0, none⟩) (ordL l).length c7, idx (ordL l)), (vk, ints .i64 K), (vs, ints .i64 S)]) :
    StB B w (x.alloc (.cells #[.slice none 0 0, .int .i64 (m : Int), vk, vs] 61)) g g7 c7 l m x.heap.size (.slice none 0 0) vk vs xs [] K S := by
  have hb : Below x.heap.size x (x.alloc (.cells #[.slice none 0 0, .int .i64 (m : Int), vk, vs] 61)) := (Below.refl _ _).alloc (Nat.le_refl _) _
  refine ⟨(hb.block B h1.lt).trans h1, h2.trans (hb.mono (Nat.le_of_lt h1.lt)), Nat.le_of_lt h1.lt, Blk.fresh _ _ _, ?_⟩
  exact h3.add hb (Owns.nil _ _) (fun b hb => by simp [Value.ownBlock] at hb) (Nat.le_of_lt h1.lt)

/-- The sums from j on, noughts ahead of them. -/
def sumsN (F : List Int) (j : Nat) : List Int := (List.range (F.length + 1)).map fun i => if j ≤ i then (F.drop i).sum else 0
theorem length_sumsN (F : List Int) (j : Nat) : (sumsN F j).length = F.length + 1 := by simp [sumsN]
theorem sumsN_all (F : List Int) : sumsN F 0 = sums F := by unfold sumsN sums; exact List.map_congr_left fun i _ => by rw [if_pos (Nat.zero_le _)]
theorem sumsN_none (F : List Int) : sumsN F F.length = List.replicate (F.length + 1) 0 := by
  apply List.ext_getElem
  · simp [sumsN]
  · intro i h1 h2
    rw [length_sumsN] at h1
    simp only [sumsN, List.getElem_map, List.getElem_range, List.getElem_replicate]
    split
    · rw [List.drop_eq_nil_of_le (by omega)]; rfl
    · rfl
theorem sumsN_at (F : List Int) (j : Nat) (h : j ≤ F.length) : (sumsN F j).getD j 0 = (F.drop j).sum := by
  unfold sumsN; simp [List.getD_eq_getElem?_getD, show j < F.length + 1 by omega]
theorem sumsN_set (F : List Int) (j : Nat) (h : j + 1 ≤ F.length) : (sumsN F (j + 1)).set j ((F.drop (j + 1)).sum + F.getD j 0) = sumsN F j := by
  apply List.ext_getElem
  · simp [sumsN]
  · intro i h1 h2
    rw [length_sumsN] at h2
    rw [List.getElem_set]
    by_cases e : j = i
    · subst e
      rw [if_pos rfl]
      simp only [sumsN, List.getElem_map, List.getElem_range]
      rw [if_pos (Nat.le_refl _)]
      have e2 : F.drop j = F.getD j 0 :: F.drop (j + 1) := by rw [List.drop_eq_getElem_cons (by omega)]; simp [List.getD_eq_getElem?_getD, show j < F.length by omega]
      rw [e2, List.sum_cons]; omega
    · rw [if_neg e]
      simp only [sumsN, List.getElem_map, List.getElem_range]
      by_cases h3 : j ≤ i
      · rw [if_pos (by omega), if_pos h3]
      · rw [if_neg (by omega), if_neg h3]
theorem kgood_zero (m : Nat) (F : List Int) (hm : m ≤ 15) : KGood m F (List.replicate 166600 0) := by
  refine ⟨List.length_replicate, fun d j o h1 h2 h3 h4 => .inl ?_⟩
  rw [getD_rep]
/-- Which of the candidates is taken: the greatest that costs what is wanted. -/
theorem take_is {r o t : Nat} {g : List Int} {x : Int} (h : dp (r + 1) g o = some x) (hg : g ≠ []) (ht : t ≤ o) (h1 : ∀ k, t < k → k ≤ o → cand r g o k ≠ some x) (h2 : t = 0 ∨ cand r g o t = some x) : take r g o = t := by
  obtain ⟨ho1, ho2, _⟩ := dp_some h hg
  have hs := best_spec (cand r g o) o
  rw [dp_in hg ho1 ho2] at h
  unfold take
  cases hb : best (cand r g o) o with
  | none => rw [hb] at h; cases h
  | some q =>
    obtain ⟨y, k⟩ := q
    rw [hb] at h hs
    simp only [Option.map_some, Option.some.injEq] at h
    subst h
    obtain ⟨_, h3, h4, h5⟩ := hs
    show k = t
    rcases Nat.lt_trichotomy k t with h6 | h6 | h6
    · rcases h2 with h7 | h7
      · omega
      · have := (h5 t y (by omega) ht h7).2 h6; omega
    · exact h6
    · exact absurd h4 (h1 k h6 h3)
theorem scat_take (out : List Int) (cs ns : List Nat) (i : Nat) (h1 : i < cs.length) (h2 : i < ns.length) : scat out (cs.take (i + 1)) (ns.take (i + 1)) = (scat out (cs.take i) (ns.take i)).set (cs.getD i 0) ((ns.getD i 0 : Nat) : Int) := by
  have e1 : cs.take (i + 1) = cs.take i ++ [cs.getD i 0] := by rw [List.take_succ_eq_append_getElem h1]; simp [List.getD_eq_getElem?_getD, h1]
  have e2 : ns.take (i + 1) = ns.take i ++ [ns.getD i 0] := by rw [List.take_succ_eq_append_getElem h2]; simp [List.getD_eq_getElem?_getD, h2]
  rw [e1, e2]
  exact scat_snoc _ _ _ _ _ (by simp; omega)
end Go.Proofs.Ytejecpmfhgplmaa

-- ---- Rg
/- wringerref7.Lengths: what the call answers for what may be asked. Conditions: the list reads as the argument does. -/
namespace Go.Proofs.Ytejecpmfhgplmaa
set_option linter.unusedSimpArgs false
set_option linter.unusedVariables false
open Go.RowKit Mix _root_.Go.Proofs.Ytejecpmfhgplmaa.Own Dp Ol
attribute [local go_sem] Own.max_int Own.min_int

theorem sliceX {w : World} {v : Value} {l : List Nat} (h : Owns w 3 v (idx l)) : ∃ a c, v = .slice a l.length c ∧ (l ≠ [] → ∃ g, a = some ⟨g, 0, none⟩) := by
  obtain ⟨a, c, e, hr⟩ := h.slice
  refine ⟨a, c, by rw [e, length_idx], fun hl => hr fun e => hl ?_⟩
  have := congrArg List.length e
  rw [length_idx] at this
  exact List.length_eq_zero_iff.1 this
theorem Own.Many.rest {B : Nat} {w : World} {e : TypeId} {r : Value × List Value} {R : List (Value × List Value)} (h : Many B w e (r :: R)) : Many B w e [r] :=
  ⟨fun i v xs hi => by
    match i, hi with
    | 0, hi => exact h.own 0 v xs hi
    | i + 1, hi => simp at hi, fun i v xs hi => by
    match i, hi with
    | 0, hi => exact h.new 0 v xs hi
    | i + 1, hi => simp at hi, fun i j a xs b ys hij hi hj => by
    have h1 : i = 0 := by have := (List.getElem?_eq_some_iff.1 hi).1; simpa using this
    have h2 : j = 0 := by have := (List.getElem?_eq_some_iff.1 hj).1; simpa using this
    omega⟩
/-- The end: the block of the result told. -/
theorem rlen_end {B : Nat} {w wr : World} {g : Nat} {xs : List Int} (h1 : Blk wr B #[.slice none 0 0, .int .i64 0] 28) (h2 : Below B w wr) (h3 : Many B wr 3 [(.slice (some ⟨g, 0, none⟩) 65 65, ints .i64 xs)]) :
    Blk ((wr.setCell ⟨B, 0, none⟩ (.slice (some ⟨g, 0, none⟩) 65 65)).setCell ⟨B, 1, none⟩ (.int .i64 0)) B #[.slice (some ⟨g, 0, none⟩) 65 65, .int .i64 0] 28 ∧
    Owns ((wr.setCell ⟨B, 0, none⟩ (.slice (some ⟨g, 0, none⟩) 65 65)).setCell ⟨B, 1, none⟩ (.int .i64 0)) 3 (.slice (some ⟨g, 0, none⟩) 65 65) (ints .i64 xs) ∧
    (∀ b, (Value.slice (some ⟨g, 0, none⟩) 65 65).ownBlock = some b → B ≤ b) ∧ Below B w ((wr.setCell ⟨B, 0, none⟩ (.slice (some ⟨g, 0, none⟩) 65 65)).setCell ⟨B, 1, none⟩ (.int .i64 0)) := by
  have hb1 := h1.set 0 (.slice (some ⟨g, 0, none⟩) 65 65)
  have m1 := h3.setBlk h1 (by decide) 0 (.slice (some ⟨g, 0, none⟩) 65 65)
  have m2 := m1.setBlk hb1 (by decide) 1 (.int .i64 0)
  exact ⟨hb1.set 1 _, m2.own 0 _ _ rfl, h3.new 0 _ _ rfl, (h2.setCell (p := ⟨B, 0, none⟩) (Nat.le_refl _) _).setCell (p := ⟨B, 1, none⟩) (Nat.le_refl _) _⟩

set_option maxRecDepth 100000 in
set_option maxHeartbeats 4000000 in
theorem rlen_ok (A0 : Option Addr) (c0 : Nat) (l0 : List Int) (m : Nat) (w : World) (hR : Rd w (.slice A0 65 65) (ints .i64 l0)) (hf : Fq l0 m) :
    Calls Try.prog 12 #[.slice A0 65 c0, .int .i64 (m : Int)] w fun e w' => ∃ v, e = .returned (.agg #[v, .int .i64 0]) ∧ Owns w' 3 v (ints .i64 (lenL l0 m)) ∧ (∀ g, v.ownBlock = some g → w.heap.size ≤ g) ∧ Below w.heap.size w w' := by
  obtain ⟨i0, hi, hz0, hz1, hz2⟩ := info_partsI infoI64
  have h65 := hf.len
  obtain ⟨B, hB⟩ : ∃ B, B = w.heap.size := ⟨_, rfl⟩
  have hro := fun w1 (h : Below w.heap.size w w1) => rorder_calls A0 65 c0 l0 w1 (hR.later h) (by omega)
  rw [← hB]
  have t7 : decide ((m : Int) < 7) = false := decide_eq_false (by have := hf.lo; omega)
  have t15 : decide (15 < (m : Int)) = false := decide_eq_false (by have := hf.hi; omega)
  have HB := kept hB
  have HF := kept hf
  have HR := kept hR
  have HL := kept h65
  have HRo := kept hro
  clear hB hf hR h65 hro
  go_enter Try.func12, Try.ntmps12
  go_wp2_with fail
  rw [show w.heap.size = B from HB.out.symm]
  generalize hw1 : World.alloc w _ = w1
  have HS1 : Kept (Blk w1 B #[.slice none 0 0, .int .i64 0] 28 ∧ Below B w w1) := kept (by rw [← hw1, HB.out]; exact ⟨Blk.fresh _ _ _, (Below.refl _ _).alloc (Nat.le_refl _) _⟩)
  have HR1 := kept (HR.out.later (show Below w.heap.size w w1 by rw [← HB.out]; exact HS1.out.2))
  clear hw1
  go_loopw [5] (fun s5 wr => ∃ i : Nat, i ≤ 65 ∧ s5 = .int .i64 (i : Int) ∧ wr = w1) (fun s5 _ => 65 - (intOf s5).toNat)
  case atStart => exact ⟨0, by omega, rfl, rfl⟩
  case round =>
    obtain ⟨i, hi65, rfl, rfl⟩ := hrel
    by_cases hlt : i < 65
    · have hil : i < l0.length := by rw [HL.out]; exact hlt
      obtain ⟨x, rfl, hc⟩ := HR1.out.at (Own.ints_at .i64 l0 i hil)
      have hy := HF.out.each (l0.getD i 0) (by simp [List.getD_eq_getElem?_getD, hil])
      obtain ⟨y, hye⟩ : ∃ y, y = l0.getD i 0 := ⟨_, rfl⟩
      rw [← hye] at hc hy
      obtain ⟨hy0, hy1⟩ := hy
      have ty : decide (y < 0) = false := decide_eq_false (by omega)
      have tz : decide (16777216 < y) = false := decide_eq_false (by omega)
      clear hye hil
      go_wp2_with fail
      go_roundw
      case rel => exact ⟨i + 1, by omega, by go_num, trivial⟩
      case measure => simp [intOf]; omega
    · have hie : i = 65 := by omega
      subst hie
      go_wp2_with (first | (refine wpList_mk1 rfl _ _ 22 rfl 3 i0 (.int .i64 0) 8 Try.underlying22 hi hz0 hz1 hz2 rfl .i64 .i64 _ _ 65 rfl rfl rfl rfl (by decide) (by decide) ?_))
      intro w2 hO hb hlt2
      obtain ⟨g, hg⟩ : ∃ g, g = wr.heap.size := ⟨_, rfl⟩
      have hM2 : Many B w2 3 [(.slice (some ⟨g, 0, none⟩) 65 65, ints .i64 (List.replicate 65 0))] := by
        have := (Many.nil B wr 3).add (v := .slice (some ⟨wr.heap.size, 0, none⟩) 65 65) hb hO (fun b hb => by simp [Value.ownBlock] at hb; omega) (Nat.le_of_lt HS1.out.1.lt)
        rw [hg]; simpa [ints] using this
      have HS2 : Kept (Blk w2 B #[.slice none 0 0, .int .i64 0] 28 ∧ Below B w w2) := kept ⟨(hb.block B HS1.out.1.lt).trans HS1.out.1, HS1.out.2.trans (hb.mono (Nat.le_of_lt HS1.out.1.lt))⟩
      have HM2 := kept hM2
      rw [← hg]
      have HC := kept (HRo.out w2 (by rw [← HB.out]; exact HS2.out.2))
      clear hO hb hlt2 hg hM2 hlt HS1 HR1
      go_wp2_with fail
      refine HC.out.mono ?_
      rintro e w3 ⟨v7, rfl, ho⟩
      have hM3 := HM2.out.add ho.low ho.own ho.new (Nat.le_of_lt HS2.out.1.lt)
      have HS3 : Kept (Blk w3 B #[.slice none 0 0, .int .i64 0] 28 ∧ Below B w w3) := kept ⟨(ho.low.block B HS2.out.1.lt).trans HS2.out.1, HS2.out.2.trans (ho.low.mono (Nat.le_of_lt HS2.out.1.lt))⟩
      obtain ⟨a7, c7, rfl, ha7⟩ := sliceX ho.own
      have HM3 := kept hM3
      have hnl := length_ordL l0
      rw [HL.out] at hnl
      obtain ⟨n, hn⟩ : ∃ n, n = (ordL l0).length := ⟨_, rfl⟩
      rw [← hn] at HM3 hnl ⊢
      have HN := kept hn
      have HA7 := kept ha7
      clear ho hM3 hn ha7 HC HM2 HS2
      have d0 := HS3.out.1.cell (i := 0) rfl
      have d1 := HS3.out.1.cell (i := 1) rfl
      have f0 := HS3.out.1.free 0
      have f1 := HS3.out.1.free 1
      by_cases hn1 : n = 1
      · subst hn1
        have hlen1 : (ordL l0).length = 1 := HN.out.symm
        obtain ⟨k, hk⟩ : ∃ k, ordL l0 = [k] := List.length_eq_one_iff.1 hlen1
        obtain ⟨g7, rfl⟩ := HA7.out (by rw [hk]; simp)
        have hk65 : k < 65 := by have h := (mem_ordL (f := l0) (i := k)).1 (by rw [hk]; simp); rw [← HL.out]; exact h.1
        have hcell7 : w3.cell? ⟨g7, 0, none⟩ = some (.int .i64 (k : Int)) := by
          have := (HM3.out.own 1 _ _ rfl).cell (j := 0) (idx_at _ 0 (by rw [hlen1]; decide))
          rw [hk] at this; exact this
        have co := (HM3.out.own 0 _ _ rfl).cell (j := k) (Own.ints_at .i64 (List.replicate 65 0) k (by simpa using hk65))
        have fo := (HM3.out.own 0 _ _ rfl).free k
        have HLen : Kept (lenL l0 m = (List.replicate 65 0).set k 1) := kept (by
          have e : lensOf l0 m = [1] := by unfold lensOf; rw [if_pos hlen1]
          unfold lenL; rw [e, hk]; rfl)
        have hM4 := (HM3.out.store 0 rfl k (.int .i64 1) (Nat.le_of_lt HS3.out.1.lt)).rest
        rw [← ints_set] at hM4
        have HM4 : Kept (Many B (w3.setCell ⟨g, k, none⟩ (.int .i64 1)) 3 [(.slice (some ⟨g, 0, none⟩) 65 65, ints .i64 (lenL l0 m))]) := kept (by rw [HLen.out]; exact hM4)
        have hc4 : Chg (fun b => some b = (Value.slice (some ⟨g, 0, none⟩) 65 65).ownBlock) w3 (w3.setCell ⟨g, k, none⟩ (.int .i64 1)) := (Chg.setCell w3 ⟨g, k, none⟩ (.int .i64 1)).mono fun b _ hb => by rw [hb]; rfl
        have HS4 : Kept (Blk (w3.setCell ⟨g, k, none⟩ (.int .i64 1)) B #[.slice none 0 0, .int .i64 0] 28 ∧ Below B w (w3.setCell ⟨g, k, none⟩ (.int .i64 1))) := kept ⟨HM3.out.other 0 rfl hc4 HS3.out.1 (by decide), HS3.out.2.trans (HM3.out.below 0 rfl hc4 (Nat.le_of_lt HS3.out.1.lt))⟩
        have HE := kept (rlen_end HS4.out.1 HS4.out.2 HM4.out)
        have e0 := HS4.out.1.cell (i := 0) rfl
        have e1 := HS4.out.1.cell (i := 1) rfl
        have g0 := HS4.out.1.free 0
        have g1 := HS4.out.1.free 1
        clear hk hlen1 hM4 hc4 d0 d1 f0 f1
        go_wp2_with fail
        exact bodyPost_ret (results_cell_row rfl _ _ B 28 #[.slice (some ⟨g, 0, none⟩) 65 65, .int .i64 0] (0, 0) _ rfl HE.out.1 Try.underlying28 rfl (by kernel_rfl)) rfl ⟨_, rfl, HE.out.2⟩
      · by_cases hn0 : n = 0
        · subst hn0
          have HE := kept (rlen_end HS3.out.1 HS3.out.2 HM3.out.rest)
          have HLen : Kept (lenL l0 m = List.replicate 65 0) := kept (by
            have e : ordL l0 = [] := List.length_eq_zero_iff.1 HN.out.symm
            unfold lenL; rw [e, scat_nil])
          clear hn1
          go_wp2_with fail
          exact bodyPost_ret (results_cell_row rfl _ _ B 28 #[.slice (some ⟨g, 0, none⟩) 65 65, .int .i64 0] (0, 0) _ rfl HE.out.1 Try.underlying28 rfl (by kernel_rfl)) rfl ⟨_, rfl, by rw [HLen.out]; exact HE.out.2⟩
        · obtain ⟨g7, rfl⟩ := HA7.out (by intro e; apply hn0; rw [HN.out, e]; rfl)
          have tn1 : ((n : Int) == 1) = false := by rw [beq_eq_false_iff_ne]; omega
          have hn2 : 2 ≤ n := by omega
          clear hn0 hn1 d0 d1 f0 f1
          go_upto_region 14 with (fail)
          go_cut [8] from 65 to 72 (fun s8 wx => ∃ p vk vs, s8 = .pointer (some ⟨p, 0, none⟩) ∧ StB B w wx g g7 c7 l0 m p (.slice none 0 0) vk vs (List.replicate 65 0) [] (List.replicate 166600 0) (List.replicate (n + 1) 0))
          case first =>
            refine wp_region_treeL [0,2,3,4] [] (.two 1 (.seq [5,6,7,8]) 5 (.seq [1,6,7,8])) (by kernel_rfl) (by kernel_rfl) ?_
            intro K hK
            simp only [pick, List.filterMap_cons, List.filterMap_nil, List.getElem?_cons_zero, List.getElem?_cons_succ]
            repeat (show wpQuiet _ _ _ _ (_ :: _) _; go_big_quiet_step (fail))
            refine wpQuiet_nil (wpQuiet_nil ?_)
            generalize hwd : World.drew w3 = x0
            have HS4 : Kept (Blk x0 B #[.slice none 0 0, .int .i64 0] 28 ∧ Below B w x0) := kept (by rw [← hwd]; exact ⟨HS3.out.1, HS3.out.2.drew⟩)
            have HM4 : Kept (Many B x0 3 ([(.slice (some ⟨g, 0, none⟩) 65 65, ints .i64 (List.replicate 65 0))] ++ [(.slice (some ⟨g7, 0, none⟩) n c7, idx (ordL l0))])) := kept (by rw [← hwd]; exact HM3.out.later (Below.refl _ _).drew)
            clear hwd
            refine (show _ ∧ _ from ⟨?_, ?_⟩)
            · show wpList _ _ _ [_] _ _
              refine wpList_mk1 rfl _ _ 22 rfl 3 i0 (.int .i64 0) 8 Try.underlying22 hi hz0 hz1 hz2 rfl .i64 .i64 166600 166600 166600 rfl rfl rfl rfl (by decide) (by decide) ?_
              intro x1 hO hb hlt2
              obtain ⟨g1, hg1⟩ : ∃ g1, g1 = x0.heap.size := ⟨_, rfl⟩
              have hm1 := HM4.out.add hb hO (fun b hb => by simp [Value.ownBlock] at hb; omega) (Nat.le_of_lt HS4.out.1.lt)
              rw [← hg1] at hm1 ⊢
              have HS5 : Kept (Blk x1 B #[.slice none 0 0, .int .i64 0] 28 ∧ Below B w x1) := kept ⟨(hb.block B HS4.out.1.lt).trans HS4.out.1, HS4.out.2.trans (hb.mono (Nat.le_of_lt HS4.out.1.lt))⟩
              have HM5 := kept hm1
              clear hO hb hlt2 hg1 hm1
              change wpTr _ _ _ _ _ _
              unfold wpTr
              show wpList _ _ _ [_, _, _, _] _ _
              refine wpList_mk1 rfl _ _ 22 rfl 3 i0 (.int .i64 0) 8 Try.underlying22 hi hz0 hz1 hz2 rfl .i64 .i64 _ _ (n + 1) rfl rfl (by omega) (by omega) (by omega) (by simp [maxLen]; omega) ?_
              intro x2 hO hb hlt2
              obtain ⟨g2, hg2⟩ : ∃ g2, g2 = x1.heap.size := ⟨_, rfl⟩
              have hm2 := HM5.out.add hb hO (fun b hb => by simp [Value.ownBlock] at hb; omega) (Nat.le_of_lt HS5.out.1.lt)
              rw [← hg2] at hm2 ⊢
              have HS6 : Kept (Blk x2 B #[.slice none 0 0, .int .i64 0] 28 ∧ Below B w x2) := kept ⟨(hb.block B HS5.out.1.lt).trans HS5.out.1, HS5.out.2.trans (hb.mono (Nat.le_of_lt HS5.out.1.lt))⟩
              rw [HN.out] at hm2
              have hm3 := StB.make (g := g) (g7 := g7) (c7 := c7) (l := l0) (m := m) (xs := List.replicate 65 0) (K := List.replicate 166600 0) (S := List.replicate (n + 1) 0) HS6.out.1 HS6.out.2 (by
                have h := hm2
                have e1 : List.replicate 166600 (Value.int .i64 0) = ints .i64 (List.replicate 166600 0) := by unfold ints; rw [List.map_replicate]
                have e2 : List.replicate (n + 1) (Value.int .i64 0) = ints .i64 (List.replicate (n + 1) 0) := by unfold ints; rw [List.map_replicate]
                rw [← HN.out, e1, e2] at h
                rw [← HN.out]
                exact h)
              have HB3 := kept hm3
              clear hO hb hlt2 hg2 hm2 hm3
              go_wp2_with fail
              refine hK _ _ ?_
              go_wp2_with fail
              go_meet
              case rel => exact ⟨_, _, _, rfl, HB3.out⟩
            · show wpList _ _ _ [_] _ _
              refine wpList_mk1 rfl _ _ 22 rfl 3 i0 (.int .i64 0) 8 Try.underlying22 hi hz0 hz1 hz2 rfl .i64 .i64 _ _ (n + 1) rfl rfl (by omega) (by omega) (by omega) (by simp [maxLen]; omega) ?_
              intro x1 hO hb hlt2
              obtain ⟨g1, hg1⟩ : ∃ g1, g1 = x0.heap.size := ⟨_, rfl⟩
              have hm1 := HM4.out.add hb hO (fun b hb => by simp [Value.ownBlock] at hb; omega) (Nat.le_of_lt HS4.out.1.lt)
              rw [← hg1] at hm1 ⊢
              have HS5 : Kept (Blk x1 B #[.slice none 0 0, .int .i64 0] 28 ∧ Below B w x1) := kept ⟨(hb.block B HS4.out.1.lt).trans HS4.out.1, HS4.out.2.trans (hb.mono (Nat.le_of_lt HS4.out.1.lt))⟩
              have HM5 := kept hm1
              clear hO hb hlt2 hg1 hm1
              change wpTr _ _ _ _ _ _
              unfold wpTr
              show wpList _ _ _ [_, _, _, _] _ _
              refine wpList_mk1 rfl _ _ 22 rfl 3 i0 (.int .i64 0) 8 Try.underlying22 hi hz0 hz1 hz2 rfl .i64 .i64 _ _ 166600 rfl rfl rfl rfl (by decide) (by decide) ?_
              intro x2 hO hb hlt2
              obtain ⟨g2, hg2⟩ : ∃ g2, g2 = x1.heap.size := ⟨_, rfl⟩
              have hm2 := HM5.out.add hb hO (fun b hb => by simp [Value.ownBlock] at hb; omega) (Nat.le_of_lt HS5.out.1.lt)
              rw [← hg2] at hm2 ⊢
              have HS6 : Kept (Blk x2 B #[.slice none 0 0, .int .i64 0] 28 ∧ Below B w x2) := kept ⟨(hb.block B HS5.out.1.lt).trans HS5.out.1, HS5.out.2.trans (hb.mono (Nat.le_of_lt HS5.out.1.lt))⟩
              rw [HN.out] at hm2
              have hm3 := StB.make (g := g) (g7 := g7) (c7 := c7) (l := l0) (m := m) (xs := List.replicate 65 0) (K := List.replicate 166600 0) (S := List.replicate (n + 1) 0) HS6.out.1 HS6.out.2 (by
                have h := hm2.swap
                have e1 : List.replicate 166600 (Value.int .i64 0) = ints .i64 (List.replicate 166600 0) := by unfold ints; rw [List.map_replicate]
                have e2 : List.replicate (n + 1) (Value.int .i64 0) = ints .i64 (List.replicate (n + 1) 0) := by unfold ints; rw [List.map_replicate]
                rw [← HN.out, e1, e2] at h
                rw [← HN.out]
                exact h)
              have HB3 := kept hm3
              clear hO hb hlt2 hg2 hm2 hm3
              go_wp2_with fail
              refine hK _ _ ?_
              go_wp2_with fail
              go_meet
              case rel => exact ⟨_, _, _, rfl, HB3.out⟩
          case rest =>
            obtain ⟨p, vk, vs, rfl, hst⟩ := hcut
            obtain ⟨w4, rfl⟩ : ∃ w4, w4 = wc := ⟨wc, rfl⟩
            obtain ⟨G, hG⟩ : ∃ G, G = ofs l0 := ⟨_, rfl⟩
            have hGl : G.length = n := by rw [hG, length_ofs]; exact HN.out.symm
            have HG := kept hG
            have HGl := kept hGl
            have HS4 := kept hst
            clear hG hGl hst HS3 HM3 HA7
            go_wp2_with fail
            go_loopw [9] (fun s9 wr => ∃ i : Nat, i ≤ n ∧ s9 = .int .i64 (i : Int) ∧ ∃ vf, StB B w wr g g7 c7 l0 m p vf vk vs (List.replicate 65 0) (G.take i) (List.replicate 166600 0) (List.replicate (n + 1) 0)) (fun s9 _ => n - (intOf s9).toNat)
            case atStart => exact ⟨0, by omega, rfl, _, HS4.out⟩
            case round =>
              obtain ⟨i, hin, rfl, vf, hst⟩ := hrel
              obtain ⟨wq, rfl⟩ : ∃ wq, wq = wr := ⟨wr, rfl⟩
              by_cases hlt : i < n
              · have hio : i < (ordL l0).length := by rw [← HN.out]; exact hlt
                obtain ⟨q, hq⟩ : ∃ q, q = (ordL l0).getD i 0 := ⟨_, rfl⟩
                have hqm : q ∈ ordL l0 := by rw [hq]; simp [List.getD_eq_getElem?_getD, hio]
                have hq65 : q < 65 := by have h := (mem_ordL.1 hqm).1; rw [HL.out] at h; exact h
                have c7i := hst.ordAt i hio
                rw [← hq] at c7i
                have cp := hst.blk.cell (i := 0) rfl
                have hrd := HR.out.later (show Below w.heap.size w wq by rw [← HB.out]; exact hst.low)
                obtain ⟨x, rfl, hcq⟩ := hrd.at (Own.ints_at .i64 l0 q (by rw [HL.out]; exact hq65))
                obtain ⟨y, hy⟩ : ∃ y, y = l0.getD q 0 := ⟨_, rfl⟩
                rw [← hy] at hcq
                have hGi : G.take (i + 1) = G.take i ++ [y] := by
                  have hiG : i < G.length := by rw [HGl.out]; exact hlt
                  have h := ofs_at l0 i hio
                  rw [← HG.out, ← hq, ← hy] at h
                  rw [List.take_succ_eq_append_getElem hiG, ← h]; simp [List.getD_eq_getElem?_getD, hiG]
                have HGi := kept hGi
                have HS := kept hst
                have l1 := lat_cell c7i
                have l2 := lat_cell cp
                have l3 := lat_cell hcq
                clear hGi hst hrd hy hq hqm hio c7i cp hcq
                go_wp2_with fail
                refine wp_region_mixL [0] [1,2,3,4,5,6,7,8,9,10,11] [12,13,14,15,16] (by kernel_rfl) (by kernel_rfl) ?_
                intro K hK
                simp only [pick, List.filterMap_cons, List.filterMap_nil, List.getElem?_cons_zero, List.getElem?_cons_succ]
                repeat (show wpQuiet _ _ _ _ (_ :: _) _; go_big_quiet_step (fail))
                show wpList _ _ _ [_, _, _, _, _] _ _
                generalize hwd : World.drew wq = wd
                have HSd := kept (show StB B w wd g g7 c7 l0 m p vf vk vs (List.replicate 65 0) (G.take i) (List.replicate 166600 0) (List.replicate (n + 1) 0) by rw [← hwd]; exact HS.out.later (Below.refl _ _).drew)
                clear hwd l1 l2 l3
                have hgl : (G.take i).length ≤ 65 := by rw [List.length_take]; omega
                have hov := HSd.out.many.own 4 _ _ rfl
                go_wp2_with (first | (at_builtin; go_loud (refine wpList_app1 rfl _ _ 22 rfl 3 i0 (.int .i64 0) 8 Try.underlying22 hi hz0 hz1 hz2 rfl vf _ (.int .i64 y) rfl hov rfl rfl ?_ ?_ ?_)))
                · simp [maxLen]; omega
                · simp; omega
                intro v5 w5 O5 C5 F5
                have e5 : ints .i64 (G.take i) ++ [.int .i64 y] = ints .i64 (G.take i ++ [y]) := by simp [ints]
                rw [e5] at O5
                obtain ⟨a5, c5, hv5⟩ := sliceI O5
                rw [← HGi.out, show (G.take (i + 1)).length = i + 1 by rw [List.length_take, HGl.out]; omega] at hv5
                subst hv5
                obtain ⟨hp1, hp2, hp3⟩ := HSd.out.push O5 C5 F5
                rw [← HGi.out] at hp1
                have HS5 := kept hp1
                clear O5 C5 F5 e5 hp1 hov
                go_wp2_with fail
                refine hK _ _ ?_
                go_wp2_with fail
                go_roundw
                case rel => exact ⟨i + 1, by omega, by go_num, _, HS5.out⟩
                case measure => simp [intOf]; omega
              · have hie : i = n := by omega
                subst hie
                have hGt : G.take i = G := List.take_of_length_le (by rw [HGl.out]; exact Nat.le_refl _)
                rw [hGt] at hst
                obtain ⟨gf, cf, hvf, _, _⟩ := rowI (hst.many.own 4 _ _ rfl) (by intro e; have := HGl.out; rw [e] at this; simp at this; omega)
                obtain ⟨gs, cs, hvs, _, _⟩ := rowI (hst.many.own 3 _ _ rfl) (by intro e; have := congrArg List.length e; simp at this)
                rw [HGl.out] at hvf
                rw [List.length_replicate] at hvs
                subst hvf hvs
                have HGs : Kept (Gs G) := kept ⟨by rw [HGl.out]; omega, fun x hx => by
                  rw [HG.out] at hx
                  obtain ⟨j, hj, rfl⟩ := List.mem_map.1 hx
                  have h2 := HF.out.each (l0.getD j 0) (by have h := (mem_ordL.1 hj).1; simp [List.getD_eq_getElem?_getD, h])
                  exact h2⟩
                have HS5 : Kept (StB B w wq g g7 c7 l0 m p (.slice (some ⟨gf, 0, none⟩) i cf) vk (.slice (some ⟨gs, 0, none⟩) (i + 1) cs) (List.replicate 65 0) G (List.replicate 166600 0) (sumsN G i)) := kept (by
                  have h := sumsN_none G
                  rw [HGl.out] at h
                  rw [h]; exact hst)
                clear hst hGt hlt HS4
                go_wp2_with fail
                go_loopw [10] (fun s10 wr => ∃ j : Nat, j ≤ i ∧ s10 = .int .i64 ((j : Int) - 1) ∧ StB B w wr g g7 c7 l0 m p (.slice (some ⟨gf, 0, none⟩) i cf) vk (.slice (some ⟨gs, 0, none⟩) (i + 1) cs) (List.replicate 65 0) G (List.replicate 166600 0) (sumsN G j)) (fun s10 _ => (intOf s10 + 1).toNat)
                case atStart => exact ⟨i, Nat.le_refl _, rfl, HS5.out⟩
                case round =>
                  obtain ⟨j, hjn, rfl, hst⟩ := hrel
                  obtain ⟨wl, rfl⟩ : ∃ wl, wl = wr := ⟨wr, rfl⟩
                  by_cases hj0 : 0 < j
                  · obtain ⟨k, rfl⟩ : ∃ k, j = k + 1 := ⟨j - 1, by omega⟩
                    rw [show (((k + 1 : Nat) : Int) - 1) = (k : Int) by omega]
                    have cp0 := hst.blk.cell (i := 0) rfl
                    have cp3 := hst.blk.cell (i := 3) rfl
                    have hsl : (sumsN G (k + 1)).length = i + 1 := by rw [length_sumsN, HGl.out]
                    have cs1 := (hst.many.own 3 _ _ rfl).cell (j := k + 1) (Own.ints_at .i64 (sumsN G (k + 1)) (k + 1) (by rw [hsl]; omega))
                    rw [sumsN_at G (k + 1) (by rw [HGl.out]; omega)] at cs1
                    have cs0 := (hst.many.own 3 _ _ rfl).cell (j := k) (Own.ints_at .i64 (sumsN G (k + 1)) k (by rw [hsl]; omega))
                    have fs0 := (hst.many.own 3 _ _ rfl).free k
                    have cf0 := (hst.many.own 4 _ _ rfl).cell (j := k) (Own.ints_at .i64 G k (by rw [HGl.out]; omega))
                    have hset := sumsN_set G k (by rw [HGl.out]; omega)
                    have hb1 := HGs.out.sum (k + 1)
                    have hb2 := HGs.out.each (G.getD k 0) (by have : k < G.length := by rw [HGl.out]; omega
                                                              simp [List.getD_eq_getElem?_getD, this])
                    obtain ⟨S1, hS1⟩ : ∃ S1, S1 = (G.drop (k + 1)).sum := ⟨_, rfl⟩
                    obtain ⟨y, hy⟩ : ∃ y, y = G.getD k 0 := ⟨_, rfl⟩
                    rw [← hS1] at cs1 hset hb1
                    rw [← hy] at cf0 hset hb2
                    obtain ⟨hb1a, hb1b⟩ := hb1
                    obtain ⟨hb2a, hb2b⟩ := hb2
                    obtain ⟨z0, hz0e⟩ : ∃ z0, z0 = (sumsN G (k + 1)).getD k 0 := ⟨_, rfl⟩
                    rw [← hz0e] at cs0
                    have HSet := kept hset
                    have HSo := kept hst
                    have l0' := lat_cell cp0
                    have l1' := lat_cell cp3
                    have l2' := lat_cell cs1
                    have l3' := lat_cell cf0
                    clear hset hst hsl hS1 hy hz0e cp0 cp3 cs1 cf0 hj0
                    go_wp2_with fail
                    refine wp_region_mixL [] [0,1,2,3,4,5,6,7,8,9,10,11,12,13,14,15,16,17,18,19,20,21] [22] (by kernel_rfl) (by kernel_rfl) ?_
                    intro K hK
                    simp only [pick, List.filterMap_cons, List.filterMap_nil, List.getElem?_cons_zero, List.getElem?_cons_succ]
                    refine wpQuiet_nil ?_
                    repeat (show wpQuiet _ _ _ _ (_ :: _) _; go_big_quiet_step (fail))
                    refine wpQuiet_nil ?_
                    show wpList _ _ _ [_] _ _
                    generalize hwd : World.drew wl = wd
                    have hcd : wd.cell? ⟨gs, k, none⟩ = some (.int .i64 z0) := by rw [← hwd]; exact cs0
                    have hfd : wd.frozen? ⟨gs, k, none⟩ = false := by rw [← hwd]; exact fs0
                    have HNd : Kept (StB B w (wd.setCell ⟨gs, k, none⟩ (.int .i64 (S1 + y))) g g7 c7 l0 m p (.slice (some ⟨gf, 0, none⟩) i cf) vk (.slice (some ⟨gs, 0, none⟩) (i + 1) cs) (List.replicate 65 0) G (List.replicate 166600 0) (sumsN G k)) := kept (by
                      have h := (HSo.out.later (Below.refl _ _).drew).storeSum k (S1 + y)
                      rw [HSet.out] at h
                      rw [← hwd]; exact h)
                    clear hwd l0' l1' l2' l3' cs0 fs0
                    go_wp2_with fail
                    refine hK _ _ ?_
                    go_wp2_with fail
                    go_roundw
                    case rel => exact ⟨k, by omega, by go_num, HNd.out⟩
                    case measure => simp [intOf]
                  · have hj : j = 0 := by omega
                    subst hj
                    rw [show (((0 : Nat) : Int) - 1) = -1 from rfl]
                    rw [sumsN_all] at hst
                    have HS6 := kept hst
                    clear hst HS5 hj0 hjn
                    obtain ⟨L, hL⟩ : ∃ L, L = lensOf l0 m := ⟨_, rfl⟩
                    obtain ⟨x0, hx0⟩ := HF.out.can (by rw [← HN.out]; exact hn2)
                    rw [← HG.out] at hx0
                    have hLe : L = lens m 1 G 2 := by rw [hL, HG.out]; unfold lensOf; rw [if_neg (by rw [← HN.out]; omega)]
                    have hLl : L.length = i := by rw [hL, HF.out.spec.1]; exact HN.out.symm
                    have HLe := kept hLe
                    have HLl := kept hLl
                    have HLL := kept hL
                    have HX0 := kept hx0
                    have hm15 := HF.out.hi
                    clear hLe hLl hL hx0
                    go_wp2_with fail
                    go_loopw [11, 12, 13] (fun s11 s12 s13 wr => ∃ (d j o r : Nat) (x : Int) (K : List Int), s11 = .int .i64 (j : Int) ∧ s12 = .int .i64 (o : Int) ∧ s13 = .int .i64 (d : Int) ∧ d + r = m + 1 ∧ 1 ≤ d ∧ j ≤ i ∧ o ≤ 130 ∧ dp r (G.drop j) o = some x ∧ L.drop j = lens r d (G.drop j) o ∧ KGood m G K ∧
                        StB B w wr g g7 c7 l0 m p (.slice (some ⟨gf, 0, none⟩) i cf) vk (.slice (some ⟨gs, 0, none⟩) (i + 1) cs) (scat (List.replicate 65 0) ((ordL l0).take j) (L.take j)) G K (sums G)) (fun _ _ s13 _ => m + 1 - (intOf s13).toNat)
                    case atStart =>
                      refine ⟨1, 0, 2, m, x0, _, rfl, rfl, rfl, by omega, Nat.le_refl _, Nat.zero_le _, by decide, HX0.out, by rw [List.drop_zero, List.drop_zero]; exact HLe.out, kgood_zero m G hm15, ?_⟩
                      rw [List.take_zero, scat_nil]; exact HS6.out
                    case round =>
                      obtain ⟨d, j, o, r, x, K, rfl, rfl, rfl, hdr, hd1, hji, ho130, hdp, hLd, hK, hst⟩ := hrel
                      obtain ⟨wl, rfl⟩ : ∃ wl, wl = wr := ⟨wr, rfl⟩
                      by_cases hlt : j < i
                      · have hne : G.drop j ≠ [] := by intro e; have := congrArg List.length e; rw [List.length_drop, HGl.out] at this; simp at this; omega
                        obtain ⟨r, rfl⟩ : ∃ r', r = r' + 1 := by
                          cases r with
                          | zero => rw [dp_out hne (by omega)] at hdp; cases hdp
                          | succ r => exact ⟨r, rfl⟩
                        obtain ⟨ho1, hol, y, hy, hxy⟩ := dp_some hdp hne
                        rw [List.length_drop, HGl.out] at hol
                        obtain ⟨k, hk⟩ : ∃ k, k = Dp.take r (G.drop j) o := ⟨_, rfl⟩
                        have hko : k ≤ o := by rw [hk]; exact take_le _ _ _
                        rw [lens_cons hne, ← hk] at hLd
                        rw [← hk] at hy hxy
                        have hxb := dp_le _ _ _ _ (HGs.out.drop j) hdp
                        obtain ⟨hx1, hx2⟩ := hxb
                        have hx3 : x ≤ 20000000000 := by omega
                        have hcall := cost_calls G m p _ _ _ HGs.out hm15 (r + 1) d j o K wl (hst.tab hK) (by rw [HGl.out]; omega) ho130 hd1 hdr
                        unfold CostE at hcall
                        rw [hdp] at hcall
                        simp only [enc] at hcall
                        have HC1 := kept hcall
                        have HSt := kept hst
                        have HK := kept hk
                        have HLd := kept hLd
                        have HY := kept hy
                        have HDp := kept hdp
                        have HNe := kept hne
                        clear hcall hst hk hLd hy hdp hne hxy hx2 hK HS6
                        go_upto_block 8 with (first | (go_at_call 24; refine HC1.out.mono ?_; rintro e w5 ⟨rfl, K2, hT2, hC2⟩; have HK2 := kept hT2.good; have HS2 := kept (HSt.out.costed hT2 hC2); clear hT2 hC2))
                        go_cut [15] from 136 to 167 (fun s15 wx => s15 = .int .i64 (k : Int) ∧ ∃ K', KGood m G K' ∧ StB B w wx g g7 c7 l0 m p (.slice (some ⟨gf, 0, none⟩) i cf) vk (.slice (some ⟨gs, 0, none⟩) (i + 1) cs) (scat (List.replicate 65 0) ((ordL l0).take j) (L.take j)) G K' (sums G))
                        case first =>
                          go_wp2_with fail
                          go_loopw [15] (fun s15 wr => ∃ (t : Nat) (K' : List Int), t ≤ o ∧ s15 = .int .i64 (t : Int) ∧ (∀ t', t < t' → t' ≤ o → cand r (G.drop j) o t' ≠ some x) ∧ KGood m G K' ∧
                            StB B w wr g g7 c7 l0 m p (.slice (some ⟨gf, 0, none⟩) i cf) vk (.slice (some ⟨gs, 0, none⟩) (i + 1) cs) (scat (List.replicate 65 0) ((ordL l0).take j) (L.take j)) G K' (sums G)) (fun s15 _ => (intOf s15).toNat)
                          case atStart => exact ⟨o, _, Nat.le_refl _, rfl, fun t' h1 h2 => by omega, HK2.out, HS2.out⟩
                          case round =>
                            obtain ⟨t, K3, hto, rfl, hbig, hK3, hst3⟩ := hrel
                            obtain ⟨wk, rfl⟩ : ∃ wk, wk = wr := ⟨wr, rfl⟩
                            by_cases ht0 : 0 < t
                            · have hcall := cost_calls G m p _ _ _ HGs.out hm15 r (d + 1) (j + t) (2 * (o - t)) K3 wk (hst3.tab hK3) (by rw [HGl.out]; omega) (by omega) (by omega) (by omega)
                              rw [show ((d + 1 : Nat) : Int) = (d : Int) + 1 by omega, show ((j + t : Nat) : Int) = (j : Int) + (t : Int) by omega, show ((2 * (o - t) : Nat) : Int) = 2 * ((o : Int) - (t : Int)) by omega] at hcall
                              unfold CostE at hcall
                              have hcand : cand r (G.drop j) o t = (dp r (G.drop (j + t)) (2 * (o - t))).map (· + (G.drop (j + t)).sum) := by unfold cand; rw [List.drop_drop]
                              have hSb := HGs.out.sum (j + t)
                              have hsAt := sums_at G (j + t) (by rw [HGl.out]; omega)
                              have hsl := length_sums G
                              obtain ⟨S, hS⟩ : ∃ S, S = (G.drop (j + t)).sum := ⟨_, rfl⟩
                              rw [← hS] at hcand hSb hsAt
                              obtain ⟨hSb1, hSb2⟩ := hSb
                              have HSt3 := kept hst3
                              have HBig := kept hbig
                              have HSAt := kept hsAt
                              have HSl := kept hsl
                              clear hst3 hbig hS hsAt hsl
                              cases hdt : dp r (G.drop (j + t)) (2 * (o - t)) with
                              | none =>
                                rw [hdt] at hcall hcand
                                simp only [enc] at hcall
                                have HC3 := kept hcall
                                have HCa := kept hcand
                                clear hcall hcand hdt
                                go_wp2_with (first | (go_at_call 24; refine HC3.out.mono ?_; rintro e w6 ⟨rfl, K4, hT4, hC4⟩; have HK4 := kept hT4.good; have HS4 := kept (HSt3.out.costed hT4 hC4); clear hT4 hC4))
                                go_roundw
                                case rel =>
                                  refine ⟨t - 1, K4, by omega, by go_num, fun t' h1 h2 => ?_, HK4.out, HS4.out⟩
                                  by_cases e : t' = t
                                  · rw [e, HCa.out]; simp
                                  · exact HBig.out t' (by omega) h2
                                case measure => simp [intOf]; omega
                              | some z =>
                                rw [hdt] at hcall hcand
                                simp only [enc, Option.map_some] at hcall hcand
                                have hzb := dp_le _ _ _ _ (HGs.out.drop (j + t)) hdt
                                obtain ⟨hz1', hz2'⟩ := hzb
                                have hz3' : z ≤ 20000000000 := by omega
                                have tz : decide (0 ≤ z) = true := decide_eq_true hz1'
                                have HC3 := kept hcall
                                have HCa := kept hcand
                                clear hcall hcand hdt hz2'
                                by_cases heq : z + S = x
                                · have teq : (z + S == x) = true := by rw [beq_iff_eq]; exact heq
                                  have HTk : Kept (k = t) := kept (by rw [HK.out]; exact take_is HDp.out HNe.out hto HBig.out (.inr (by rw [HCa.out, heq])))
                                  have HEq := kept heq
                                  clear heq
                                  go_wp2_with (first | (go_at_call 24; refine HC3.out.mono ?_; rintro e w6 ⟨rfl, K4, hT4, hC4⟩; have HK4 := kept hT4.good; have HS4 := kept (HSt3.out.costed hT4 hC4); have d3 := hT4.blk.cell (i := 3) rfl; have dsum := (by have := (hT4.rs.cell (j := j + t) (Own.ints_at .i64 (sums G) (j + t) (by rw [HSl.out, HGl.out]; omega))); rw [HSAt.out] at this; exact this : w6.cell? ⟨gs, j + t, none⟩ = some (.int .i64 S)); clear hT4 hC4))
                                  go_meet
                                  case rel => exact ⟨by rw [HTk.out], K4, HK4.out, HS4.out⟩
                                · have teq : (z + S == x) = false := by rw [beq_eq_false_iff_ne]; exact heq
                                  have HEq := kept heq
                                  clear heq
                                  go_wp2_with (first | (go_at_call 24; refine HC3.out.mono ?_; rintro e w6 ⟨rfl, K4, hT4, hC4⟩; have HK4 := kept hT4.good; have HS4 := kept (HSt3.out.costed hT4 hC4); have d3 := hT4.blk.cell (i := 3) rfl; have dsum := (by have := (hT4.rs.cell (j := j + t) (Own.ints_at .i64 (sums G) (j + t) (by rw [HSl.out, HGl.out]; omega))); rw [HSAt.out] at this; exact this : w6.cell? ⟨gs, j + t, none⟩ = some (.int .i64 S)); clear hT4 hC4))
                                  go_roundw
                                  case rel =>
                                    refine ⟨t - 1, K4, by omega, by go_num, fun t' h1 h2 => ?_, HK4.out, HS4.out⟩
                                    by_cases e : t' = t
                                    · rw [e, HCa.out]; intro h; exact HEq.out (Option.some.inj h)
                                    · exact HBig.out t' (by omega) h2
                                  case measure => simp [intOf]; omega
                            · have ht : t = 0 := by omega
                              subst ht
                              have HTk : Kept (k = 0) := kept (by rw [HK.out]; exact take_is HDp.out HNe.out (Nat.zero_le _) hbig (.inl rfl))
                              have HS7 := kept hst3
                              have HK7 := kept hK3
                              clear hst3 hK3 hbig ht0
                              go_wp2_with fail
                              go_meet
                              case rel => exact ⟨by rw [HTk.out], K3, HK7.out, HS7.out⟩
                        case rest =>
                          obtain ⟨rfl, K5, hK5, hst5⟩ := hcut
                          obtain ⟨w8, rfl⟩ : ∃ w8, w8 = wc := ⟨wc, rfl⟩
                          have HK5 := kept hK5
                          have HS5' := kept hst5
                          have hkj : j + k ≤ i := by omega
                          have HLat : Kept (∀ q, q < k → L.getD (j + q) 0 = d) := kept (fun q hq => by
                            have e : L.getD (j + q) 0 = (L.drop j).getD q 0 := by simp [List.getD_eq_getElem?_getD]
                            rw [e, HLd.out]
                            have hq2 : q < (List.replicate k d).length := by rw [List.length_replicate]; exact hq
                            rw [List.getD_eq_getElem?_getD, List.getElem?_append_left hq2]
                            simp [hq])
                          have HLdr : Kept (L.drop (j + k) = lens r (d + 1) (G.drop (j + k)) (2 * (o - k))) := kept (by
                            have e : L.drop (j + k) = (L.drop j).drop k := by rw [List.drop_drop]
                            rw [e, HLd.out, List.drop_drop, List.drop_left' (by rw [List.length_replicate])])
                          have HY2 : Kept (dp r (G.drop (j + k)) (2 * (o - k)) = some y) := kept (by rw [← HY.out, List.drop_drop])
                          clear hK5 hst5 HSt HK2 HS2 HC1
                          go_wp2_with fail
                          go_loopw [17] (fun s17 wr => ∃ q : Nat, q ≤ k ∧ s17 = .int .i64 (q : Int) ∧ StB B w wr g g7 c7 l0 m p (.slice (some ⟨gf, 0, none⟩) i cf) vk (.slice (some ⟨gs, 0, none⟩) (i + 1) cs) (scat (List.replicate 65 0) ((ordL l0).take (j + q)) (L.take (j + q))) G K5 (sums G)) (fun s17 _ => k - (intOf s17).toNat)
                          case atStart => exact ⟨0, Nat.zero_le _, rfl, HS5'.out⟩
                          case round =>
                            obtain ⟨q, hqk, rfl, hst6⟩ := hrel
                            obtain ⟨wm, rfl⟩ : ∃ wm, wm = wr := ⟨wr, rfl⟩
                            by_cases hq : q < k
                            · have hjq : j + q < (ordL l0).length := by rw [← HN.out]; omega
                              obtain ⟨c, hc⟩ : ∃ c, c = (ordL l0).getD (j + q) 0 := ⟨_, rfl⟩
                              have hcm : c ∈ ordL l0 := by rw [hc]; simp [List.getD_eq_getElem?_getD, hjq]
                              have hc65 : c < 65 := by have h := (mem_ordL.1 hcm).1; rw [HL.out] at h; exact h
                              have c7i := hst6.ordAt (j + q) hjq
                              rw [← hc] at c7i
                              have hsc := scat_take (List.replicate 65 0) (ordL l0) L (j + q) hjq (by rw [HLl.out]; omega)
                              rw [← hc, HLat.out q hq] at hsc
                              obtain ⟨xs, hxs⟩ : ∃ xs, xs = scat (List.replicate 65 0) ((ordL l0).take (j + q)) (L.take (j + q)) := ⟨_, rfl⟩
                              have hxl : xs.length = 65 := by rw [hxs, length_scat]; simp
                              rw [← hxs] at hsc hst6
                              have co := hst6.out.cell (j := c) (Own.ints_at .i64 xs c (by rw [hxl]; exact hc65))
                              have fo := hst6.out.free c
                              have hst7 := hst6.storeOut c (d : Int)
                              rw [← hsc] at hst7
                              obtain ⟨z0, hz0e⟩ : ∃ z0, z0 = xs.getD c 0 := ⟨_, rfl⟩
                              rw [← hz0e] at co
                              have HS7 := kept hst7
                              clear hst6 hst7 hsc hxs hxl hz0e hc hcm hjq
                              go_wp2_with fail
                              go_roundw
                              case rel => exact ⟨q + 1, by omega, by go_num, HS7.out⟩
                              case measure => simp [intOf]; omega
                            · have hqe : q = k := by omega
                              subst hqe
                              have HS7 := kept hst6
                              clear hst6 hq
                              go_wp2_with fail
                              go_roundw
                              case rel =>
                                exact ⟨d + 1, j + q, 2 * (o - q), r, y, K5, by go_num, by go_num, by go_num, by omega, by omega, hkj, by omega, HY2.out, HLdr.out, HK5.out, HS7.out⟩
                              case measure => simp [intOf]; omega
                      · have hje : j = i := by omega
                        subst hje
                        rw [List.take_of_length_le (by rw [← HN.out]; exact Nat.le_refl _), List.take_of_length_le (by rw [HLl.out]; exact Nat.le_refl _), HLL.out] at hst
                        have HLn : Kept (scat (List.replicate 65 0) (ordL l0) (lensOf l0 m) = lenL l0 m) := kept rfl
                        rw [HLn.out] at hst
                        have HE := kept (rlen_end hst.res hst.low hst.many.rest)
                        have d0 := hst.res.cell (i := 0) rfl
                        have d1 := hst.res.cell (i := 1) rfl
                        have f0 := hst.res.free 0
                        have f1 := hst.res.free 1
                        clear hst hdp hLd hK HS6
                        go_wp2_with fail
                        exact bodyPost_ret (results_cell_row rfl _ _ B 28 #[.slice (some ⟨g, 0, none⟩) 65 65, .int .i64 0] (0, 0) _ rfl HE.out.1 Try.underlying28 rfl (by kernel_rfl)) rfl ⟨_, rfl, HE.out.2⟩
end Go.Proofs.Ytejecpmfhgplmaa

-- ---- Mq
/- merge.Lengths: what it refuses, and one class or none. Conditions: the list reads as the argument does. -/
namespace Go.Proofs.Ytejecpmfhgplmaa
set_option linter.unusedSimpArgs false
set_option linter.unusedVariables false
open Go.RowKit Mix _root_.Go.Proofs.Ytejecpmfhgplmaa.Own Dp Ol
attribute [local go_sem] Own.max_int Own.min_int

set_option maxRecDepth 100000 in
set_option maxHeartbeats 2000000 in
theorem mlen_bad (A0 : Option Addr) (n0 c0 : Nat) (l0 : List Int) (a1 : Int) (w : World) (hR : Rd w (.slice A0 n0 n0) (ints .i64 l0)) (hn : n0 < 200000000000000) (hb : ¬ fqB l0 a1 = true) :
    Calls Try.prog 11 #[.slice A0 n0 c0, .int .i64 a1] w fun e w' => e = .returned (.tuple #[.slice none 0 0, .int .i64 1]) ∧ Below w.heap.size w w' := by
  have hbw : Below w.heap.size w (w.alloc (.cells #[.slice A0 n0 c0] 22)) := (Below.refl _ _).alloc (Nat.le_refl _) _
  have hmay := mmay_calls A0 n0 c0 l0 a1 _ (hR.later hbw) hn
  rw [Bool.not_eq_true] at hb
  rw [hb] at hmay
  have HM := kept hmay
  have HB := kept hbw
  clear hmay hR hb hbw
  go_enter Try.func11, Try.ntmps11
  go_wp2_with (first | (go_at_call 19; refine HM.out.mono ?_; rintro e w1 ⟨rfl, rfl⟩))
  go_ret2
  exact ⟨rfl, HB.out⟩

set_option maxRecDepth 100000 in
set_option maxHeartbeats 4000000 in
theorem mlen_small (A0 : Option Addr) (c0 : Nat) (l0 : List Int) (m : Nat) (w : World) (hR : Rd w (.slice A0 65 65) (ints .i64 l0)) (hf : Fq l0 m) (hs : (ordL l0).length < 2) :
    Calls Try.prog 11 #[.slice A0 65 c0, .int .i64 (m : Int)] w fun e w' => ∃ v, e = .returned (.tuple #[v, .int .i64 0]) ∧ Owns w' 3 v (ints .i64 (lenL l0 m)) ∧ (∀ g, v.ownBlock = some g → w.heap.size ≤ g) ∧ Below w.heap.size w w' := by
  obtain ⟨i0, hi, hz0, hz1, hz2⟩ := info_partsI infoI64
  have h65 := hf.len
  obtain ⟨B, hB⟩ : ∃ B, B = w.heap.size := ⟨_, rfl⟩
  have hbw : Below w.heap.size w (w.alloc (.cells #[.slice A0 65 c0] 22)) := (Below.refl _ _).alloc (Nat.le_refl _) _
  have hmay := mmay_calls A0 65 c0 l0 m _ (hR.later hbw) (by decide)
  rw [(fqB_iff l0 m).2 ⟨m, rfl, hf⟩] at hmay
  have hro := fun w1 (h : Below w.heap.size w w1) => HistH.horder_calls A0 65 c0 l0 w1 (hR.later h) (by decide)
  rw [← hB]
  have HM := kept hmay
  have HBW := kept hbw
  have HB := kept hB
  have HF := kept hf
  have HL := kept h65
  have HRo := kept hro
  have HSm := kept hs
  clear hB hf hR h65 hro hmay hbw hs
  go_enter Try.func11, Try.ntmps11
  go_upto_region 3 with (first | (go_at_call 19; refine HM.out.mono ?_; rintro e w1 ⟨rfl, rfl⟩))
  rw [show w.heap.size = B from HB.out.symm]
  generalize hw1 : World.alloc w _ = w1
  have HS1 : Kept (Blk w1 B #[.slice A0 65 c0] 22 ∧ Below B w w1) := kept (by rw [← hw1, HB.out]; exact ⟨Blk.fresh _ _ _, (Below.refl _ _).alloc (Nat.le_refl _) _⟩)
  clear hw1
  go_wp2_with (first | (refine wpList_mk1 rfl _ _ 22 rfl 3 i0 (.int .i64 0) 8 Try.underlying22 hi hz0 hz1 hz2 rfl .i64 .i64 _ _ 65 rfl rfl rfl rfl (by decide) (by decide) ?_))
  intro w2 hO hb hlt2
  obtain ⟨g, hg⟩ : ∃ g, g = w1.heap.size := ⟨_, rfl⟩
  have hM2 : Many B w2 3 [(.slice (some ⟨g, 0, none⟩) 65 65, ints .i64 (List.replicate 65 0))] := by
    have := (Many.nil B w1 3).add (v := .slice (some ⟨w1.heap.size, 0, none⟩) 65 65) hb hO (fun b hb => by simp [Value.ownBlock] at hb; omega) (Nat.le_of_lt HS1.out.1.lt)
    rw [hg]; simpa [ints] using this
  have HS2 : Kept (Blk w2 B #[.slice A0 65 c0] 22 ∧ Below B w w2) := kept ⟨(hb.block B HS1.out.1.lt).trans HS1.out.1, HS1.out.2.trans (hb.mono (Nat.le_of_lt HS1.out.1.lt))⟩
  have HM2 := kept hM2
  rw [← hg]
  have HC := kept (HRo.out w2 (by rw [← HB.out]; exact HS2.out.2))
  have hb0 := HS2.out.1.cell (i := 0) rfl
  clear hO hb hlt2 hg hM2 HS1
  go_wp2_with (first | (go_at_call 20; refine HC.out.mono ?_))
  rintro e w3 ⟨v7, rfl, ho⟩
  have hM3 := HM2.out.add ho.low ho.own ho.new (Nat.le_of_lt HS2.out.1.lt)
  have HS3 : Kept (Blk w3 B #[.slice A0 65 c0] 22 ∧ Below B w w3) := kept ⟨(ho.low.block B HS2.out.1.lt).trans HS2.out.1, HS2.out.2.trans (ho.low.mono (Nat.le_of_lt HS2.out.1.lt))⟩
  obtain ⟨a7, c7, rfl, ha7⟩ := sliceX ho.own
  have HM3 := kept hM3
  obtain ⟨n, hn⟩ : ∃ n, n = (ordL l0).length := ⟨_, rfl⟩
  rw [← hn] at HM3 HSm ⊢
  have HN := kept hn
  have HA7 := kept ha7
  clear ho hM3 hn ha7 HC HM2 HS2 hb0
  by_cases hn1 : n = 1
  · subst hn1
    have hlen1 : (ordL l0).length = 1 := HN.out.symm
    obtain ⟨k, hk⟩ : ∃ k, ordL l0 = [k] := List.length_eq_one_iff.1 hlen1
    obtain ⟨g7, rfl⟩ := HA7.out (by rw [hk]; simp)
    have hk65 : k < 65 := by have h := (mem_ordL (f := l0) (i := k)).1 (by rw [hk]; simp); rw [← HL.out]; exact h.1
    have hcell7 : w3.cell? ⟨g7, 0, none⟩ = some (.int .i64 (k : Int)) := by
      have := (HM3.out.own 1 _ _ rfl).cell (j := 0) (idx_at _ 0 (by rw [hlen1]; decide))
      rw [hk] at this; exact this
    have co := (HM3.out.own 0 _ _ rfl).cell (j := k) (Own.ints_at .i64 (List.replicate 65 0) k (by simpa using hk65))
    have fo := (HM3.out.own 0 _ _ rfl).free k
    have HLen : Kept (lenL l0 m = (List.replicate 65 0).set k 1) := kept (by
      have e : lensOf l0 m = [1] := by unfold lensOf; rw [if_pos hlen1]
      unfold lenL; rw [e, hk]; rfl)
    have hM4 := (HM3.out.store 0 rfl k (.int .i64 1) (Nat.le_of_lt HS3.out.1.lt)).rest
    rw [← ints_set] at hM4
    have HM4 : Kept (Many B (w3.setCell ⟨g, k, none⟩ (.int .i64 1)) 3 [(.slice (some ⟨g, 0, none⟩) 65 65, ints .i64 (lenL l0 m))]) := kept (by rw [HLen.out]; exact hM4)
    have hc4 : Chg (fun b => some b = (Value.slice (some ⟨g, 0, none⟩) 65 65).ownBlock) w3 (w3.setCell ⟨g, k, none⟩ (.int .i64 1)) := (Chg.setCell w3 ⟨g, k, none⟩ (.int .i64 1)).mono fun b _ hb => by rw [hb]; rfl
    have HS4 : Kept (Below B w (w3.setCell ⟨g, k, none⟩ (.int .i64 1))) := kept (HS3.out.2.trans (HM3.out.below 0 rfl hc4 (Nat.le_of_lt HS3.out.1.lt)))
    clear hk hlen1 hM4 hc4
    go_wp2_with fail
    go_ret2
    exact ⟨_, rfl, HM4.out.own 0 _ _ rfl, HM4.out.new 0 _ _ rfl, HS4.out⟩
  · have hn0 : n = 0 := by have := HSm.out; omega
    subst hn0
    have HLen : Kept (lenL l0 m = List.replicate 65 0) := kept (by
      have e : ordL l0 = [] := List.length_eq_zero_iff.1 HN.out.symm
      unfold lenL; rw [e, scat_nil])
    clear hn1
    go_wp2_with fail
    go_ret2
    exact ⟨_, rfl, by rw [HLen.out]; exact HM3.out.own 0 _ _ rfl, HM3.out.new 0 _ _ rfl, HS3.out.2⟩
end Go.Proofs.Ytejecpmfhgplmaa

-- ---- In
/- A region that draws its order within a round of a range over a function. No program in sight. -/
namespace Go.Proofs.Ytejecpmfhgplmaa.Mix
set_option linter.unusedSimpArgs false
set_option linter.unusedVariables false
set_option linter.unusedSectionVars false
open Go Go.RowKit

section
variable {P : Program} {md : Region.Mode} {ops : Array Oper} {Q : Exit → Act → World → Prop} {n l : Nat}
def noDefer (o : Oper) : Bool := match o.op with
  | .defer _ => false
  | _ => true
theorem noDefer_ne {o : Oper} (h : noDefer o = true) (c : Call) : o.op ≠ .defer c := by
  intro e; unfold noDefer at h; rw [e] at h; cases h
theorem wpIn_of_wp {o : Oper} (hd : noDefer o = true) {a : Act} {w : World} {K A : Act → World → Prop} (h : o.wp P a w K (Only A)) : o.wpIn (Fence.wide.inRound l) n P a w K Q := by
  refine ⟨fun _ _ => trivial, ?_⟩
  rw [Oper.semAt_eq _ _ _ (noDefer_ne hd)]
  unfold Oper.wp at h
  generalize (execOp a.eval o).run P w = r at h ⊢
  cases r with
  | ok x w' =>
    cases x with
    | enter f args =>
      simp only [Oper.upon, Oper.uponIn] at h ⊢
      refine ⟨fun h0 => by simp [Fence.wide, Fence.inRound] at h0, CallsIn.inRound l ((callsIn_wide (n := n - 1)).2 (Calls.mono h (fun e w'' he => ?_)))⟩
      cases e with
      | returned v => exact he
      | panicked c => exact he.elim
      | outgrown => obtain ⟨a1, w1, h1⟩ := he; exact h1.elim
    | row r args =>
      simp only [Oper.upon, Oper.uponIn] at h ⊢
      exact ⟨fun h0 => by simp [Fence.wide, Fence.inRound] at h0, fun c cs _ => let ⟨v, w2, r, s⟩ := h c cs; ⟨v, w2, r, stepsIn_wide.2 s⟩⟩
    | _ => simp only [Oper.upon, Oper.uponIn] at h ⊢ <;> exact h
  | halt x w' => cases x <;> simp only [Oper.upon, Oper.uponIn] at h ⊢ <;> exact h.elim
theorem wpOpIn_of {i : Nat} (hd : ∀ o, ops[i]? = some o → noDefer o = true) {a : Act} {w : World} {K K' A : Act → World → Prop} (hk : ∀ a w, K a w → K' a w) (h : wpOp P ops (Only A) i K a w) : wpOpIn (Fence.wide.inRound l) n P ops Q i K' a w := by
  unfold wpOp at h
  unfold wpOpIn
  cases ho : ops[i]? with
  | none => simp only [ho] at h ⊢; exact hk _ _ h
  | some o =>
    simp only [ho] at h ⊢
    split
    · rename_i hw
      simp only [hw, if_true] at h
      rcases h with h | ⟨_, a1, w1, h1⟩
      · exact Oper.wpIn_mono hk (wpIn_of_wp (hd o ho) h)
      · exact h1.elim
    · rename_i hw
      simp only [hw] at h
      exact ⟨fun _ _ => trivial, hk _ _ h⟩
theorem wpAnyIn_of (hd : ∀ (i : Nat) o, ops[i]? = some o → noDefer o = true) {A : Act → World → Prop} (hq : ∀ a w, A a w → Q .normal a w) : ∀ (fuel : Nat) (listed : Array Bool) (a : Act) (w : World), wpAny P md ops (Only A) fuel listed a w → wpAnyIn (Fence.wide.inRound l) n P md ops Q fuel listed a w := by
  intro fuel
  induction fuel with
  | zero => intro listed a w h; exact ⟨h.1, hq _ _ h.2⟩
  | succ fuel ih =>
    intro listed a w h
    exact ⟨fun h0 => hq _ _ (h.1 h0), fun i hi => wpOpIn_of (hd i) (fun a w h => ih _ a w h) (h.2 i hi)⟩
theorem noDefer_all {l : List Oper} (h : l.all noDefer = true) : ∀ (i : Nat) o, l.toArray[i]? = some o → noDefer o = true := fun i o ho =>
  List.all_eq_true.1 h o (List.mem_of_getElem? (by simpa using ho))

/-- As wp_region_mixL, within a round. -/
theorem wpIn_region_mixL {id : Nat} {a : Act} {w : World} {ll : List Oper} (h1 h2 ts : List Nat) (hm : P.follows .mixedOrders = true) (hd : ll.all noDefer = true) (hB : mixB .any ll.toArray h1 h2 ts = true)
    (h : ∀ K : Act → World → Prop, (∀ a w, Q .normal a w → K a w) → wpQuiet P ll.toArray (fun _ => True) (fun a1 => wpQuiet P ll.toArray (fun w' => ∃ n : Lat w, w' = n.w) (fun a2 => wpList P ll.toArray (Only K) (pick ll ts) a2 w.drew) (pick ll h2) a1) (pick ll h1) a) :
    (Code.region id ll.toArray true).wpIn (Fence.wide.inRound l) n P Q a w :=
  wpIn_region_any hm (wpAnyIn_of (noDefer_all hd) (A := fun a w => Q .normal a w) (fun _ _ h => h) _ _ _ _
    (any_mix h1 h2 ts (fun w' => ∃ n : Lat w, w' = n.w) hB (fun _ w2 ⟨n, e⟩ hb => by subst e; exact ⟨⟨w2, n.below.trans (hb.mono n.below.size)⟩, rfl⟩) ⟨Lat.drew w, rfl⟩ h))
end
end Go.Proofs.Ytejecpmfhgplmaa.Mix

-- ---- Bk
/- slices.Backward over a list of whole numbers: its iterator, for every loop body that keeps the list. Conditions: those that each theorem names. -/
namespace Go.Proofs.Ytejecpmfhgplmaa
set_option linter.unusedSimpArgs false
set_option linter.unusedVariables false
open Go.RowKit Go.Shelf Mix

attribute [local go_sem] Oper.semAt_some

/-- The places from the last one down. -/
def dnl (n k : Nat) : List Nat := (List.range k).map fun i => n - 1 - i
theorem dnl_succ (n k : Nat) : dnl n (k + 1) = dnl n k ++ [n - 1 - k] := by simp [dnl, List.range_succ]
theorem length_dnl (n k : Nat) : (dnl n k).length = k := by simp [dnl]
abbrev Pl (n : Nat) : Type := { i : Nat // i < n }
/-- The list's two blocks are kept. -/
def KpB (Bs g : Nat) (W W' : World) : Prop := W'.heap[Bs]? = W.heap[Bs]? ∧ W'.heap[g]? = W.heap[g]?
theorem KpB.refl (Bs g : Nat) (W : World) : KpB Bs g W W := ⟨rfl, rfl⟩
theorem KpB.trans {Bs g : Nat} {A B C : World} (h : KpB Bs g A B) (k : KpB Bs g B C) : KpB Bs g A C := ⟨k.1.trans h.1, k.2.trans h.2⟩
theorem cell_of_block {W W' : World} {g : Nat} (h : W'.heap[g]? = W.heap[g]?) (i : Nat) : W'.cell? ⟨g, i, none⟩ = W.cell? ⟨g, i, none⟩ := by
  simp [World.cell?, h]
theorem KpB.put {Bs g : Nat} {w : World} (h1 : Bs < w.heap.size) (h2 : g < w.heap.size) (W : World) (l : Nat) (o o' : Obj) (hl : w.heap.size ≤ l) (_ : W.heap[l]? = some o) (_ : o.isCells = false) (_ : o.isWalk = false) : KpB Bs g W (W.putObj l o') :=
  ⟨World.putObj_heap_other (by omega), World.putObj_heap_other (by omega)⟩

set_option maxRecDepth 100000 in
set_option maxHeartbeats 4000000 in
theorem back1_in (nn l Bs g n cap : Nat) (hnn : 1 ≤ nn) (f : Nat → Int) (hn : n ≤ 100000) (J Jx : List (Pl n) → World → Prop) (W0 : World)
    (hY : ∀ pre (x : Pl n) W1, J pre W1 → pre.length < n → YieldAt Fence.wide (nn - 1) Try.prog l #[.int .i64 (x.1 : Int), .int .i64 (f x.1)] W1 fun e W' =>
      (e = .returned (.bool true) ∧ J (pre ++ [x]) W' ∧ KpB Bs g W1 W') ∨ (e = .returned (.bool false) ∧ Jx (pre ++ [x]) W'))
    (W : World) (hBs : W0.cell? ⟨Bs, 0, none⟩ = some (.slice (some ⟨g, 0, none⟩) n cap)) (hc : ∀ i, i < n → W0.cell? ⟨g, i, none⟩ = some (.int .i64 (f i))) (hW : KpB Bs g W0 W) (h0 : J [] W) :
    CallsIn Fence.wide nn Try.prog 30 #[.func (.yield l) #[] #[], .pointer (some ⟨Bs, 0, none⟩)] W fun e W' => (∃ v, e = .returned v) ∧
      ((∃ ys : List (Pl n), ys.map Subtype.val = dnl n n ∧ J ys W') ∨ (∃ pre, True ∧ Jx pre W')) := by
  refine callsIn_of_wp Try.func30 rfl trivial ?_ rfl
  simp only [Try.ntmps30, List.size_toArray, List.length_cons, List.length_nil, Nat.reduceAdd, Nat.reduceSub, Array.replicate_succ, Array.replicate_zero, List.push_toArray, List.append_toArray, List.nil_append, List.cons_append]
  have hbw := (cell_of_block hW.1 0).trans hBs
  gi_wp2
  gi_loopw [3] (fun s3 wr => ∃ (t : Nat) (pre : List (Pl n)), t ≤ n ∧ s3 = .int .i64 ((t : Int) - 1) ∧ pre.map Subtype.val = dnl n (n - t) ∧ J pre wr ∧ KpB Bs g W0 wr) (fun s3 _ => (intOf s3 + 1).toNat)
  case atStart => exact ⟨n, [], Nat.le_refl _, rfl, by rw [Nat.sub_self]; rfl, h0, hW⟩
  case round =>
    obtain ⟨t, pre, ht, rfl, hpre, hJ, hK⟩ := hrel
    by_cases ht0 : 0 < t
    · obtain ⟨j, rfl⟩ : ∃ j, t = j + 1 := ⟨t - 1, by omega⟩
      have hj : j < n := by omega
      rw [show (((j + 1 : Nat) : Int) - 1) = (j : Int) by omega]
      have hpl : pre.length < n := by
        have := congrArg List.length hpre
        rw [List.length_map, length_dnl] at this; omega
      have hcb := (cell_of_block hK.1 0).trans hBs
      have hcx := (cell_of_block hK.2 j).trans (hc j hj)
      obtain ⟨fn, tmps, assign, body, hy, hR⟩ := hY pre ⟨j, hj⟩ wr hJ hpl
      dsimp only at hy
      have hpre2 : (pre ++ [(⟨j, hj⟩ : Pl n)]).map Subtype.val = dnl n (n - j) := by
        rw [List.map_append, hpre, show n - j = (n - (j + 1)) + 1 by omega, dnl_succ]
        simp; omega
      have HP := Go.Proofs.Ytejecpmfhgplmaa.Own.kept hpre2
      have HKK := Go.Proofs.Ytejecpmfhgplmaa.Own.kept hK
      clear hpre hpre2 hpl ht0 hK
      gi_wp2
      refine hR.mono ?_
      rintro e W3 (⟨rfl, hJ3, hk3⟩ | ⟨rfl, hJx3⟩)
      · gi_wp2
        go_roundw
        case rel => exact ⟨j, _, by omega, by first | rfl | go_num, HP.out, hJ3, HKK.out.trans hk3⟩
        case measure => simp [intOf]
      · gi_wp2
        refine bodyPost_ret (results_none rfl _ _ _) rfl ?_
        exact ⟨⟨_, rfl⟩, .inr ⟨_, trivial, hJx3⟩⟩
    · have ht2 : t = 0 := by omega
      subst ht2
      rw [show (((0 : Nat) : Int) - 1) = -1 from rfl]
      gi_wp2
      go_end0
      exact ⟨⟨_, rfl⟩, .inl ⟨pre, by rw [hpre]; rfl, hJ⟩⟩

/-- slices.Backward lays the list into a box. -/
theorem back_calls (v : Value) (a : Option Addr) (n c : Nat) (hv : v = .slice a n c) (w : World) :
    Calls Try.prog 21 #[v] w fun e w' => e = .returned (.func (.func 30) #[] #[.pointer (some ⟨w.heap.size, 0, none⟩)]) ∧ w' = w.alloc (.cells #[v] 22) := by
  subst hv
  go_enter Try.func21, Try.ntmps21
  go_wp2_with fail
  go_ret
  exact ⟨rfl, rfl⟩
/-- The iterator's word. -/
theorem back_stops (nn Bs g n cap : Nat) (hnn : 1 ≤ nn) (f : Nat → Int) (hn : n ≤ 100000) (w : World) (h1 : Bs < w.heap.size) (h2 : g < w.heap.size) (hBs : w.cell? ⟨Bs, 0, none⟩ = some (.slice (some ⟨g, 0, none⟩) n cap)) (hc : ∀ i, i < n → w.cell? ⟨g, i, none⟩ = some (.int .i64 (f i))) :
    SeqStopsK Fence.wide nn Try.prog 30 #[.pointer (some ⟨Bs, 0, none⟩)] (fun x : Pl n => #[.int .i64 (x.1 : Int), .int .i64 (f x.1)]) (KpB Bs g) (fun ys => ys.map Subtype.val = dnl n n) (fun _ => True) n w :=
  fun l J Jx W hW _ _ hY h0 => back1_in nn l Bs g n cap hnn f hn J Jx w hY W hBs hc ⟨hW.block Bs h1, hW.block g h2⟩ h0
end Go.Proofs.Ytejecpmfhgplmaa

-- ---- Ml
/- merge.Lengths: the memory on the way. Conditions: those that each theorem names. -/
namespace Go.Proofs.Ytejecpmfhgplmaa
set_option linter.unusedSimpArgs false
set_option linter.unusedVariables false
open Go.RowKit Mix _root_.Go.Proofs.Ytejecpmfhgplmaa.Own Dp Ol

theorem infoB : (Try.prog.info? 57).map (fun i => (i.zero, i.size, i.bytes)) = some (some (.agg #[.int .i64 0, .int .i64 0, .bool false, .bool false]), 4, 24) := by kernel_rfl
theorem madeB (N : Nat) : (madeCells #[Value.int .i64 0, .int .i64 0, .bool false, .bool false] (N * 4)).toList = flB (List.replicate N (0, 0, false, false)) := by
  unfold madeCells
  rw [Array.toList_map, Array.toList_range]
  induction N with
  | zero => rfl
  | succ N ih =>
    have e : flB (List.replicate (N + 1) (0, 0, false, false)) = flB (List.replicate N (0, 0, false, false)) ++ bstV (0, 0, false, false) := by
      unfold flB; rw [List.replicate_succ', List.flatMap_append]; simp
    rw [e, ← ih, show (N + 1) * 4 = N * 4 + 1 + 1 + 1 + 1 by omega]
    simp only [List.range_succ, List.map_append, List.map_cons, List.map_nil, List.append_assoc, List.cons_append, List.nil_append]
    rw [show N * 4 % (#[Value.int .i64 0, Value.int .i64 0, Value.bool false, Value.bool false] : Array Value).size = 0 by simp, show (N * 4 + 1) % (#[Value.int .i64 0, Value.int .i64 0, Value.bool false, Value.bool false] : Array Value).size = 1 by simp <;> omega,
      show (N * 4 + 1 + 1) % (#[Value.int .i64 0, Value.int .i64 0, Value.bool false, Value.bool false] : Array Value).size = 2 by simp <;> omega, show (N * 4 + 1 + 1 + 1) % (#[Value.int .i64 0, Value.int .i64 0, Value.bool false, Value.bool false] : Array Value).size = 3 by simp <;> omega]
    rfl

/-- Before the maker: the box of the frequencies, the lengths, the order; what has been made so far. -/
structure C10 (B : Nat) (w x : World) (fq : Value) (R : List (Value × List Value)) (hv : Option Value) (N : Nat) (qv : Option Nat) (pv : Option (Nat × Value × Int × Value)) : Prop where
  box : Blk x B #[fq] 22
  low : Below B w x
  many : Many B x 3 R
  had : ∀ v, hv = some v → OwnK x 57 4 v N (flB (List.replicate N (0, 0, false, false))) ∧ ∀ b, v.ownBlock = some b → B ≤ b
  ptr : ∀ q, qv = some q → Blk x q #[.pointer none] 47 ∧ B ≤ q
  mkr : ∀ t, pv = some t → Blk x t.1 #[t.2.1, .int .i64 t.2.2.1, t.2.2.2] 50 ∧ B ≤ t.1
section
variable {B : Nat} {w x y : World} {fq : Value} {R : List (Value × List Value)} {hv : Option Value} {N : Nat} {qv : Option Nat} {pv : Option (Nat × Value × Int × Value)}
theorem C10.sz (h : C10 B w x fq R hv N qv pv) : B ≤ x.heap.size := Nat.le_of_lt h.box.lt
theorem C10.later (h : C10 B w x fq R hv N qv pv) (hb : Below x.heap.size x y) : C10 B w y fq R hv N qv pv :=
  ⟨(hb.block B h.box.lt).trans h.box, h.low.trans (hb.mono h.sz), h.many.later hb, fun v hv => ⟨(h.had v hv).1.later hb, (h.had v hv).2⟩,
    fun q hq => ⟨(hb.block q (h.ptr q hq).1.lt).trans (h.ptr q hq).1, (h.ptr q hq).2⟩, fun t ht => ⟨(hb.block t.1 (h.mkr t ht).1.lt).trans (h.mkr t ht).1, (h.mkr t ht).2⟩⟩
theorem C10.mkInts (h : C10 B w x fq R hv N qv pv) {k : Nat} (hO : Owns y 3 (.slice (some ⟨x.heap.size, 0, none⟩) k k) (List.replicate k (.int .i64 0))) (hb : Below x.heap.size x y) (g : Nat) (hg : g = x.heap.size) :
    C10 B w y fq (R ++ [(.slice (some ⟨g, 0, none⟩) k k, ints .i64 (List.replicate k 0))]) hv N qv pv := by
  subst hg
  have h2 := h.later hb
  have e : List.replicate k (Value.int .i64 0) = ints .i64 (List.replicate k 0) := by unfold ints; rw [List.map_replicate]
  rw [e] at hO
  exact ⟨h2.box, h2.low, h.many.add hb hO (fun b hb => by simp [Value.ownBlock] at hb; omega) h.sz, h2.had, h2.ptr, h2.mkr⟩
theorem C10.mkBest (h : C10 B w x fq R hv N qv pv) {n : Nat} (hn : n = N) (hO : y.ownsRow 0 57 4 (.slice (some ⟨x.heap.size, 0, none⟩) n n) n (madeCells (Value.agg #[.int .i64 0, .int .i64 0, .bool false, .bool false]).cells (n * 4)).toList) (hg : x.grownBy y none) (g : Nat) (hgx : g = x.heap.size) :
    C10 B w y fq R (some (.slice (some ⟨g, 0, none⟩) N N)) N qv pv := by
  subst hgx hn
  have hb : Below x.heap.size x y := ⟨hg.os, hg.tape, hg.output, hg.size, fun k hk => hg.block k hk (by simp)⟩
  have h2 := h.later hb
  have e : (Value.agg #[.int .i64 0, .int .i64 0, .bool false, .bool false]).cells = #[Value.int .i64 0, .int .i64 0, .bool false, .bool false] := rfl
  rw [e, madeB] at hO
  refine ⟨h2.box, h2.low, h2.many, fun v hv => ?_, h2.ptr, h2.mkr⟩
  cases hv
  exact ⟨hO, fun b hb => by simp [Value.ownBlock] at hb; have := h.sz; omega⟩
theorem C10.alloc (h : C10 B w x fq R hv N qv pv) (q : Nat) (hq : q = x.heap.size) : C10 B w (x.alloc (.cells #[.pointer none] 47)) fq R hv N (some q) pv := by
  subst hq
  have hb : Below x.heap.size x (x.alloc (.cells #[.pointer none] 47)) := (Below.refl _ _).alloc (Nat.le_refl _) _
  have h2 := h.later hb
  exact ⟨h2.box, h2.low, h2.many, h2.had, fun q hq => by cases hq; exact ⟨Blk.fresh _ _ _, h.sz⟩, h2.mkr⟩
theorem C10.boxed (h : C10 B w x fq R hv N qv pv) (vs : Value) (lim : Int) (vh : Value) (p : Nat) (hp : p = x.heap.size) : C10 B w (x.alloc (.cells #[vs, .int .i64 lim, vh] 50)) fq R hv N qv (some (p, vs, lim, vh)) := by
  subst hp
  have hb : Below x.heap.size x (x.alloc (.cells #[vs, .int .i64 lim, vh] 50)) := (Below.refl _ _).alloc (Nat.le_refl _) _
  have h2 := h.later hb
  exact ⟨h2.box, h2.low, h2.many, h2.had, h2.ptr, fun t ht => by cases ht; exact ⟨Blk.fresh _ _ _, h.sz⟩⟩
end

/-- With the maker. -/
structure StM (B : Nat) (w W : World) (fq : Value) (g g7 c7 : Nat) (l : List Int) (m q9 p : Nat) (vs vh : Value) (xs S : List Int) (H : List Bst) : Prop where
  box : Blk W B #[fq] 22
  low : Below B w W
  ptr : Blk W q9 #[.pointer (some ⟨p, 0, none⟩)] 47
  blk : Blk W p #[vs, .int .i64 (m : Int), vh] 50
  many : Many B W 3 [(.slice (some ⟨g, 0, none⟩) 65 65, ints .i64 xs), (.slice (some ⟨g7, 0, none⟩) (ordL l).length c7, idx (ordL l)), (vs, ints .i64 S)]
  had : OwnK W 57 4 vh H.length (flB H)
  hnew : ∀ b, vh.ownBlock = some b → B ≤ b
  qB : B ≤ q9
  pB : B ≤ p
section
variable {B : Nat} {w W W' : World} {fq : Value} {g g7 c7 : Nat} {l : List Int} {m q9 p : Nat} {vs vh : Value} {xs S : List Int} {H : List Bst}
theorem C10.done {x : World} {N : Nat} (h : C10 B w x fq [(.slice (some ⟨g, 0, none⟩) 65 65, ints .i64 xs), (.slice (some ⟨g7, 0, none⟩) (ordL l).length c7, idx (ordL l)), (vs, ints .i64 S)] (some vh) N (some q9) (some (p, vs, (m : Int), vh))) :
    StM B w (x.setCell ⟨q9, 0, none⟩ (.pointer (some ⟨p, 0, none⟩))) fq g g7 c7 l m q9 p vs vh xs S (List.replicate N (0, 0, false, false)) ∧ x.cell? ⟨q9, 0, none⟩ = some (.pointer none) ∧ x.frozen? ⟨q9, 0, none⟩ = false := by
  obtain ⟨h1, h2⟩ := h.had vh rfl
  obtain ⟨h3, h4⟩ := h.ptr q9 rfl
  obtain ⟨h5, h6⟩ := h.mkr _ rfl
  refine ⟨⟨h.box.setOther (h.box.ne h3 (by decide)) _, h.low.setCell h4 _, h3.set 0 _, h5.setOther (h5.ne h3 (by decide)) _, h.many.setBlk h3 (by decide) 0 _, ?_, h2, h4, h6⟩, h3.cell rfl, h3.free 0⟩
  rw [List.length_replicate]
  exact h1.setOther (h1.ne h3 (by decide)) _
theorem C10.done2 {x : World} {N : Nat} (h : C10 B w x fq [(.slice (some ⟨g, 0, none⟩) 65 65, ints .i64 xs), (.slice (some ⟨g7, 0, none⟩) (ordL l).length c7, idx (ordL l)), (vs, ints .i64 S)] (some vh) N none (some (p, vs, (m : Int), vh))) (q9 : Nat) (hq : q9 = x.heap.size) :
    StM B w (x.alloc (.cells #[.pointer (some ⟨p, 0, none⟩)] 47)) fq g g7 c7 l m q9 p vs vh xs S (List.replicate N (0, 0, false, false)) := by
  subst hq
  have hb : Below x.heap.size x (x.alloc (.cells #[.pointer (some ⟨p, 0, none⟩)] 47)) := (Below.refl _ _).alloc (Nat.le_refl _) _
  have h' := h.later hb
  obtain ⟨h1, h2⟩ := h'.had vh rfl
  obtain ⟨h5, h6⟩ := h'.mkr _ rfl
  refine ⟨h'.box, h'.low, Blk.fresh _ _ _, h5, h'.many, ?_, h2, h.sz, h6⟩
  rw [List.length_replicate]
  exact h1
theorem StM.sz (h : StM B w W fq g g7 c7 l m q9 p vs vh xs S H) : B ≤ W.heap.size := Nat.le_of_lt h.box.lt
theorem StM.later (h : StM B w W fq g g7 c7 l m q9 p vs vh xs S H) (hb : Below W.heap.size W W') : StM B w W' fq g g7 c7 l m q9 p vs vh xs S H :=
  ⟨(hb.block B h.box.lt).trans h.box, h.low.trans (hb.mono h.sz), (hb.block q9 h.ptr.lt).trans h.ptr, (hb.block p h.blk.lt).trans h.blk, h.many.later hb, h.had.later hb, h.hnew, h.qB, h.pB⟩
theorem StM.out (h : StM B w W fq g g7 c7 l m q9 p vs vh xs S H) : Owns W 3 (.slice (some ⟨g, 0, none⟩) 65 65) (ints .i64 xs) := h.many.own 0 _ _ rfl
theorem StM.ordAt (h : StM B w W fq g g7 c7 l m q9 p vs vh xs S H) (i : Nat) (hi : i < (ordL l).length) : W.cell? ⟨g7, i, none⟩ = some (.int .i64 (((ordL l).getD i 0 : Nat) : Int)) := (h.many.own 1 _ _ rfl).cell (idx_at _ i hi)
/-- One number of the lengths is laid. -/
theorem StM.storeOut (h : StM B w W fq g g7 c7 l m q9 p vs vh xs S H) (j : Nat) (v : Int) : StM B w (W.setCell ⟨g, j, none⟩ (.int .i64 v)) fq g g7 c7 l m q9 p vs vh (xs.set j v) S H := by
  have hc : Chg (fun k => some k = (Value.slice (some ⟨g, 0, none⟩) 65 65).ownBlock) W (W.setCell ⟨g, j, none⟩ (.int .i64 v)) := (Chg.setCell W ⟨g, j, none⟩ (.int .i64 v)).mono fun k _ hk => by rw [hk]; rfl
  refine ⟨h.many.other 0 rfl hc h.box (by decide), h.low.trans (h.many.below 0 rfl hc h.sz), h.many.other 0 rfl hc h.ptr (by decide), h.many.other 0 rfl hc h.blk (by decide), ?_, h.had.setOther (h.had.neO h.out (by decide) (g := g) rfl) _, h.hnew, h.qB, h.pB⟩
  have := h.many.store 0 rfl j (.int .i64 v) h.sz
  rw [← ints_set] at this; exact this
/-- One sum is laid. -/
theorem StM.storeSum {gs cs n : Nat} (h : StM B w W fq g g7 c7 l m q9 p (.slice (some ⟨gs, 0, none⟩) n cs) vh xs S H) (j : Nat) (v : Int) : StM B w (W.setCell ⟨gs, j, none⟩ (.int .i64 v)) fq g g7 c7 l m q9 p (.slice (some ⟨gs, 0, none⟩) n cs) vh xs (S.set j v) H := by
  have hc : Chg (fun k => some k = (Value.slice (some ⟨gs, 0, none⟩) n cs).ownBlock) W (W.setCell ⟨gs, j, none⟩ (.int .i64 v)) := (Chg.setCell W ⟨gs, j, none⟩ (.int .i64 v)).mono fun k _ hk => by rw [hk]; rfl
  refine ⟨h.many.other 2 rfl hc h.box (by decide), h.low.trans (h.many.below 2 rfl hc h.sz), h.many.other 2 rfl hc h.ptr (by decide), h.many.other 2 rfl hc h.blk (by decide), ?_, h.had.setOther (h.had.neO (h.many.own 2 _ _ rfl) (by decide) (g := gs) rfl) _, h.hnew, h.qB, h.pB⟩
  have := h.many.store 2 rfl j (.int .i64 v) h.sz
  rw [← ints_set] at this; exact this
theorem StM.tab {G : List Int} (h : StM B w W fq g g7 c7 l m q9 p vs vh xs (sums G) H) : TabM W p vs vh m G H := ⟨h.blk, h.many.own 2 _ _ rfl, h.had⟩
/-- A node has been told. -/
theorem StM.told {G : List Int} {H' : List Bst} (h : StM B w W fq g g7 c7 l m q9 p vs vh xs S H) (hT : TabM W' p vs vh m G H') (hc : Chg (fun b => some b = vh.ownBlock) W W') : StM B w W' fq g g7 c7 l m q9 p vs vh xs S H' := by
  have hk : ∀ {q : Nat} {cs : Array Value} {t : TypeId}, Blk W q cs t → 57 ≠ t → Blk W' q cs t := fun hb hn => hc.keep hb fun e => h.had.ne hb hn e.symm
  refine ⟨hk h.box (by decide), h.low.trans (hc.below h.sz fun k hk e => by have := h.hnew k e.symm; omega), hk h.ptr (by decide), hT.blk, ?_, hT.rh, h.hnew, h.qB, h.pB⟩
  exact h.many.chg hc fun i v xs hi b hb e => h.had.neO (h.many.own i v xs hi) (by decide) hb e.symm
/-- What is no cells has turned. -/
theorem StM.turn {row : Option Nat} {B' : Nat} (h : StM B w W fq g g7 c7 l m q9 p vs vh xs S H) (hg : W.grownBy W' row) (hr : ∀ r, row = some r → B' ≤ r ∧ ∃ o : Obj, W.heap[r]? = some o ∧ o.isCells = false) (hB : B ≤ B') : StM B w W' fq g g7 c7 l m q9 p vs vh xs S H := by
  have hc := Chg.of_grown hg
  have ne : ∀ {q : Nat} {cs : Array Value} {t : TypeId}, Blk W q cs t → ¬ some q = row := fun hb e => by
    obtain ⟨_, o, ho, hf⟩ := hr _ e.symm
    rw [show W.heap[_]? = _ from hb] at ho
    cases ho; cases hf
  have hk : ∀ {q : Nat} {cs : Array Value} {t : TypeId}, Blk W q cs t → Blk W' q cs t := fun hb => hc.keep hb (ne hb)
  refine ⟨hk h.box, h.low.grown hg h.sz (fun k e => Nat.le_trans hB (hr k e).1), hk h.ptr, hk h.blk, ?_, ?_, h.hnew, h.qB, h.pB⟩
  · exact h.many.chg hc fun i v xs hi b hb e => by obtain ⟨cur, hbk⟩ := (h.many.own i v xs hi).blk b hb; exact ne hbk e
  · exact h.had.chg hc fun b hb e => by obtain ⟨cur, hbk⟩ := h.had.blk b hb; exact ne hbk e
end

/-- In the loop over the levels: the level's node at q, the deferred block D. -/
structure StX (B : Nat) (w W : World) (fq : Value) (g g7 c7 : Nat) (l : List Int) (m q9 p : Nat) (vs vh : Value) (xs S : List Int) (H : List Bst) (D q d j o : Nat) : Prop where
  st : StM B w W fq g g7 c7 l m q9 p vs vh xs S H
  node : Blk W q #[.int .i64 (d : Int), .int .i64 (j : Int), .int .i64 (o : Int)] 55
  qn : B ≤ q
  dk : W.heap[D]? = some (.deferred (some []))
section
variable {B : Nat} {w W W' : World} {fq : Value} {g g7 c7 : Nat} {l : List Int} {m q9 p : Nat} {vs vh : Value} {xs S : List Int} {H : List Bst} {D q d j o : Nat}
theorem dk_ne {D p : Nat} {cs : Array Value} {t : TypeId} (h : W.heap[D]? = some (.deferred (some []))) (hb : Blk W p cs t) : D ≠ p := fun e => by
  rw [e, show W.heap[p]? = _ from hb] at h; cases h
theorem StX.later (h : StX B w W fq g g7 c7 l m q9 p vs vh xs S H D q d j o) (hb : Below W.heap.size W W') : StX B w W' fq g g7 c7 l m q9 p vs vh xs S H D q d j o :=
  ⟨h.st.later hb, (hb.block q h.node.lt).trans h.node, h.qn, (hb.block D (lt_of_some h.dk)).trans h.dk⟩
theorem StX.told {G : List Int} {H' : List Bst} (h : StX B w W fq g g7 c7 l m q9 p vs vh xs S H D q d j o) (hT : TabM W' p vs vh m G H') (hc : Chg (fun b => some b = vh.ownBlock) W W') : StX B w W' fq g g7 c7 l m q9 p vs vh xs S H' D q d j o :=
  ⟨h.st.told hT hc, hc.keep h.node fun e => h.st.had.ne h.node (by decide) e.symm, h.qn, hc.keep h.dk fun e => by
    obtain ⟨cur, hb⟩ := h.st.had.blk D e.symm
    exact dk_ne h.dk hb rfl⟩
theorem StX.storeOut (h : StX B w W fq g g7 c7 l m q9 p vs vh xs S H D q d j o) (i : Nat) (v : Int) : StX B w (W.setCell ⟨g, i, none⟩ (.int .i64 v)) fq g g7 c7 l m q9 p vs vh (xs.set i v) S H D q d j o := by
  obtain ⟨cur, hb⟩ := h.st.out.blk g rfl
  exact ⟨h.st.storeOut i v, h.node.setOther (h.node.ne hb (by decide)) _, h.qn, (Below.heap_setCell W ⟨g, i, none⟩ _ D (dk_ne h.dk hb)).trans h.dk⟩
/-- The next level's node: laid over this one, and copied. -/
theorem StX.next (h : StX B w W fq g g7 c7 l m q9 p vs vh xs S H D q d j o) (d2 j2 o2 : Nat) (q2 : Nat) (hq : q2 = W.heap.size) (W2 : World)
    (e2 : W2 = ((W.setCell ⟨q, 0, none⟩ (.int .i64 (d2 : Int))).setCell ⟨q, 1, none⟩ (.int .i64 (j2 : Int))).setCell ⟨q, 2, none⟩ (.int .i64 (o2 : Int))) :
    Blk W2 q #[.int .i64 (d2 : Int), .int .i64 (j2 : Int), .int .i64 (o2 : Int)] 55 ∧ W2.heap.size = W.heap.size ∧
    StX B w (W2.alloc (.cells #[.int .i64 (d2 : Int), .int .i64 (j2 : Int), .int .i64 (o2 : Int)] 55)) fq g g7 c7 l m q9 p vs vh xs S H D q2 d2 j2 o2 := by
  have hsz : W2.heap.size = W.heap.size := by rw [e2]; simp [World.setCell]
  have step : ∀ (X : World) (cs : Array Value) (i : Nat) (v : Value), StM B w X fq g g7 c7 l m q9 p vs vh xs S H → Blk X q cs 55 → X.heap[D]? = some (.deferred (some [])) →
      StM B w (X.setCell ⟨q, i, none⟩ v) fq g g7 c7 l m q9 p vs vh xs S H ∧ Blk (X.setCell ⟨q, i, none⟩ v) q (cs.setIfInBounds i v) 55 ∧ (X.setCell ⟨q, i, none⟩ v).heap[D]? = some (.deferred (some [])) := fun X cs i v hs hn hd =>
    ⟨⟨hs.box.setOther (hs.box.ne hn (by decide)) _, hs.low.setCell h.qn _, hs.ptr.setOther (hs.ptr.ne hn (by decide)) _, hs.blk.setOther (hs.blk.ne hn (by decide)) _, hs.many.setBlk hn (by decide) i v, hs.had.setOther (hs.had.ne hn (by decide)) _, hs.hnew, hs.qB, hs.pB⟩,
      hn.set i v, (Below.heap_setCell X ⟨q, i, none⟩ v D (dk_ne hd hn)).trans hd⟩
  obtain ⟨a1, a2, a3⟩ := step W _ 0 (.int .i64 (d2 : Int)) h.st h.node h.dk
  obtain ⟨b1, b2, b3⟩ := step _ _ 1 (.int .i64 (j2 : Int)) a1 a2 a3
  obtain ⟨c1, c2, c3⟩ := step _ _ 2 (.int .i64 (o2 : Int)) b1 b2 b3
  rw [← e2] at c1 c2 c3
  have hb : Below W2.heap.size W2 (W2.alloc (.cells #[.int .i64 (d2 : Int), .int .i64 (j2 : Int), .int .i64 (o2 : Int)] 55)) := (Below.refl _ _).alloc (Nat.le_refl _) _
  refine ⟨c2, hsz, c1.later hb, Blk.fresh_at _ _ (by rw [hq, hsz]) _ _, ?_, (hb.block D (lt_of_some c3)).trans c3⟩
  rw [hq]; exact h.st.sz
end
/-- How deep a node is, as the loop's measure reads it. -/
def deepOf (W : World) (v : Value) : Nat := match v with
  | .pointer (some a) => (match W.cell? a with
    | some (.int _ d) => d.toNat
    | _ => 0)
  | _ => 0
theorem deepOf_is {W : World} {q d j o : Nat} (h : Blk W q #[.int .i64 (d : Int), .int .i64 (j : Int), .int .i64 (o : Int)] 55) : deepOf W (.pointer (some ⟨q, 0, none⟩)) = d := by
  unfold deepOf; simp only; rw [h.cell (i := 0) rfl]; simp

/-- The sums as a loop lays them. -/
def stS (F : List Int) (n : Nat) (is : List Nat) : List Int := is.foldl (fun s i => s.set i (s.getD (i + 1) 0 + F.getD i 0)) (List.replicate (n + 1) 0)
theorem stS_snoc (F : List Int) (n : Nat) (is : List Nat) (i : Nat) : stS F n (is ++ [i]) = (stS F n is).set i ((stS F n is).getD (i + 1) 0 + F.getD i 0) := by unfold stS; rw [List.foldl_append]; rfl
theorem length_stS (F : List Int) (n : Nat) (is : List Nat) : (stS F n is).length = n + 1 := by
  unfold stS
  suffices h : ∀ (s : List Int), (is.foldl (fun s i => s.set i (s.getD (i + 1) 0 + F.getD i 0)) s).length = s.length by rw [h, List.length_replicate]
  intro s
  induction is generalizing s with
  | nil => rfl
  | cons a t ih => rw [List.foldl_cons, ih, List.length_set]
theorem stS_dnl (F : List Int) : ∀ k, k ≤ F.length → stS F F.length (dnl F.length k) = sumsN F (F.length - k) := by
  intro k
  induction k with
  | zero => intro _; rw [Nat.sub_zero, sumsN_none]; rfl
  | succ k ih =>
    intro hk
    rw [dnl_succ, stS_snoc, ih (by omega), show F.length - k = (F.length - 1 - k) + 1 by omega, sumsN_at F _ (by omega), sumsN_set F _ (by omega), show F.length - (k + 1) = F.length - 1 - k by omega]
theorem stS_le (F : List Int) (hF : ∀ x ∈ F, 0 ≤ x ∧ x ≤ 16777216) (n : Nat) : ∀ (is : List Nat) (j : Nat), 0 ≤ (stS F n is).getD j 0 ∧ (stS F n is).getD j 0 ≤ 16777216 * (is.length : Int) := by
  intro is
  have hFd : ∀ i, 0 ≤ F.getD i 0 ∧ F.getD i 0 ≤ 16777216 := fun i => by
    rcases Nat.lt_or_ge i F.length with h | h
    · have := hF F[i] (List.getElem_mem h); simp [List.getD_eq_getElem?_getD, h]; exact this
    · simp [List.getD_eq_getElem?_getD, h]
  suffices h : ∀ (is : List Nat) (s : List Int) (K : Int), 0 ≤ K → (∀ j, 0 ≤ s.getD j 0 ∧ s.getD j 0 ≤ K) → ∀ j, 0 ≤ (is.foldl (fun s i => s.set i (s.getD (i + 1) 0 + F.getD i 0)) s).getD j 0 ∧ (is.foldl (fun s i => s.set i (s.getD (i + 1) 0 + F.getD i 0)) s).getD j 0 ≤ K + 16777216 * (is.length : Int) by
    intro j
    have := h is (List.replicate (n + 1) 0) 0 (by omega) (fun j => by rw [getD_rep]; omega) j
    unfold stS; omega
  intro is
  induction is with
  | nil => intro s K h0 hs j; have := hs j; simp only [List.foldl_nil, List.length_nil]; omega
  | cons a t ih =>
    intro s K h0 hs j
    rw [List.foldl_cons]
    have h1 := hs (a + 1)
    have h2 := hFd a
    have := ih (s.set a (s.getD (a + 1) 0 + F.getD a 0)) (K + 16777216) (by omega) (fun j => ?_) j
    · rw [List.length_cons]; omega
    · by_cases e : a = j
      · subst e
        rcases Nat.lt_or_ge a s.length with h | h
        · simp only [List.getD_eq_getElem?_getD, List.getElem?_set_self h, Option.getD_some] at h1 h2 ⊢; omega
        · have h3 := hs a
          rw [List.set_eq_of_length_le h]; omega
      · have h3 := hs j
        simp only [List.getD_eq_getElem?_getD, List.getElem?_set_ne e] at h3 ⊢; omega
end Go.Proofs.Ytejecpmfhgplmaa

-- ---- Mn
/- merge.Lengths: the lengths of two classes and more. Conditions: the list reads as the argument does. -/
namespace Go.Proofs.Ytejecpmfhgplmaa
set_option linter.unusedSimpArgs false
set_option linter.unusedVariables false
open Go.RowKit Go.Shelf Mix _root_.Go.Proofs.Ytejecpmfhgplmaa.Own Dp Ol
attribute [local go_sem] Own.max_int Own.min_int
attribute [local go_sem] Oper.semAt_some

/-- What the call leaves. -/
def MLenE (l : List Int) (m : Nat) (w : World) (e : Ending) (w' : World) : Prop :=
  ∃ v, e = .returned (.tuple #[v, .int .i64 0]) ∧ Owns w' 3 v (ints .i64 (lenL l m)) ∧ (∀ g, v.ownBlock = some g → w.heap.size ≤ g) ∧ Below w.heap.size w w'

set_option maxRecDepth 100000 in
set_option maxHeartbeats 16000000 in
theorem mlen_ok (A0 : Option Addr) (c0 : Nat) (l0 : List Int) (m : Nat) (w : World) (hR : Rd w (.slice A0 65 65) (ints .i64 l0)) (hf : Fq l0 m) (hs : 2 ≤ (ordL l0).length) :
    Calls Try.prog 11 #[.slice A0 65 c0, .int .i64 (m : Int)] w (MLenE l0 m w) := by
  obtain ⟨i0, hi, hz0, hz1, hz2⟩ := info_partsI infoI64
  obtain ⟨ib, hbi, hb0, hb1, hb2⟩ := info_partsI infoB
  have h65 := hf.len
  obtain ⟨B, hB⟩ : ∃ B, B = w.heap.size := ⟨_, rfl⟩
  have hbw : Below w.heap.size w (w.alloc (.cells #[.slice A0 65 c0] 22)) := (Below.refl _ _).alloc (Nat.le_refl _) _
  have hmay := mmay_calls A0 65 c0 l0 m _ (hR.later hbw) (by decide)
  rw [(fqB_iff l0 m).2 ⟨m, rfl, hf⟩] at hmay
  have hro := fun w1 (h : Below w.heap.size w w1) => HistH.horder_calls A0 65 c0 l0 w1 (hR.later h) (by decide)
  have HM := kept hmay
  have HBW := kept hbw
  have HB := kept hB
  have HF := kept hf
  have HL := kept h65
  have HR := kept hR
  have HRo := kept hro
  have HSm := kept hs
  clear hB hf hR h65 hro hmay hbw hs
  refine callsIn_wide.1 (callsIn_of_wp_marks (n := 9) Try.func11 rfl trivial ?_ rfl)
  simp only [Try.ntmps11, List.size_toArray, List.length_cons, List.length_nil, Nat.reduceAdd, Nat.reduceSub, Array.replicate_succ, Array.replicate_zero, List.push_toArray, List.append_toArray, List.nil_append, List.cons_append]
  refine wpIn_wide.2 ?_
  go_upto_region 3 with (first | (go_at_call 19; refine HM.out.mono ?_; rintro e w1 ⟨rfl, rfl⟩))
  rw [show w.heap.size = B from HB.out.symm]
  generalize hw1 : World.alloc w _ = w1
  have HS1 : Kept (Blk w1 B #[.slice A0 65 c0] 22 ∧ Below B w w1) := kept (by rw [← hw1, HB.out]; exact ⟨Blk.fresh _ _ _, (Below.refl _ _).alloc (Nat.le_refl _) _⟩)
  clear hw1
  go_wp2_with (first | (refine wpList_mk1 rfl _ _ 22 rfl 3 i0 (.int .i64 0) 8 Try.underlying22 hi hz0 hz1 hz2 rfl .i64 .i64 _ _ 65 rfl rfl rfl rfl (by decide) (by decide) ?_))
  intro w2 hO hb hlt2
  obtain ⟨g, hg⟩ : ∃ g, g = w1.heap.size := ⟨_, rfl⟩
  have hM2 : Many B w2 3 [(.slice (some ⟨g, 0, none⟩) 65 65, ints .i64 (List.replicate 65 0))] := by
    have := (Many.nil B w1 3).add (v := .slice (some ⟨w1.heap.size, 0, none⟩) 65 65) hb hO (fun b hb => by simp [Value.ownBlock] at hb; omega) (Nat.le_of_lt HS1.out.1.lt)
    rw [hg]; simpa [ints] using this
  have HS2 : Kept (Blk w2 B #[.slice A0 65 c0] 22 ∧ Below B w w2) := kept ⟨(hb.block B HS1.out.1.lt).trans HS1.out.1, HS1.out.2.trans (hb.mono (Nat.le_of_lt HS1.out.1.lt))⟩
  have HM2 := kept hM2
  rw [← hg]
  have HC := kept (HRo.out w2 (by rw [← HB.out]; exact HS2.out.2))
  have hb0 := HS2.out.1.cell (i := 0) rfl
  clear hO hb hlt2 hg hM2 HS1
  go_wp2_with (first | (go_at_call 20; refine HC.out.mono ?_))
  rintro e w3 ⟨v7, rfl, ho⟩
  have hM3 := HM2.out.add ho.low ho.own ho.new (Nat.le_of_lt HS2.out.1.lt)
  have HS3 : Kept (Blk w3 B #[.slice A0 65 c0] 22 ∧ Below B w w3) := kept ⟨(ho.low.block B HS2.out.1.lt).trans HS2.out.1, HS2.out.2.trans (ho.low.mono (Nat.le_of_lt HS2.out.1.lt))⟩
  obtain ⟨a7, c7, rfl, ha7⟩ := sliceX ho.own
  have HM3 := kept hM3
  obtain ⟨n, hn⟩ : ∃ n, n = (ordL l0).length := ⟨_, rfl⟩
  rw [← hn] at HSm ⊢
  have HN := kept hn
  have HA7 := kept ha7
  clear ho hM3 hn ha7 HC HM2 HS2 hb0
  obtain ⟨g7, rfl⟩ := HA7.out (by intro e; have := HN.out; rw [e] at this; simp at this; have := HSm.out; omega)
  have hnl := length_ordL l0
  rw [HL.out, ← HN.out] at hnl
  have hn2 : 2 ≤ n := HSm.out
  have tn1 : ((n : Int) == 1) = false := by rw [beq_eq_false_iff_ne]; omega
  have tn2 : decide ((n : Int) < 2) = false := by rw [decide_eq_false_iff_not]; omega
  obtain ⟨nn, hnn⟩ : ∃ nn, nn = n + 1 := ⟨_, rfl⟩
  have hm15 := HF.out.hi
  have hnnI : (n : Int) + 1 = (nn : Int) := by omega
  have hb1' : (m + 2) * nn ≤ 17 * 66 := Nat.mul_le_mul (by omega) (by omega)
  have hb2' : (m + 2) * nn * nn ≤ 17 * 66 * 66 := Nat.mul_le_mul hb1' (by omega)
  obtain ⟨A1, hA1⟩ : ∃ A1, A1 = (m + 2) * nn := ⟨_, rfl⟩
  obtain ⟨A2, hA2⟩ : ∃ A2, A2 = (m + 2) * nn * nn := ⟨_, rfl⟩
  have e1 : ((m : Int) + 2) * (nn : Int) = (A1 : Int) := by rw [hA1]; simp
  have e2 : (A1 : Int) * (nn : Int) = (A2 : Int) := by rw [hA2, hA1]; simp
  rw [← hA1] at hb1'
  rw [← hA2] at hb2'
  have hnn66 : nn ≤ 66 := by omega
  have HNN := kept hnn
  have HA2 := kept hA2
  clear hA1 hA2 hnn HA7
  go_upto_region 10 with (fail)
  go_cut [9] from 38 to 49 (fun s9 wx => ∃ q9 p vs vh, s9 = .pointer (some ⟨q9, 0, none⟩) ∧ StM B w wx (.slice A0 65 c0) g g7 c7 l0 m q9 p vs vh (List.replicate 65 0) (List.replicate nn 0) (List.replicate A2 (0, 0, false, false)))
  case first =>
    refine wp_region_treeL [0,2,3,4,5,6,7,8] [] (.three 1 (.two 9 (.two 10 (.two 11 (.seq [12,13]) 12 (.seq [11,13])) 12 (.seq [10,11,13])) 12 (.one 9 (.seq [10,11,13]))) 9 (.two 1 (.two 10 (.two 11 (.seq [12,13]) 12 (.seq [11,13])) 12 (.seq [10,11,13])) 12 (.one 1 (.seq [10,11,13]))) 12 (.two 1 (.one 9 (.seq [10,11,13])) 9 (.one 1 (.seq [10,11,13])))) (by kernel_rfl) (by kernel_rfl) ?_
    intro K hK
    simp only [pick, List.filterMap_cons, List.filterMap_nil, List.getElem?_cons_zero, List.getElem?_cons_succ]
    repeat (show wpQuiet _ _ _ _ (_ :: _) _; go_big_quiet_step (fail))
    refine wpQuiet_nil (wpQuiet_nil ?_)
    generalize hwd : World.drew w3 = x0
    have HC0 : Kept (C10 B w x0 (.slice A0 65 c0) ([(.slice (some ⟨g, 0, none⟩) 65 65, ints .i64 (List.replicate 65 0)), (.slice (some ⟨g7, 0, none⟩) (ordL l0).length c7, idx (ordL l0))]) none A2 none none) := kept (by rw [← hwd]; exact ⟨HS3.out.1, HS3.out.2.drew, HM3.out.later (Below.refl _ _).drew, (fun v h => by cases h), (fun v h => by cases h), (fun v h => by cases h)⟩)
    clear hwd
    refine (show _ ∧ _ ∧ _ from ⟨?_, ?_, ?_⟩)
    · show wpList _ _ _ [_] _ _
      refine wpList_mk1 rfl _ _ 22 rfl 3 i0 (.int .i64 0) 8 Try.underlying22 hi hz0 hz1 hz2 rfl .i64 .i64 _ _ nn rfl rfl rfl rfl (by omega) (by simp [maxLen]; omega) ?_
      intro x1 hO hb hlt2
      obtain ⟨gs2, hgs⟩ : ∃ g, g = x0.heap.size := ⟨_, rfl⟩
      rw [← hgs]
      have HC3 := kept (HC0.out.mkInts hO hb gs2 hgs)
      clear hO hb hlt2 hgs HC0
      change wpTr _ _ _ _ _ _
      unfold wpTr
      refine (show _ ∧ _ from ⟨?_, ?_⟩)
      · show wpList _ _ _ [_] _ _
        refine wpList_make_full _ rfl _ _ 48 rfl 0 57 ib _ 4 Try.underlying48 hbi hb0 hb1 .i64 .i64 _ _ A2 rfl rfl rfl rfl (by rw [hb2]; omega) (by simp [maxLen]; omega) (Nat.zero_le _) ?_
        intro x4 hO hg
        obtain ⟨gh5, hgs⟩ : ∃ g, g = x1.heap.size := ⟨_, rfl⟩
        rw [← hgs]
        have HC6 := kept (HC3.out.mkBest rfl hO hg gh5 hgs)
        clear hO hg hgs HC3
        change wpTr _ _ _ _ _ _
        unfold wpTr
        refine (show _ ∧ _ from ⟨?_, ?_⟩)
        · show wpList _ _ _ [_] _ _
          go_wp2_with fail
          change wpTr _ _ _ _ _ _
          unfold wpTr
          refine (show _ ∧ _ from ⟨?_, ?_⟩)
          · show wpList _ _ _ [_] _ _
            go_wp2_with fail
            obtain ⟨p8, hgs⟩ : ∃ g, g = x4.heap.size := ⟨_, rfl⟩
            rw [← hgs]
            have HC9 := kept (HC6.out.boxed (.slice (some ⟨gs2, 0, none⟩) nn nn) (m : Int) (.slice (some ⟨gh5, 0, none⟩) A2 A2) p8 hgs)
            generalize World.alloc x4 _ = x7 at HC9 ⊢
            clear hgs HC6
            change wpTr _ _ _ _ _ _
            unfold wpTr
            show wpList _ _ _ [_, _] _ _
            obtain ⟨q9, hgs⟩ : ∃ g, g = x7.heap.size := ⟨_, rfl⟩
            have HD := kept (HC9.out.done2 (m := m) q9 hgs)
            clear HC9
            go_wp2_with fail
            rw [← hgs]
            refine hK _ _ ?_
            go_wp2_with fail
            go_meet
            case rel => exact ⟨_, _, _, _, rfl, HD.out⟩
          · show wpList _ _ _ [_] _ _
            go_wp2_with fail
            obtain ⟨q911, hgs⟩ : ∃ g, g = x4.heap.size := ⟨_, rfl⟩
            rw [← hgs]
            have HC12 := kept (HC6.out.alloc q911 hgs)
            generalize World.alloc x4 _ = x10 at HC12 ⊢
            clear hgs HC6
            change wpTr _ _ _ _ _ _
            unfold wpTr
            show wpList _ _ _ [_, _] _ _
            obtain ⟨p, hgs⟩ : ∃ g, g = x10.heap.size := ⟨_, rfl⟩
            obtain ⟨hd, cq, fq⟩ := C10.done (m := m) (HC12.out.boxed (.slice (some ⟨gs2, 0, none⟩) nn nn) (m : Int) (.slice (some ⟨gh5, 0, none⟩) A2 A2) p hgs)
            have HD := kept hd
            clear hd HC12
            go_wp2_with fail
            rw [← hgs]
            refine hK _ _ ?_
            go_wp2_with fail
            go_meet
            case rel => exact ⟨_, _, _, _, rfl, HD.out⟩
        · show wpList _ _ _ [_] _ _
          go_wp2_with fail
          obtain ⟨q914, hgs⟩ : ∃ g, g = x4.heap.size := ⟨_, rfl⟩
          rw [← hgs]
          have HC15 := kept (HC6.out.alloc q914 hgs)
          generalize World.alloc x4 _ = x13 at HC15 ⊢
          clear hgs HC6
          change wpTr _ _ _ _ _ _
          unfold wpTr
          show wpList _ _ _ [_, _, _] _ _
          obtain ⟨p, hgs⟩ : ∃ g, g = x13.heap.size := ⟨_, rfl⟩
          obtain ⟨hd, cq, fq⟩ := C10.done (m := m) (HC15.out.boxed (.slice (some ⟨gs2, 0, none⟩) nn nn) (m : Int) (.slice (some ⟨gh5, 0, none⟩) A2 A2) p hgs)
          have HD := kept hd
          clear hd HC15
          go_wp2_with fail
          rw [← hgs]
          refine hK _ _ ?_
          go_wp2_with fail
          go_meet
          case rel => exact ⟨_, _, _, _, rfl, HD.out⟩
      · show wpList _ _ _ [_] _ _
        go_wp2_with fail
        obtain ⟨q917, hgs⟩ : ∃ g, g = x1.heap.size := ⟨_, rfl⟩
        rw [← hgs]
        have HC18 := kept (HC3.out.alloc q917 hgs)
        generalize World.alloc x1 _ = x16 at HC18 ⊢
        clear hgs HC3
        change wpTr _ _ _ _ _ _
        unfold wpTr
        show wpList _ _ _ [_] _ _
        refine wpList_make_full _ rfl _ _ 48 rfl 0 57 ib _ 4 Try.underlying48 hbi hb0 hb1 .i64 .i64 _ _ A2 rfl rfl rfl rfl (by rw [hb2]; omega) (by simp [maxLen]; omega) (Nat.zero_le _) ?_
        intro x19 hO hg
        obtain ⟨gh20, hgs⟩ : ∃ g, g = x16.heap.size := ⟨_, rfl⟩
        rw [← hgs]
        have HC21 := kept (HC18.out.mkBest rfl hO hg gh20 hgs)
        clear hO hg hgs HC18
        change wpTr _ _ _ _ _ _
        unfold wpTr
        show wpList _ _ _ [_, _, _] _ _
        obtain ⟨p, hgs⟩ : ∃ g, g = x19.heap.size := ⟨_, rfl⟩
        obtain ⟨hd, cq, fq⟩ := C10.done (m := m) (HC21.out.boxed (.slice (some ⟨gs2, 0, none⟩) nn nn) (m : Int) (.slice (some ⟨gh20, 0, none⟩) A2 A2) p hgs)
        have HD := kept hd
        clear hd HC21
        go_wp2_with fail
        rw [← hgs]
        refine hK _ _ ?_
        go_wp2_with fail
        go_meet
        case rel => exact ⟨_, _, _, _, rfl, HD.out⟩
    · show wpList _ _ _ [_] _ _
      refine wpList_make_full _ rfl _ _ 48 rfl 0 57 ib _ 4 Try.underlying48 hbi hb0 hb1 .i64 .i64 _ _ A2 rfl rfl rfl rfl (by rw [hb2]; omega) (by simp [maxLen]; omega) (Nat.zero_le _) ?_
      intro x22 hO hg
      obtain ⟨gh23, hgs⟩ : ∃ g, g = x0.heap.size := ⟨_, rfl⟩
      rw [← hgs]
      have HC24 := kept (HC0.out.mkBest rfl hO hg gh23 hgs)
      clear hO hg hgs HC0
      change wpTr _ _ _ _ _ _
      unfold wpTr
      refine (show _ ∧ _ from ⟨?_, ?_⟩)
      · show wpList _ _ _ [_] _ _
        refine wpList_mk1 rfl _ _ 22 rfl 3 i0 (.int .i64 0) 8 Try.underlying22 hi hz0 hz1 hz2 rfl .i64 .i64 _ _ nn rfl rfl rfl rfl (by omega) (by simp [maxLen]; omega) ?_
        intro x25 hO hb hlt2
        obtain ⟨gs26, hgs⟩ : ∃ g, g = x22.heap.size := ⟨_, rfl⟩
        rw [← hgs]
        have HC27 := kept (HC24.out.mkInts hO hb gs26 hgs)
        clear hO hb hlt2 hgs HC24
        change wpTr _ _ _ _ _ _
        unfold wpTr
        refine (show _ ∧ _ from ⟨?_, ?_⟩)
        · show wpList _ _ _ [_] _ _
          go_wp2_with fail
          change wpTr _ _ _ _ _ _
          unfold wpTr
          refine (show _ ∧ _ from ⟨?_, ?_⟩)
          · show wpList _ _ _ [_] _ _
            go_wp2_with fail
            obtain ⟨p29, hgs⟩ : ∃ g, g = x25.heap.size := ⟨_, rfl⟩
            rw [← hgs]
            have HC30 := kept (HC27.out.boxed (.slice (some ⟨gs26, 0, none⟩) nn nn) (m : Int) (.slice (some ⟨gh23, 0, none⟩) A2 A2) p29 hgs)
            generalize World.alloc x25 _ = x28 at HC30 ⊢
            clear hgs HC27
            change wpTr _ _ _ _ _ _
            unfold wpTr
            show wpList _ _ _ [_, _] _ _
            obtain ⟨q9, hgs⟩ : ∃ g, g = x28.heap.size := ⟨_, rfl⟩
            have HD := kept (HC30.out.done2 (m := m) q9 hgs)
            clear HC30
            go_wp2_with fail
            rw [← hgs]
            refine hK _ _ ?_
            go_wp2_with fail
            go_meet
            case rel => exact ⟨_, _, _, _, rfl, HD.out⟩
          · show wpList _ _ _ [_] _ _
            go_wp2_with fail
            obtain ⟨q932, hgs⟩ : ∃ g, g = x25.heap.size := ⟨_, rfl⟩
            rw [← hgs]
            have HC33 := kept (HC27.out.alloc q932 hgs)
            generalize World.alloc x25 _ = x31 at HC33 ⊢
            clear hgs HC27
            change wpTr _ _ _ _ _ _
            unfold wpTr
            show wpList _ _ _ [_, _] _ _
            obtain ⟨p, hgs⟩ : ∃ g, g = x31.heap.size := ⟨_, rfl⟩
            obtain ⟨hd, cq, fq⟩ := C10.done (m := m) (HC33.out.boxed (.slice (some ⟨gs26, 0, none⟩) nn nn) (m : Int) (.slice (some ⟨gh23, 0, none⟩) A2 A2) p hgs)
            have HD := kept hd
            clear hd HC33
            go_wp2_with fail
            rw [← hgs]
            refine hK _ _ ?_
            go_wp2_with fail
            go_meet
            case rel => exact ⟨_, _, _, _, rfl, HD.out⟩
        · show wpList _ _ _ [_] _ _
          go_wp2_with fail
          obtain ⟨q935, hgs⟩ : ∃ g, g = x25.heap.size := ⟨_, rfl⟩
          rw [← hgs]
          have HC36 := kept (HC27.out.alloc q935 hgs)
          generalize World.alloc x25 _ = x34 at HC36 ⊢
          clear hgs HC27
          change wpTr _ _ _ _ _ _
          unfold wpTr
          show wpList _ _ _ [_, _, _] _ _
          obtain ⟨p, hgs⟩ : ∃ g, g = x34.heap.size := ⟨_, rfl⟩
          obtain ⟨hd, cq, fq⟩ := C10.done (m := m) (HC36.out.boxed (.slice (some ⟨gs26, 0, none⟩) nn nn) (m : Int) (.slice (some ⟨gh23, 0, none⟩) A2 A2) p hgs)
          have HD := kept hd
          clear hd HC36
          go_wp2_with fail
          rw [← hgs]
          refine hK _ _ ?_
          go_wp2_with fail
          go_meet
          case rel => exact ⟨_, _, _, _, rfl, HD.out⟩
      · show wpList _ _ _ [_] _ _
        go_wp2_with fail
        obtain ⟨q938, hgs⟩ : ∃ g, g = x22.heap.size := ⟨_, rfl⟩
        rw [← hgs]
        have HC39 := kept (HC24.out.alloc q938 hgs)
        generalize World.alloc x22 _ = x37 at HC39 ⊢
        clear hgs HC24
        change wpTr _ _ _ _ _ _
        unfold wpTr
        show wpList _ _ _ [_] _ _
        refine wpList_mk1 rfl _ _ 22 rfl 3 i0 (.int .i64 0) 8 Try.underlying22 hi hz0 hz1 hz2 rfl .i64 .i64 _ _ nn rfl rfl rfl rfl (by omega) (by simp [maxLen]; omega) ?_
        intro x40 hO hb hlt2
        obtain ⟨gs41, hgs⟩ : ∃ g, g = x37.heap.size := ⟨_, rfl⟩
        rw [← hgs]
        have HC42 := kept (HC39.out.mkInts hO hb gs41 hgs)
        clear hO hb hlt2 hgs HC39
        change wpTr _ _ _ _ _ _
        unfold wpTr
        show wpList _ _ _ [_, _, _] _ _
        obtain ⟨p, hgs⟩ : ∃ g, g = x40.heap.size := ⟨_, rfl⟩
        obtain ⟨hd, cq, fq⟩ := C10.done (m := m) (HC42.out.boxed (.slice (some ⟨gs41, 0, none⟩) nn nn) (m : Int) (.slice (some ⟨gh23, 0, none⟩) A2 A2) p hgs)
        have HD := kept hd
        clear hd HC42
        go_wp2_with fail
        rw [← hgs]
        refine hK _ _ ?_
        go_wp2_with fail
        go_meet
        case rel => exact ⟨_, _, _, _, rfl, HD.out⟩
    · show wpList _ _ _ [_] _ _
      go_wp2_with fail
      obtain ⟨q944, hgs⟩ : ∃ g, g = x0.heap.size := ⟨_, rfl⟩
      rw [← hgs]
      have HC45 := kept (HC0.out.alloc q944 hgs)
      generalize World.alloc x0 _ = x43 at HC45 ⊢
      clear hgs HC0
      change wpTr _ _ _ _ _ _
      unfold wpTr
      refine (show _ ∧ _ from ⟨?_, ?_⟩)
      · show wpList _ _ _ [_] _ _
        refine wpList_mk1 rfl _ _ 22 rfl 3 i0 (.int .i64 0) 8 Try.underlying22 hi hz0 hz1 hz2 rfl .i64 .i64 _ _ nn rfl rfl rfl rfl (by omega) (by simp [maxLen]; omega) ?_
        intro x46 hO hb hlt2
        obtain ⟨gs47, hgs⟩ : ∃ g, g = x43.heap.size := ⟨_, rfl⟩
        rw [← hgs]
        have HC48 := kept (HC45.out.mkInts hO hb gs47 hgs)
        clear hO hb hlt2 hgs HC45
        change wpTr _ _ _ _ _ _
        unfold wpTr
        show wpList _ _ _ [_] _ _
        refine wpList_make_full _ rfl _ _ 48 rfl 0 57 ib _ 4 Try.underlying48 hbi hb0 hb1 .i64 .i64 _ _ A2 rfl rfl rfl rfl (by rw [hb2]; omega) (by simp [maxLen]; omega) (Nat.zero_le _) ?_
        intro x49 hO hg
        obtain ⟨gh50, hgs⟩ : ∃ g, g = x46.heap.size := ⟨_, rfl⟩
        rw [← hgs]
        have HC51 := kept (HC48.out.mkBest rfl hO hg gh50 hgs)
        clear hO hg hgs HC48
        change wpTr _ _ _ _ _ _
        unfold wpTr
        show wpList _ _ _ [_, _, _] _ _
        obtain ⟨p, hgs⟩ : ∃ g, g = x49.heap.size := ⟨_, rfl⟩
        obtain ⟨hd, cq, fq⟩ := C10.done (m := m) (HC51.out.boxed (.slice (some ⟨gs47, 0, none⟩) nn nn) (m : Int) (.slice (some ⟨gh50, 0, none⟩) A2 A2) p hgs)
        have HD := kept hd
        clear hd HC51
        go_wp2_with fail
        rw [← hgs]
        refine hK _ _ ?_
        go_wp2_with fail
        go_meet
        case rel => exact ⟨_, _, _, _, rfl, HD.out⟩
      · show wpList _ _ _ [_] _ _
        refine wpList_make_full _ rfl _ _ 48 rfl 0 57 ib _ 4 Try.underlying48 hbi hb0 hb1 .i64 .i64 _ _ A2 rfl rfl rfl rfl (by rw [hb2]; omega) (by simp [maxLen]; omega) (Nat.zero_le _) ?_
        intro x52 hO hg
        obtain ⟨gh53, hgs⟩ : ∃ g, g = x43.heap.size := ⟨_, rfl⟩
        rw [← hgs]
        have HC54 := kept (HC45.out.mkBest rfl hO hg gh53 hgs)
        clear hO hg hgs HC45
        change wpTr _ _ _ _ _ _
        unfold wpTr
        show wpList _ _ _ [_] _ _
        refine wpList_mk1 rfl _ _ 22 rfl 3 i0 (.int .i64 0) 8 Try.underlying22 hi hz0 hz1 hz2 rfl .i64 .i64 _ _ nn rfl rfl rfl rfl (by omega) (by simp [maxLen]; omega) ?_
        intro x55 hO hb hlt2
        obtain ⟨gs56, hgs⟩ : ∃ g, g = x52.heap.size := ⟨_, rfl⟩
        rw [← hgs]
        have HC57 := kept (HC54.out.mkInts hO hb gs56 hgs)
        clear hO hb hlt2 hgs HC54
        change wpTr _ _ _ _ _ _
        unfold wpTr
        show wpList _ _ _ [_, _, _] _ _
        obtain ⟨p, hgs⟩ : ∃ g, g = x55.heap.size := ⟨_, rfl⟩
        obtain ⟨hd, cq, fq⟩ := C10.done (m := m) (HC57.out.boxed (.slice (some ⟨gs56, 0, none⟩) nn nn) (m : Int) (.slice (some ⟨gh53, 0, none⟩) A2 A2) p hgs)
        have HD := kept hd
        clear hd HC57
        go_wp2_with fail
        rw [← hgs]
        refine hK _ _ ?_
        go_wp2_with fail
        go_meet
        case rel => exact ⟨_, _, _, _, rfl, HD.out⟩
  case rest =>
    obtain ⟨q9, p, vs, vh, rfl, hst⟩ := hcut
    obtain ⟨w4, rfl⟩ : ∃ w4, w4 = wc := ⟨wc, rfl⟩
    have HS4 := kept hst
    clear hst HS3 HM3
    have H1 := kept (HS4.out.ptr.lt)
    obtain ⟨G, hG⟩ : ∃ G, G = ofs l0 := ⟨_, rfl⟩
    have hGl : G.length = n := by rw [hG, length_ofs]; exact HN.out.symm
    have HG := kept hG
    have HGl := kept hGl
    have HGs : Kept (Gs G) := kept ⟨by rw [HGl.out]; omega, fun x hx => by
      rw [HG.out] at hx
      obtain ⟨j, hj, rfl⟩ := List.mem_map.1 hx
      exact HF.out.each (l0.getD j 0) (by have h := (mem_ordL.1 hj).1; simp [List.getD_eq_getElem?_getD, h])⟩
    obtain ⟨gs, cs, hvs, _, hgsl⟩ := rowI (HS4.out.many.own 2 _ _ rfl) (by intro e; have := congrArg List.length e; rw [List.length_replicate] at this; simp at this; have := HNN.out; omega)
    rw [List.length_replicate] at hvs
    subst hvs
    clear hG hGl
    go_wp2_with (first | (go_at_call 21; refine (back_calls _ _ _ _ rfl _).mono ?_; rintro e w' ⟨rfl, rfl⟩))
    obtain ⟨Bs, hBs⟩ : ∃ Bs, Bs = w4.heap.size := ⟨_, rfl⟩
    rw [← hBs]
    obtain ⟨f, hf⟩ : ∃ f : Nat → Int, f = fun i => (((ordL l0).getD i 0 : Nat) : Int) := ⟨_, rfl⟩
    have HFd := kept hf
    generalize hw5 : World.alloc w4 _ = w5
    have hb5 : Below w4.heap.size w4 w5 := by rw [← hw5]; exact (Below.refl _ _).alloc (Nat.le_refl _) _
    have hB5 : Blk w5 Bs #[.slice (some ⟨g7, 0, none⟩) n c7] 22 := by rw [← hw5]; exact Blk.fresh_at _ _ hBs _ _
    have HS5 := kept (HS4.out.later hb5)
    have hg7 : g7 < w5.heap.size := HS5.out.many.own 1 _ _ rfl |>.lt _ rfl
    have hcx : ∀ i, i < n → w5.cell? ⟨g7, i, none⟩ = some (.int .i64 (f i)) := fun i hi => by
      rw [HFd.out]; exact HS5.out.ordAt i (by rw [← HN.out]; exact hi)
    have hgsB : gs ≠ Bs := by rw [hBs]; omega
    have hgs7 : gs ≠ g7 := fun e => by
      have := HS5.out.many.sep 1 2 _ _ _ _ (by decide) rfl rfl g7 rfl
      exact this (by rw [e]; rfl)
    have HNE := kept (And.intro hgsB hgs7)
    have hBl := HS5.out.sz
    have HBL := kept hBl
    clear hw5 hf hgsl hb5 HS4 hgsB hgs7 hBl H1 hBs
    refine' wpIn_wide.1 (wpIn_rangeFunc_ownG (F := Fence.wide) (n := 9) rfl (by decide) (gf := 30) (lb := #[.pointer (some ⟨Bs, 0, none⟩)]) rfl trivial (enters_of Try.func30 (by kernel_rfl) rfl)
      (back_stops 8 Bs g7 n c7 (by decide) f (by omega) w5 hB5.lt hg7 (hB5.cell rfl) hcx) KpB.trans (KpB.put hB5.lt hg7) (Below.refl _ _) (fun _ => rfl)
      (fun pre W => StM B w W (.slice A0 65 c0) g g7 c7 l0 m q9 p (.slice (some ⟨gs, 0, none⟩) nn cs) vh (List.replicate 65 0) (stS G n (pre.map Subtype.val)) (List.replicate A2 (0, 0, false, false)))
      (fun _ _ _ => False) (fun s X Y row hs hg hr => hs.turn hg hr HBL.out) (fun _ _ _ _ _ hs _ _ => hs) (by have := HNN.out; subst this; exact HS5.out) _ ?assign ?body ?done ?stop)
    case assign =>
      intro l x W K hK
      gi_wp2
      exact hK
    case stop =>
      rintro D c pre W _ _ h _
      exact h.elim
    case body =>
      rintro l pre ⟨i, hin⟩ W hst hlen
      obtain ⟨c, hcd⟩ : ∃ c, c = (ordL l0).getD i 0 := ⟨_, rfl⟩
      have hio : i < (ordL l0).length := by rw [← HN.out]; exact hin
      have hcm : c ∈ ordL l0 := by rw [hcd]; simp [List.getD_eq_getElem?_getD, hio]
      have hc65 : c < 65 := by have h := (mem_ordL.1 hcm).1; rw [HL.out] at h; exact h
      have hfi : f i = (c : Int) := by rw [HFd.out, hcd]
      have hrd := HR.out.later (show Below w.heap.size w W by rw [← HB.out]; exact hst.low)
      obtain ⟨xa, rfl, hcq⟩ := hrd.at (Own.ints_at .i64 l0 c (by rw [HL.out]; exact hc65))
      obtain ⟨y, hy⟩ : ∃ y, y = l0.getD c 0 := ⟨_, rfl⟩
      rw [← hy] at hcq
      have hGi : G.getD i 0 = y := by
        have h := ofs_at l0 i hio
        rw [← HG.out, ← hcd, ← hy] at h; exact h
      have hyb := HF.out.each y (by rw [hy]; have h := (mem_ordL.1 hcm).1; simp [List.getD_eq_getElem?_getD, h])
      obtain ⟨hy0, hy1⟩ := hyb
      have hpl : pre.length < n := hlen
      have hsb := stS_le G HGs.out.each n (pre.map Subtype.val) (i + 1)
      rw [List.length_map] at hsb
      obtain ⟨s1, hs1⟩ : ∃ s1, s1 = (stS G n (pre.map Subtype.val)).getD (i + 1) 0 := ⟨_, rfl⟩
      rw [← hs1] at hsb
      obtain ⟨hs0, hs2⟩ := hsb
      have hs3 : s1 ≤ 1090519040 := by omega
      have hsn : stS G n ((pre ++ [(⟨i, hin⟩ : Pl n)]).map Subtype.val) = (stS G n (pre.map Subtype.val)).set i (s1 + y) := by
        rw [List.map_append, List.map_cons, List.map_nil, stS_snoc, ← hs1, hGi]
      have hsl : (stS G n (pre.map Subtype.val)).length = n + 1 := length_stS _ _ _
      have k1 := lat_cell (hst.ptr.cell (i := 0) rfl)
      have k2 := lat_cell (hst.blk.cell (i := 0) rfl)
      have k3 := lat_cell (hst.box.cell (i := 0) rfl)
      have k4 := lat_cell hcq
      have k5 := lat_cell ((hst.many.own 2 _ _ rfl).cell (j := i + 1) (Own.ints_at .i64 _ (i + 1) (by rw [hsl]; omega)))
      have c6 := (hst.many.own 2 _ _ rfl).cell (j := i) (Own.ints_at .i64 _ i (by rw [hsl]; omega))
      have f6 := (hst.many.own 2 _ _ rfl).free i
      rw [← hs1] at k5
      obtain ⟨z0, hz0e⟩ : ∃ z0, z0 = (stS G n (pre.map Subtype.val)).getD i 0 := ⟨_, rfl⟩
      rw [← hz0e] at c6
      have HSn := kept hsn
      have HSt := kept hst
      have hinn : (i : Int) + 1 < (nn : Int) := by have := HNN.out; omega
      have hinn2 : (i : Int) < (nn : Int) := by omega
      have hc65' : (c : Int) < 65 := by omega
      clear hst hsn hs1 hz0e hcq hy hGi hcm hsl hcd hlen hpl hs2 hio
      dsimp only
      rw [hfi]
      clear hfi
      refine wpIn_block ?_
      refine wpIn_region_mixL [] [0,1,2,3,4,5,6,7,8,9,10,11,12,13,14,15,16,17,18] [19] (by kernel_rfl) (by kernel_rfl) (by kernel_rfl) ?_
      intro K hK
      simp only [pick, List.filterMap_cons, List.filterMap_nil, List.getElem?_cons_zero, List.getElem?_cons_succ]
      refine wpQuiet_nil ?_
      repeat (show wpQuiet _ _ _ _ (_ :: _) _; go_big_quiet_step (fail))
      refine wpQuiet_nil ?_
      show wpList _ _ _ [_] _ _
      generalize hwd : World.drew W = wd
      have hcd : wd.cell? ⟨gs, i, none⟩ = some (.int .i64 z0) := by rw [← hwd]; exact c6
      have hfd : wd.frozen? ⟨gs, i, none⟩ = false := by rw [← hwd]; exact f6
      have HNd := kept ((HSt.out.later (Below.refl _ _).drew).storeSum i (s1 + y))
      have HKo := kept (((KeepsOthers.drew W).trans (KeepsOthers.setCell W.drew ⟨gs, i, none⟩ (.int .i64 (s1 + y)))).from w5.heap.size)
      have HKp := kept (show KpB Bs g7 W (W.drew.setCell ⟨gs, i, none⟩ (.int .i64 (s1 + y))) from ⟨Below.heap_setCell W.drew ⟨gs, i, none⟩ _ Bs (fun e => HNE.out.1 e.symm), Below.heap_setCell W.drew ⟨gs, i, none⟩ _ g7 (fun e => HNE.out.2 e.symm)⟩)
      rw [hwd] at HNd HKo HKp
      clear hwd k1 k2 k3 k4 k5 c6 f6
      go_wp2_with fail
      refine hK _ _ ?_
      exact ⟨HKo.out, HKp.out, by have h := HNd.out; rw [← HSn.out] at h; exact h⟩
    case done =>
      rintro D ys W hD hys hst hK
      have hst2 : StM B w W (.slice A0 65 c0) g g7 c7 l0 m q9 p (.slice (some ⟨gs, 0, none⟩) nn cs) vh (List.replicate 65 0) (sums G) (List.replicate A2 (0, 0, false, false)) := by
        have h := stS_dnl G n (by rw [HGl.out]; exact Nat.le_refl _)
        rw [HGl.out, Nat.sub_self, sumsN_all] at h
        rw [← h, ← hys]; exact hst
      have HS6 := kept hst2
      have HDk := kept hK
      have HDB := kept (Nat.le_trans HBL.out hD)
      clear hst hst2 hK hys hD HNE HFd HS5
      obtain ⟨L, hL⟩ : ∃ L, L = lensOf l0 m := ⟨_, rfl⟩
      obtain ⟨x0, hx0⟩ := HF.out.can (by rw [← HN.out]; exact hn2)
      rw [← HG.out] at hx0
      have hLe : L = lens m 1 G 2 := by rw [hL, HG.out]; unfold lensOf; rw [if_neg (by rw [← HN.out]; omega)]
      have hLl : L.length = n := by rw [hL, HF.out.spec.1]; exact HN.out.symm
      have HLe := kept hLe
      have HLl := kept hLl
      have HLL := kept hL
      have HX0 := kept hx0
      clear hLe hLl hL hx0 hB5 hg7 hcx
      go_wp2_with fail
      obtain ⟨q12, hq12⟩ : ∃ q12, q12 = W.heap.size := ⟨_, rfl⟩
      rw [← hq12]
      generalize hw7 : World.alloc W _ = w7
      have HS7 : Kept (StX B w w7 (.slice A0 65 c0) g g7 c7 l0 m q9 p (.slice (some ⟨gs, 0, none⟩) nn cs) vh (List.replicate 65 0) (sums G) (List.replicate A2 (0, 0, false, false)) D q12 1 0 2) := kept (by
        have hb : Below W.heap.size W w7 := by rw [← hw7]; exact (Below.refl _ _).alloc (Nat.le_refl _) _
        exact ⟨HS6.out.later hb, by rw [← hw7]; exact Blk.fresh_at _ _ hq12 _ _, by rw [hq12]; exact HS6.out.sz, (hb.block D (lt_of_some HDk.out)).trans HDk.out⟩)
      clear hw7 hq12 HS6 HDk
      go_loopw [12] (fun s12 wr => ∃ (d j o r q : Nat) (x : Int) (H : List Bst), s12 = .pointer (some ⟨q, 0, none⟩) ∧ d + r = m + 1 ∧ 1 ≤ d ∧ j ≤ n ∧ o ≤ 130 ∧ dp r (G.drop j) o = some x ∧ L.drop j = lens r d (G.drop j) o ∧ HGood m G H ∧
          StX B w wr (.slice A0 65 c0) g g7 c7 l0 m q9 p (.slice (some ⟨gs, 0, none⟩) nn cs) vh (scat (List.replicate 65 0) ((ordL l0).take j) (L.take j)) (sums G) H D q d j o) (fun s12 wr => m + 1 - deepOf wr s12)
      case atStart =>
        refine ⟨1, 0, 2, m, q12, x0, _, rfl, by omega, Nat.le_refl _, Nat.zero_le _, by decide, HX0.out, by rw [List.drop_zero, List.drop_zero]; exact HLe.out, ?_, by rw [List.take_zero, scat_nil]; exact HS7.out⟩
        have h := hgood_zero m G
        rw [HGl.out, ← HNN.out, ← HA2.out] at h
        exact h
      case round =>
        obtain ⟨d, j, o, r, q, x, H, rfl, hdr, hd1, hji, ho130, hdp, hLd, hGd, hst⟩ := hrel
        obtain ⟨wl, rfl⟩ : ∃ wl, wl = wr := ⟨wr, rfl⟩
        by_cases hlt : j < n
        · have hne : G.drop j ≠ [] := drop_ne (by rw [HGl.out]; exact hlt)
          obtain ⟨r, rfl⟩ : ∃ r', r = r' + 1 := by
            cases r with
            | zero => rw [dp_out hne (by omega)] at hdp; cases hdp
            | succ r => exact ⟨r, rfl⟩
          obtain ⟨ho1, hol, y, hy, hxy⟩ := dp_some hdp hne
          rw [List.length_drop, HGl.out] at hol
          have hmt := mres_take hdp hne
          obtain ⟨k, hk⟩ : ∃ k, k = Dp.take r (G.drop j) o := ⟨_, rfl⟩
          have hko : k ≤ o := by rw [hk]; exact take_le _ _ _
          rw [lens_cons hne, ← hk] at hLd
          rw [← hk] at hy hxy hmt
          obtain ⟨Y, hY⟩ : ∃ Y, Y = mres (r + 1) (G.drop j) o := ⟨_, rfl⟩
          obtain ⟨y1, y2, y3, y4⟩ := Y
          rw [← hY] at hmt
          simp only at hmt
          subst hmt
          have hcall := from_calls G m p _ _ HGs.out hm15 (r + 1) d j o H wl hst.st.tab hGd (by rw [HGl.out]; exact hji) ho130 hd1 hdr
          unfold FromE at hcall
          rw [← hY] at hcall
          simp only [bstV] at hcall
          have hLdi : ∀ i, i < k → L.getD (j + i) 0 = d := fun i hi => by
            have h := congrArg (fun t : List Nat => t.getD i 0) hLd
            simp only [List.getD_eq_getElem?_getD, List.getElem?_drop] at h
            rw [List.getElem?_append_left (by simpa using hi), List.getElem?_replicate, if_pos hi] at h
            simpa [List.getD_eq_getElem?_getD] using h
          have hLd2 : L.drop (j + k) = lens r (d + 1) (G.drop (j + k)) (2 * (o - k)) := by
            have h := congrArg (List.drop k) hLd
            rw [List.drop_left' (by simp)] at h
            simp only [List.drop_drop] at h
            exact h
          rw [List.drop_drop] at hy
          have hcap : n ≤ c7 := by
            obtain ⟨gx, cx, he, hle, _⟩ := (hst.st.many.own 1 _ _ rfl).row (by intro e; have := congrArg List.length e; rw [length_idx] at this; have h2 := HN.out; simp at this; rw [this] at h2; simp at h2; omega)
            simp only [Value.slice.injEq] at he
            rw [length_idx] at hle
            have := HN.out; omega
          have p9 := hst.st.ptr.cell (i := 0) rfl
          have m0 := hst.node.cell (i := 0) rfl
          have m1 := hst.node.cell (i := 1) rfl
          have m2 := hst.node.cell (i := 2) rfl
          have HDw := kept (show deepOf wl (.pointer (some ⟨q, 0, none⟩)) = d from deepOf_is hst.node)
          have HC1 := kept hcall
          have HSl := kept hst
          have HY := kept hy
          have HLdi := kept hLdi
          have HLd2 := kept hLd2
          have hjc : (j : Int) < (c7 : Int) := by omega
          have hjkc : (j : Int) + (k : Int) ≤ (c7 : Int) := by omega
          have hjkn : j + k ≤ n := by omega
          have hd16 : d ≤ 16 := by omega
          have ho66 : o ≤ 65 := by omega
          clear hst hcall hy hLdi hLd2 hLd hdp hxy hk hY hne hGd hol
          go_upto_block 4 with (first | (go_at_call 22; refine HC1.out.mono ?_; rintro e w2 ⟨rfl, H2, hT2, hG2, hC2⟩; have HS2 := kept (HSl.out.told hT2 hC2); have HG2 := kept hG2; have HS8 := kept (HS2.out.later ((Below.refl _ _).alloc (Nat.le_refl _) (.cells #[.int .i64 y1, .int .i64 (k : Int), .bool y3, .bool y4] 57))); have m1 := HS8.out.node.cell (i := 1) rfl; clear hT2 hG2 hC2))
          obtain ⟨q13, hq13⟩ : ∃ q13, q13 = w2.heap.size := ⟨_, rfl⟩
          rw [← hq13]
          generalize hw8 : World.alloc w2 _ = w8 at HS8 ⊢
          have HB8 : Kept (Blk w8 q13 #[.int .i64 y1, .int .i64 (k : Int), .bool y3, .bool y4] 57) := kept (by rw [← hw8]; exact Blk.fresh_at _ _ hq13 _ _)
          clear hw8 hq13 HS2 HSl m1
          go_wp2_with fail
          go_loopw [92] (fun s92 wr => ∃ i : Nat, i ≤ k ∧ s92 = .int .i64 (i : Int) ∧ Blk wr q13 #[.int .i64 y1, .int .i64 (k : Int), .bool y3, .bool y4] 57 ∧
              StX B w wr (.slice A0 65 c0) g g7 c7 l0 m q9 p (.slice (some ⟨gs, 0, none⟩) nn cs) vh (scat (List.replicate 65 0) ((ordL l0).take (j + i)) (L.take (j + i))) (sums G) H2 D q d j o) (fun s92 _ => k - (intOf s92).toNat)
          case atStart => exact ⟨0, Nat.zero_le _, rfl, HB8.out, HS8.out⟩
          case round =>
            obtain ⟨i, hik, rfl, hb13, hst⟩ := hrel
            obtain ⟨wi, rfl⟩ : ∃ wi, wi = wr := ⟨wr, rfl⟩
            by_cases hlt2 : i < k
            · obtain ⟨c, hc⟩ : ∃ c, c = (ordL l0).getD (j + i) 0 := ⟨_, rfl⟩
              have hio : j + i < (ordL l0).length := by rw [← HN.out]; omega
              have hc65 : c < 65 := by have h := (mem_ordL.1 (show c ∈ ordL l0 by rw [hc]; simp [List.getD_eq_getElem?_getD, hio])).1; rw [HL.out] at h; exact h
              have c7i := hst.st.ordAt (j + i) hio
              rw [← hc] at c7i
              have d0 := hst.node.cell (i := 0) rfl
              have hxl : (scat (List.replicate 65 0) ((ordL l0).take (j + i)) (L.take (j + i))).length = 65 := by rw [length_scat]; simp
              have co := hst.st.out.cell (j := c) (Own.ints_at .i64 _ c (by rw [hxl]; exact hc65))
              have fo := hst.st.out.free c
              have hnx : scat (List.replicate 65 0) ((ordL l0).take (j + i + 1)) (L.take (j + i + 1)) = (scat (List.replicate 65 0) ((ordL l0).take (j + i)) (L.take (j + i))).set c (d : Int) := by
                rw [scat_take _ _ _ _ hio (by rw [HLl.out]; omega), ← hc, HLdi.out i hlt2]
              have hs2 := hst.storeOut c (d : Int)
              rw [← hnx] at hs2
              have hb2 : Blk (wi.setCell ⟨g, c, none⟩ (.int .i64 (d : Int))) q13 #[.int .i64 y1, .int .i64 (k : Int), .bool y3, .bool y4] 57 := by
                obtain ⟨cur, hbg⟩ := hst.st.out.blk g rfl
                exact hb13.setOther (hb13.ne hbg (by decide)) _
              obtain ⟨z0, hz0e⟩ : ∃ z0, z0 = (scat (List.replicate 65 0) ((ordL l0).take (j + i)) (L.take (j + i))).getD c 0 := ⟨_, rfl⟩
              rw [← hz0e] at co
              have HN2 := kept hs2
              have HB2 := kept hb2
              have hc65' : (c : Int) < 65 := by omega
              clear hst hnx hs2 hb2 hb13 hxl hio hc hz0e
              go_wp2_with fail
              go_roundw
              case rel => exact ⟨i + 1, by omega, by go_num, HB2.out, HN2.out⟩
              case measure => simp [intOf]; omega
            · have hie : i = k := by omega
              subst hie
              have b1 := hb13.cell (i := 1) rfl
              have n0 := hst.node.cell (i := 0) rfl
              have n1 := hst.node.cell (i := 1) rfl
              have n2 := hst.node.cell (i := 2) rfl
              have f0 := hst.node.free 0
              have f1 := hst.node.free 1
              have f2 := hst.node.free 2
              obtain ⟨q2, hq2⟩ : ∃ q2, q2 = wi.heap.size := ⟨_, rfl⟩
              obtain ⟨W2, hW2⟩ : ∃ W2, W2 = ((wi.setCell ⟨q, 0, none⟩ (.int .i64 ((d + 1 : Nat) : Int))).setCell ⟨q, 1, none⟩ (.int .i64 ((j + i : Nat) : Int))).setCell ⟨q, 2, none⟩ (.int .i64 ((2 * (o - i) : Nat) : Int)) := ⟨_, rfl⟩
              obtain ⟨hn1, hn2, hn3⟩ := hst.next (d + 1) (j + i) (2 * (o - i)) q2 hq2 W2 hW2
              rw [show ((d + 1 : Nat) : Int) = (d : Int) + 1 by omega, show ((j + i : Nat) : Int) = (j : Int) + (i : Int) by omega, show ((2 * (o - i) : Nat) : Int) = 2 * ((o : Int) - (i : Int)) by omega] at hW2 hn1
              have hn3' := hn3
              rw [show ((d + 1 : Nat) : Int) = (d : Int) + 1 by omega, show ((j + i : Nat) : Int) = (j : Int) + (i : Int) by omega, show ((2 * (o - i) : Nat) : Int) = 2 * ((o : Int) - (i : Int)) by omega] at hn3'
              have HN3 := kept hn3'
              have HW2 := kept hW2
              have HQ2 := kept (And.intro hq2 hn2)
              have u0 := hn1.cell (i := 0) rfl
              have u1 := hn1.cell (i := 1) rfl
              have u2 := hn1.cell (i := 2) rfl
              rw [hW2] at u0 u1 u2
              clear hst hb13 hn1 hn3 hn3' hn2 hq2 hlt2
              go_wp2_with fail
              go_roundw
              case rel => exact ⟨d + 1, j + i, 2 * (o - i), r, q2, y, H2, by rw [HQ2.out.1], by omega, by omega, hjkn, by omega, HY.out, HLd2.out, HG2.out, by have h := HN3.out; rw [HW2.out] at h; exact h⟩
              case measure =>
                have h1 := deepOf_is HN3.out.node
                rw [HW2.out, HQ2.out.1] at h1
                show m + 1 - deepOf _ (Value.pointer (some ⟨wi.heap.size, 0, none⟩)) < m + 1 - deepOf wl (Value.pointer (some ⟨q, 0, none⟩))
                rw [h1, HDw.out]
                omega
        · have hje : j = n := by omega
          subst hje
          have hc1 := hst.node.cell (i := 1) rfl
          have hLen : lenL l0 m = scat (List.replicate 65 0) ((ordL l0).take j) (L.take j) := by
            rw [List.take_of_length_le (by rw [← HN.out]; exact Nat.le_refl _), List.take_of_length_le (by rw [HLl.out]; exact Nat.le_refl _), HLL.out]; rfl
          have HLn := kept hLen
          have HT := kept (hst.st.turn (grownBy_putObj' wl D (.deferred none)) (fun r e => by cases e; exact ⟨HDB.out, _, hst.dk, rfl⟩) (Nat.le_refl _))
          have HDk := kept hst.dk
          clear hst hLen hdp hLd hGd hlt
          go_wp2_with fail
          refine ⟨by simp, .inl ⟨_, _, rfl, run_takeDeferred HDk.out, ?_⟩⟩
          exact ⟨_, results_tmp2 rfl _ _ _, _, rfl, by rw [HLn.out]; exact HT.out.out, by rw [← HB.out]; exact HT.out.many.new 0 _ _ rfl, by rw [← HB.out]; exact HT.out.low⟩
end Go.Proofs.Ytejecpmfhgplmaa

-- ---- Kd
/- Between the print's words for rows and those of this claim's own texts. No program in sight. -/
namespace Go.Proofs.Ytejecpmfhgplmaa.Own
set_option linter.unusedSimpArgs false
set_option linter.unusedVariables false
open Go Go.RowKit Go.Proofs.YtejecpmfhgplmaaW.PrintWords

theorem rd_of_C {k : IntKind} {w : World} {A : Option Addr} {n : Nat} {xs : List Int} (h : Kd.C (Kd.int k) w A n xs) : Rd w (.slice A n n) (ints k xs) := by
  obtain ⟨h1, h2, h3⟩ := h
  subst h1
  refine ⟨A, xs.length, by rw [length_ints], by rw [length_ints]; exact Nat.le_refl _, h2, fun i u hu => ?_⟩
  have hi : i < xs.length := by have := (List.getElem?_eq_some_iff.1 hu).1; rwa [length_ints] at this
  obtain ⟨ad, rfl, hc⟩ := h3 (by omega)
  obtain ⟨c, hcl, hK, hcell⟩ := hc i _ (List.getElem?_eq_getElem hi)
  refine ⟨ad, rfl, ?_⟩
  have hK2 : c = [.int k xs[i]] := hK
  have := hcell 0 (.int k xs[i]) (by rw [hK2]; rfl)
  have e : u = .int k xs[i] := by
    unfold ints at hu; rw [List.getElem?_map, List.getElem?_eq_getElem hi] at hu; simp at hu; exact hu.symm
  rw [e]; simpa [Kd.int, Kd.scalar] using this

theorem C_of_rd {k : IntKind} {w : World} {A : Option Addr} {n c : Nat} {xs : List Int} (h : Rd w (.slice A n c) (ints k xs)) : Kd.C (Kd.int k) w A n xs := by
  obtain ⟨a, cap, hv, h1, h2, hc⟩ := h
  simp only [Value.slice.injEq, length_ints] at hv h1
  obtain ⟨rfl, rfl, rfl⟩ := hv
  refine ⟨rfl, by simp only [maxLen] at h2; omega, fun h0 => ?_⟩
  obtain ⟨x, hx, _⟩ := hc 0 _ (ints_at k xs 0 (by omega))
  refine ⟨x, hx, fun i y hy => ?_⟩
  have hi : i < xs.length := (List.getElem?_eq_some_iff.1 hy).1
  obtain ⟨x2, hx2, hcell⟩ := hc i _ (ints_at k xs i hi)
  rw [hx] at hx2; cases hx2
  have e : xs.getD i 0 = y := by rw [List.getD_eq_getElem?_getD, hy]; rfl
  rw [e] at hcell
  refine ⟨[.int k y], rfl, rfl, fun j u hj => ?_⟩
  match j, hj with
  | 0, hj => simp at hj; subst hj; simpa [Kd.int, Kd.scalar] using hcell

theorem own_low {w : World} {base e size n : Nat} {v : Value} {xs : List Value} (h : w.ownsRow 0 e size v n xs) (hb : ∀ g, v.ownBlock = some g → base ≤ g) : w.ownsRow base e size v n xs := by
  refine ⟨h.1, ?_⟩
  rcases h.2 with hn | ⟨g, cap, cur, rfl, _, r⟩
  · exact .inl hn
  · exact .inr ⟨g, cap, cur, rfl, hb g rfl, r⟩

/-- A row of elements, their cells one behind the other. -/
theorem R_of_flat {α : Type} (d : Kd α) (enc : α → List Value) {e : Nat} {w : World} {base : Nat} {v : Value} {xs : List α} (hM : ∀ ok x, d.M w base ok x (enc x)) (hl : ∀ x, (enc x).length = d.sz)
    (h : w.ownsRow 0 e d.sz v xs.length (xs.flatMap enc)) (hb : ∀ g, v.ownBlock = some g → base ≤ g) : Kd.R d e w base (fun _ => True) v xs := by
  refine ⟨fun _ _ => trivial, xs.flatMap enc, own_low h hb, ?_⟩
  have key : ∀ (xs : List α), (xs.flatMap enc).length = xs.length * d.sz ∧ ∀ j p, xs[j]? = some p → ((xs.flatMap enc).drop (j * d.sz)).take d.sz = enc p := by
    intro xs
    induction xs with
    | nil => exact ⟨by simp, fun j p hj => by simp at hj⟩
    | cons a t ih =>
      have ha := hl a
      refine ⟨by rw [List.flatMap_cons, List.length_append, ih.1, ha, List.length_cons, Nat.succ_mul]; omega, fun j p hj => ?_⟩
      rw [List.flatMap_cons]
      cases j with
      | zero => simp at hj; subst hj; rw [Nat.zero_mul, List.drop_zero]; exact List.take_left' ha
      | succ j =>
        have e2 : (j + 1) * d.sz = (enc a).length + j * d.sz := by rw [ha, Nat.succ_mul]; omega
        rw [e2, ← List.drop_drop, List.drop_left]
        exact ih.2 j p (by simpa using hj)
  exact ⟨(key xs).1, fun j p hj => by rw [(key xs).2 j p hj]; exact hM _ p⟩

theorem flat_ints (k : IntKind) (xs : List Int) : xs.flatMap (fun x => [Value.int k x]) = ints k xs := by
  unfold ints; induction xs with
  | nil => rfl
  | cons a t ih => simp [ih]
theorem R_of_owns {k : IntKind} {e : Nat} {w : World} {base : Nat} {v : Value} {xs : List Int} (h : Owns w e v (ints k xs)) (hb : ∀ g, v.ownBlock = some g → base ≤ g) : Kd.R (Kd.int k) e w base (fun _ => True) v xs := by
  refine R_of_flat (Kd.int k) (fun x => [Value.int k x]) (fun ok x => rfl) (fun _ => rfl) ?_ hb
  rw [flat_ints]
  have h2 : w.ownsRow 0 e 1 v (ints k xs).length (ints k xs) := h
  rwa [length_ints] at h2
theorem owns_of_R {k : IntKind} {e : Nat} {w : World} {base : Nat} {ok : Nat → Prop} {v : Value} {xs : List Int} (h : Kd.R (Kd.int k) e w base ok v xs) : Owns w e v (ints k xs) ∧ ∀ g, v.ownBlock = some g → base ≤ g := by
  obtain ⟨_, inner, ho, hl, hr⟩ := h
  have e1 : inner = ints k xs := by
    apply List.ext_getElem
    · rw [length_ints, hl]; simp [Kd.int, Kd.scalar]
    · intro i h1 h2
      rw [length_ints] at h2
      have h3 := hr i _ (List.getElem?_eq_getElem h2)
      have h4 : (inner.drop (i * 1)).take 1 = [Value.int k xs[i]] := h3
      rw [Nat.mul_one, List.drop_eq_getElem_cons h1] at h4
      simp only [List.take_succ_cons, List.take_zero, List.cons.injEq, and_true] at h4
      rw [h4]; simp [ints]
  subst e1
  refine ⟨?_, fun g hg => (World.ownsRow.lt ho g hg).1⟩
  have h2 : w.ownsRow base e 1 v xs.length (ints k xs) := ho
  refine ⟨by simp, ?_⟩
  rcases h2.2 with ⟨hv, hn⟩ | ⟨g, cap, cur, hv, _, r⟩
  · left; exact ⟨hv, by simpa using hn⟩
  · right; exact ⟨g, cap, cur, by simpa using hv, Nat.zero_le _, by simpa using r⟩
end Go.Proofs.Ytejecpmfhgplmaa.Own

-- ---- Le
/- The answer of both lengths. No program in sight. -/
namespace Go.Proofs.Ytejecpmfhgplmaa.PA
/-- The answer. -/
def lenE (l : List Int) (a : Int) : List Int × Int := if fqB l a = true then (Dp.lenL l a.toNat, 0) else ([], 1)
/-- A cost, as both reckon it: of the first i. -/
def costA (a b : List Int) : Nat → Int
  | 0 => 0
  | i + 1 => Go.RowKit.wrap64 (costA a b i + Go.RowKit.wrap64 (a.getD i 0 * b.getD i 0))
def costW (a b : List Int) : Int := costA a b (min a.length b.length)
end Go.Proofs.Ytejecpmfhgplmaa.PA

-- ---- PAx13
/- merge.Lengths: what the call answers, for every list and limit. Conditions: the list's length fits a slice. -/
namespace Go.Proofs.Ytejecpmfhgplmaa.PA
open Go.RowKit Go.Proofs.YtejecpmfhgplmaaW.PrintWords Go.Proofs.YtejecpmfhgplmaaW.PrintLast Go.Proofs.YtejecpmfhgplmaaW.PrintMore
set_option linter.unusedVariables false
set_option linter.unusedSimpArgs false

def merge_Lengths.f (l0 : List Int) (a1 : Int) : Option (List Int × Int) := if l0.length < 200000000000000 then some (lenE l0 a1) else none
theorem merge_Lengths.calls (A0 : Option Addr) (c0 : Nat) (l0 : List Int) (a1 : Int) (r1 : List Int) (r2 : Int) (w : World) (hr0 : Kd.C (Kd.int .i64) w A0 l0.length l0) (hc0 : l0.length ≤ c0) (h : merge_Lengths.f l0 a1 = some (r1, r2)) :
    Calls Try.prog 11 #[.slice A0 l0.length c0, .int .i64 a1] w fun e w' => ∃ v0_ : Value, e = .returned (.tuple #[v0_, .int .i64 r2]) ∧ Kd.R (Kd.int .i64) 3 w' w.heap.size (fun _ => True) v0_ r1 ∧ Below w.heap.size w w' := by
  unfold merge_Lengths.f at h
  split at h
  · rename_i hn
    have h := Option.some.inj h
    unfold lenE at h
    have hR := Own.rd_of_C hr0
    split at h
    · rename_i hg
      obtain ⟨rfl, rfl⟩ := Prod.mk.inj h
      obtain ⟨m, rfl, hf⟩ := (fqB_iff l0 a1).1 hg
      have h65 := hf.len
      rw [h65] at hR ⊢
      have both : Calls Try.prog 11 #[.slice A0 65 c0, .int .i64 (m : Int)] w (MLenE l0 m w) := by
        rcases Nat.lt_or_ge (Ol.ordL l0).length 2 with h2 | h2
        · exact mlen_small A0 c0 l0 m w hR hf h2
        · exact mlen_ok A0 c0 l0 m w hR hf h2
      refine both.mono ?_
      rintro e w' ⟨v, rfl, ho, hnew, hb⟩
      exact ⟨v, rfl, Own.R_of_owns (by rw [Int.toNat_natCast]; exact ho) hnew, hb⟩
    · rename_i hg
      obtain ⟨rfl, rfl⟩ := Prod.mk.inj h
      refine (mlen_bad A0 l0.length c0 l0 a1 w hR hn hg).mono ?_
      rintro e w' ⟨rfl, hb⟩
      exact ⟨_, rfl, Kd.R_nil _ _ _ _ _, hb⟩
  · cases h
end Go.Proofs.Ytejecpmfhgplmaa.PA

-- ---- PAx14

namespace Go.Proofs.Ytejecpmfhgplmaa.PA
open Go.RowKit Go.Proofs.YtejecpmfhgplmaaW.PrintWords Go.Proofs.YtejecpmfhgplmaaW.PrintLast Go.Proofs.YtejecpmfhgplmaaW.PrintMore
attribute [local go_sem] max2_int min2_int max_two min_two max_three min_three max_four min_four   -- for this text's walks alone
set_option linter.unusedVariables false
set_option linter.unusedSimpArgs false

/-! ### wringerlaw1_Err: function 14 -/
def wringerlaw1_Err.f (a0 : Int) : Option (Int) := some a0
set_option maxHeartbeats 8000000 in
set_option maxRecDepth 100000 in
theorem wringerlaw1_Err.calls (a0 : Int) (r : Int) (w : World) (h : wringerlaw1_Err.f a0 = some r) :
    Calls Try.prog 14 #[.int .i64 a0] w fun e w' => e = .returned (.int .i64 r) ∧ Drawn0 w w' := by
  have H : (some a0) = some r := h
  clear h
  obtain rfl := Option.some.inj H
  go_enter Try.func14, Try.ntmps14
  go_wp2
  go_ret
  exact ⟨by first | rfl | (simp; done) | (simp [*]; done), by repeat (first | exact Drawn0.refl _ | apply Drawn0.step)⟩

end Go.Proofs.Ytejecpmfhgplmaa.PA

-- ---- PAx15
/- merge.Cost: what the call answers, for every two lists. Conditions: the lists' lengths fit a slice. -/
namespace Go.Proofs.Ytejecpmfhgplmaa.PA
open Go.RowKit Go.Proofs.YtejecpmfhgplmaaW.PrintWords Go.Proofs.YtejecpmfhgplmaaW.PrintLast Go.Proofs.YtejecpmfhgplmaaW.PrintMore
set_option linter.unusedVariables false
set_option linter.unusedSimpArgs false
attribute [local go_sem] Own.max_int Own.min_int

def merge_Cost.f (l0 : List Int) (l1 : List Int) : Option (Int) := if l0.length < 200000000000000 then some (costW l0 l1) else none
set_option maxHeartbeats 2000000 in
theorem merge_Cost.walk (A0 : Option Addr) (n0 c0 : Nat) (l0 : List Int) (A1 : Option Addr) (n1 c1 : Nat) (l1 : List Int) (w : World) (h0 : Own.Rd w (.slice A0 n0 n0) (Own.ints .i64 l0)) (h1 : Own.Rd w (.slice A1 n1 n1) (Own.ints .i64 l1)) (hn : n0 < 200000000000000) :
    Calls Try.prog 15 #[.slice A0 n0 c0, .slice A1 n1 c1] w fun e w' => e = .returned (.int .i64 (costW l0 l1)) ∧ Drawn0 w w' := by
  have e0 : l0.length = n0 := by have := h0.length; rw [Own.length_ints] at this; exact this.symm
  have e1 : l1.length = n1 := by have := h1.length; rw [Own.length_ints] at this; exact this.symm
  obtain ⟨N, hN⟩ : ∃ N, N = min n0 n1 := ⟨_, rfl⟩
  have hmn : Own.mn (n0 : Int) (n1 : Int) = (N : Int) := by rw [Own.mn_eq]; omega
  have hN0 : N ≤ n0 := by omega
  have hN1 : N ≤ n1 := by omega
  have HR := Own.kept (show costW l0 l1 = costA l0 l1 N by unfold costW; rw [e0, e1, hN])
  have H0 := Own.kept h0
  have H1 := Own.kept h1
  have E0 := Own.kept e0
  have E1 := Own.kept e1
  clear h0 h1 e0 e1 hN
  go_enter Try.func15, Try.ntmps15
  go_wp2_with fail
  clear hmn
  go_loopw [5, 12] (fun s5 s12 wr => ∃ i : Nat, i ≤ N ∧ s12 = .int .i64 (i : Int) ∧ s5 = .int .i64 (costA l0 l1 i) ∧ Drawn0 w wr) (fun _ s12 _ => N - (intOf s12).toNat)
  case atStart => exact ⟨0, Nat.zero_le _, rfl, rfl, Drawn0.refl _⟩
  case round =>
    obtain ⟨i, hi, rfl, rfl, hd⟩ := hrel
    obtain ⟨wq, rfl⟩ : ∃ wq, wq = wr := ⟨wr, rfl⟩
    obtain ⟨S, hS⟩ : ∃ S, S = costA l0 l1 i := ⟨_, rfl⟩
    rw [← hS]
    by_cases hlt : i < N
    · have hb := hd.below
      obtain ⟨x0, rfl, k0⟩ := (H0.out.later hb).at (Own.ints_at .i64 l0 i (by rw [E0.out]; omega))
      obtain ⟨x1, rfl, k1⟩ := (H1.out.later hb).at (Own.ints_at .i64 l1 i (by rw [E1.out]; omega))
      obtain ⟨y0, hy0⟩ : ∃ y, y = l0.getD i 0 := ⟨_, rfl⟩
      obtain ⟨y1, hy1⟩ : ∃ y, y = l1.getD i 0 := ⟨_, rfl⟩
      rw [← hy0] at k0
      rw [← hy1] at k1
      have HNx := Own.kept (show costA l0 l1 (i + 1) = wrap64 (S + wrap64 (y0 * y1)) by rw [hS, hy0, hy1]; rfl)
      have HD := Own.kept hd
      have hi0 : (i : Int) < (n0 : Int) := by omega
      have hi1 : (i : Int) < (n1 : Int) := by omega
      clear hd hb hy0 hy1 hS
      go_wp2_with fail
      go_quiet (fail)
      go_wp2_with fail
      go_roundw
      case rel => exact ⟨i + 1, by omega, by go_num, by rw [HNx.out], HD.out.step _⟩
      case measure => simp [intOf]; omega
    · have hie : i = N := by omega
      subst hie
      have HS := Own.kept hS
      have HD := Own.kept hd
      clear hd hS
      go_wp2_with fail
      go_ret
      exact ⟨by rw [HR.out, ← HS.out]; rfl, HD.out⟩
theorem merge_Cost.calls (A0 : Option Addr) (c0 : Nat) (l0 : List Int) (A1 : Option Addr) (c1 : Nat) (l1 : List Int) (r : Int) (w : World) (hr0 : Kd.C (Kd.int .i64) w A0 l0.length l0) (hc0 : l0.length ≤ c0) (hr1 : Kd.C (Kd.int .i64) w A1 l1.length l1) (hc1 : l1.length ≤ c1) (h : merge_Cost.f l0 l1 = some r) :
    Calls Try.prog 15 #[.slice A0 l0.length c0, .slice A1 l1.length c1] w fun e w' => e = .returned (.int .i64 r) ∧ Drawn0 w w' := by
  unfold merge_Cost.f at h
  split at h
  · rename_i hn
    obtain rfl := Option.some.inj h
    exact merge_Cost.walk A0 l0.length c0 l0 A1 l1.length c1 l1 w (Own.rd_of_C hr0) (Own.rd_of_C hr1) hn
  · cases h
end Go.Proofs.Ytejecpmfhgplmaa.PA
