/- Part CanonTurned3 of what the layer's laws stand on: Ro, Re, Rf, Mo, Rg, Le, PAx18, CanonTurned, LawCanonTurned. Written by a program (merge.py) out of this session's own texts and of what the kit's print wrote over stand-ins (sp.py). Conditions: those that each theorem names. -/
import Derived.Test.YtkdmamffbhlbgaaProg
import Derived.Test.YtkdmamffbhlbgaaQCanonTurned1
import Derived.Test.YtkdmamffbhlbgaaQCanonTurned2
import Derived.WalkSpells
import Derived.WalkLawsBesides
import Derived.BigQuiet
import Derived.Lib.Hide
import Derived.Deep.DeepCutAuto
import Derived.OpenShut
import Derived.Deep.CutBlock
import Derived.Test.YtkdmamffbhlbgaaRows
import Derived.WalkKit
import Derived.ProofKit
import Derived.ShutString
import Derived.ChangeOld
import Derived.Below
import Derived.SizedLaws
-- ---- Ro
/- The document's order of places. -/
namespace Go.Proofs.Ytkdmamffbhlbgaa
set_option linter.unusedSimpArgs false
set_option linter.unusedVariables false
open Go.RowKit Mix _root_.Go.Proofs.Ytkdmamffbhlbgaa.Own Ol
attribute [local go_sem] max_int min_int

theorem infoI64 : (Try.prog.info? 3).map (fun i => (i.zero, i.size, i.bytes)) = some (some (.int .i64 0), 1, 8) := by kernel_rfl
theorem info_partsI {i : Option TypeInfo} {z : Value} {s b : Nat} (h : i.map (fun i => (i.zero, i.size, i.bytes)) = some (some z, s, b)) : ∃ i0, i = some i0 ∧ i0.zero = some z ∧ i0.size = s ∧ i0.bytes = b := by
  cases i with
  | none => simp at h
  | some i => simp at h; exact ⟨i, rfl, h.1, h.2.1, h.2.2⟩

/-- Places as values. -/
def idx (l : List Nat) : List Value := l.map fun i : Nat => .int .i64 (i : Int)
@[simp] theorem length_idx (l : List Nat) : (idx l).length = l.length := by simp [idx]
theorem idx_at (l : List Nat) (i : Nat) (h : i < l.length) : (idx l)[i]? = some (.int .i64 ((l.getD i 0 : Nat) : Int)) := by
  simp [idx, List.getD_eq_getElem?_getD, h]
theorem idx_drop (l : List Nat) (k : Nat) : idx (l.drop k) = (idx l).drop k := by simp [idx, List.map_drop]
theorem idx_take (l : List Nat) (k : Nat) : idx (l.take k) = (idx l).take k := by simp [idx, List.map_take]
theorem one_idx (l : List Nat) : ∀ u ∈ idx l, u.oneCell' = true := by
  intro u hu; obtain ⟨n, _, rfl⟩ := List.mem_map.1 hu; rfl

/-- What holds of the row of places, on the way. -/
structure RowO (B : Nat) (w wr : World) (v : Value) (l : List Nat) : Prop where
  own : Owns wr 3 v (idx l)
  new : ∀ g, v.ownBlock = some g → B ≤ g
  low : Below B w wr

theorem rd_cap {w : World} {a : Option Addr} {n c : Nat} {xs : List Value} (h : Rd w (.slice a n c) xs) (c' : Nat) (h1 : n ≤ c') (h2 : c' ≤ maxLen) : Rd w (.slice a n c') xs := by
  obtain ⟨_, _, hv, h3, h4, hc⟩ := h
  simp only [Value.slice.injEq] at hv
  obtain ⟨rfl, rfl, rfl⟩ := hv
  exact ⟨_, _, rfl, h1, h2, hc⟩
/-- What stands ahead of a place, full; what stands from a place on. -/
theorem row_parts {w : World} {a : Option Addr} {cap : Nat} {o : List Nat} (h : Owns w 3 (.slice a o.length cap) (idx o)) (k : Nat) (hk : k ≤ o.length) :
    Rd w (.slice a k k) (idx (o.take k)) ∧ Rd w (.slice (if cap = k then a else a.map fun x => x.add k) (o.length - k) (cap - k)) (idx (o.drop k)) ∧ ((if cap = k then a else a.map fun x => x.add k) = none → cap - k = 0) := by
  have hr := h.rd
  have hcm : o.length ≤ cap ∧ cap ≤ maxLen ∧ (a = none → cap = 0) := by
    rcases h.form with ⟨hv, hx⟩ | ⟨g, cap', cur, hv, _, h1, h2, _⟩
    · simp only [Value.slice.injEq] at hv; obtain ⟨rfl, h0, rfl⟩ := hv; rw [h0]; exact ⟨Nat.le_refl _, Nat.zero_le _, fun _ => rfl⟩
    · simp only [Value.slice.injEq, length_idx] at hv h1; obtain ⟨rfl, _, rfl⟩ := hv; exact ⟨h1, h2, fun e => by cases e⟩
  refine ⟨?_, ?_, fun e => ?_⟩
  · have := hr.take k hk
    rw [← idx_take] at this
    exact rd_cap this k (Nat.le_refl _) (by omega)
  · have := hr.sub k (o.length - k) (by omega)
    rw [← idx_drop, show k + (o.length - k) - k = o.length - k by omega] at this
    rwa [List.take_of_length_le (by simp)] at this
  · split at e
    · omega
    · cases a with
      | none => have := hcm.2.2 rfl; omega
      | some x => cases e

set_option maxHeartbeats 8000000 in
theorem rorder_calls (a : Option Addr) (n c : Nat) (l : List Int) (w : World) (hR : Rd w (.slice a n n) (ints .i64 l)) (hn : n ≤ 100000) :
    Calls Try.prog 20 #[.slice a n c] w fun e w' => ∃ v, e = .returned v ∧ RowO w.heap.size w w' v (ordL l) := by
  have hln : l.length = n := by have := hR.length; rw [length_ints] at this; exact this.symm
  obtain ⟨i0, hi, hz0, hz1, hz2⟩ := info_partsI infoI64
  have HR := kept hR
  have HL := kept hln
  have HN := kept hn
  obtain ⟨B, hB⟩ : ∃ B, B = w.heap.size := ⟨_, rfl⟩
  rw [← hB]
  have HB := kept hB
  clear hR hln hn hB
  go_enter Try.func20, Try.ntmps20
  go_wp2_with fail
  go_loopw [3, 4] (fun s3 s4 wr => ∃ i : Nat, i ≤ n ∧ s4 = .int .i64 (i : Int) ∧ ∃ v3, v3 = s3 ∧ RowO B w wr v3 (ordN l i)) (fun s3 s4 _ => n - (intOf s4).toNat)
  case atStart => exact ⟨0, Nat.zero_le _, rfl, _, rfl, Owns.nil _ _, fun g hg => by simp [Value.ownBlock] at hg, by have := HB.out; subst this; exact Below.refl _ _⟩
  case round =>
    obtain ⟨i, hi2, rfl, v3, rfl, hro⟩ := hrel
    obtain ⟨wo, rfl⟩ : ∃ wo, wo = wr := ⟨wr, rfl⟩
    have hn5 := HN.out
    have hlow := hro.low
    have hRd := HR.out.below hlow (by rw [HB.out]; exact HR.out.lt)
    by_cases hlt : i < n
    · have hil : i < l.length := by rw [HL.out]; exact hlt
      obtain ⟨x, rfl, hc⟩ := hRd.at (Own.ints_at .i64 l i hil)
      obtain ⟨y, hy⟩ : ∃ y, y = l.getD i 0 := ⟨_, rfl⟩
      rw [← hy] at hc
      have HRd := kept hRd
      have HRo := kept hro
      have HY := kept hy
      clear hRd hro hy hlow
      by_cases hpos : 0 < y
      · have p0 : ¬ y ≤ 0 := by omega
        obtain ⟨o, ho⟩ : ∃ o, o = ordN l i := ⟨_, rfl⟩
        rw [← ho] at HRo
        have hol : o.length ≤ i := by rw [ho]; exact length_ordN l i
        obtain ⟨a1, cap1, rfl, hrow⟩ := HRo.out.own.slice
        simp only [length_idx] at HRo ⊢
        have hcapm : cap1 ≤ maxLen ∧ o.length ≤ cap1 := by
          rcases HRo.out.own.form with ⟨hv, _⟩ | ⟨g, cap, cur, hv, _, h1, h2, _⟩
          · simp at hv; simp [hv]
          · simp at hv; rw [hv.2]; exact ⟨h2, by simpa using h1⟩
        simp only [maxLen] at hcapm
        have hmem : ∀ j, j ∈ o → j < i ∧ 0 < l.getD j 0 := fun j hj => by rw [ho] at hj; exact mem_ordN.1 hj
        have HO := kept ho
        have HM := kept hmem
        clear ho hmem hrow
        obtain ⟨hcm, hoc⟩ := hcapm
        go_wp2_with fail
        go_loopw [5] (fun s5 wq => ∃ k : Nat, k ≤ o.length ∧ s5 = .int .i64 (k : Int) ∧ Below wo.heap.size wo wq ∧ (∀ j ∈ o.drop k, l.getD j 0 < y)) (fun s5 _ => (intOf s5).toNat)
        case atStart => exact ⟨o.length, Nat.le_refl _, rfl, Below.refl _ _, by simp⟩
        case round =>
          obtain ⟨k, hk, rfl, hbq, hall⟩ := hrel
          obtain ⟨wq, rfl⟩ : ∃ wq, wq = wr := ⟨wr, rfl⟩
          have HBq := kept hbq
          have HRo2 : Kept (RowO B w wq (.slice a1 o.length cap1) o) := kept ⟨HRo.out.own.keep fun g _ hg => hbq.block g hg, HRo.out.new, HRo.out.low.trans (hbq.mono (by have h1 := HRo.out.low.size; have h2 := HB.out; omega))⟩
          have HRd2 := kept (HRd.out.later hbq)
          have HAll := kept hall
          have hcq : wq.cell? (x.add i) = some (.int .i64 y) := by rw [← hc]; exact hbq.cell (World.block_lt_of_cell? wo _ hc)
          clear hbq hall
          by_cases hk0 : 0 < k
          · have hkl : k - 1 < o.length := by omega
            obtain ⟨g1, rfl⟩ : ∃ g1, a1 = some ⟨g1, 0, none⟩ := by
              obtain ⟨a', cap', hv, hg⟩ := HRo2.out.own.slice
              simp at hv
              rw [hv.1]; exact hg (by intro e; have := congrArg List.length e; simp at this; rw [this] at hkl; simp at hkl)
            have hco := HRo2.out.own.cell (idx_at o (k - 1) hkl)
            obtain ⟨q, hq⟩ : ∃ q, q = o.getD (k - 1) 0 := ⟨_, rfl⟩
            rw [← hq] at hco
            have hqm : q ∈ o := by rw [hq, List.getD_eq_getElem?_getD, List.getElem?_eq_getElem hkl]; exact List.getElem_mem _
            have hqi := (HM.out q hqm).1
            have hql : q < l.length := by rw [HL.out]; omega
            obtain ⟨x2, hx2, hcz⟩ := HRd2.out.at (Own.ints_at .i64 l q hql)
            cases hx2
            obtain ⟨z, hz⟩ : ∃ z, z = l.getD q 0 := ⟨_, rfl⟩
            rw [← hz] at hcz
            have HQ := kept hq
            have HZ := kept hz
            obtain ⟨k1, hk1⟩ : ∃ k1, k = k1 + 1 := ⟨k - 1, by omega⟩
            subst hk1
            simp only [Nat.add_sub_cancel] at hco HQ hkl
            have l0 := lat_cell hco
            have l1 := lat_cell hcz
            have l2 := lat_cell hcq
            have e1 : ((k1 + 1 : Nat) : Int) - 1 = (k1 : Int) := by omega
            have hqn : q < n := by omega
            clear hq hz hqm hqi hql hco hcz hcq
            by_cases hzy : z < y
            · have hd : decide (z < y) = true := by simpa using hzy
              go_wp2_with fail
              refine wp_region_quietL (by kernel_rfl) (by kernel_rfl) ?_
              repeat (go_big_quiet_step (fail))
              refine wpQuiet_nil ?_
              intro nq
              have HB3 := kept (HBq.out.trans (nq.below.mono HBq.out.size))
              generalize nq.w = w3 at HB3 ⊢
              clear l0 l1 l2
              go_wp2_with fail
              go_roundw
              case rel =>
                refine ⟨k1, by omega, by go_num, HB3.out, fun j hj => ?_⟩
                rw [List.drop_eq_getElem_cons (by omega)] at hj
                rcases List.mem_cons.1 hj with rfl | hj
                · have h1 := HQ.out; have h2 := HZ.out
                  rw [List.getD_eq_getElem?_getD, List.getElem?_eq_getElem (by omega)] at h1
                  simp only [Option.getD_some] at h1
                  rw [← h1, ← h2]; exact hzy
                · exact HAll.out j hj
              case measure => simp [intOf]
            · have hd : decide (z < y) = false := by simpa using hzy
              have HE : Kept (ins l i o = o.take (k1 + 1) ++ i :: o.drop (k1 + 1)) := kept (by
                have hf : Fall l o := by rw [HO.out]; exact (ordN_spec l i).1
                refine ins_at hf (k1 + 1) hk (fun j hj => by rw [← HY.out]; exact HAll.out j hj) fun _ => ?_
                rw [Nat.add_sub_cancel, ← HQ.out, ← HZ.out, ← HY.out]; exact hzy)
              clear HAll HQ HZ hzy
              go_wp2_with fail
              refine wp_region_quietL (by kernel_rfl) (by kernel_rfl) ?_
              repeat (go_big_quiet_step (fail))
              refine wpQuiet_nil ?_
              intro nq
              have HRo3 : Kept (RowO B w nq.w (.slice (some ⟨g1, 0, none⟩) o.length cap1) o) := kept ⟨HRo2.out.own.keep fun g _ hg => nq.below.block g hg, HRo2.out.new, HRo2.out.low.trans (nq.below.mono (by have h1 := HRo2.out.low.size; have h2 := HB.out; omega))⟩
              generalize nq.w = w3 at HRo3 ⊢
              clear l0 l1 l2
              have hkc : k1 + 1 ≤ cap1 := by omega
              go_wp2_with fail
              refine wp_region_mixL [0,1,2,3] [4,6,7,8] [5,9,10,11] (by kernel_rfl) (by kernel_rfl) ?_
              intro K hK
              simp only [pick, List.filterMap_cons, List.filterMap_nil, List.getElem?_cons_zero, List.getElem?_cons_succ]
              repeat (show wpQuiet _ _ _ _ (_ :: _) _; go_big_quiet_step (fail))
              refine wpQuiet_nil ?_
              obtain ⟨hA, hBs, hnil⟩ := row_parts HRo3.out.own (k1 + 1) hk
              obtain ⟨A2, hA2⟩ : ∃ A2, A2 = (if cap1 = k1 + 1 then some (⟨g1, 0, none⟩ : Addr) else some (⟨g1, k1 + 1, none⟩ : Addr)) := ⟨_, rfl⟩
              have hA3 : (if cap1 = k1 + 1 then some (⟨g1, 0, none⟩ : Addr) else (some (⟨g1, 0, none⟩ : Addr)).map fun x => x.add (k1 + 1)) = A2 := by rw [hA2]; simp [Addr.add]
              rw [hA3] at hBs hnil
              rw [← hA2]
              clear hA3
              clear hA2
              generalize hwd : World.drew w3 = w4
              have HRo4 : Kept (RowO B w w4 (.slice (some ⟨g1, 0, none⟩) o.length cap1) o) := kept (by rw [← hwd]; exact ⟨HRo3.out.own, HRo3.out.new, HRo3.out.low.drew⟩)
              have HA : Kept (Rd w4 (.slice (some ⟨g1, 0, none⟩) (k1 + 1) (k1 + 1)) (idx (o.take (k1 + 1)))) := kept (by rw [← hwd]; exact hA)
              have HBs : Kept (Rd w4 (.slice A2 (o.length - (k1 + 1)) (cap1 - (k1 + 1))) (idx (o.drop (k1 + 1)))) := kept (by rw [← hwd]; exact hBs)
              have HNil := kept hnil
              clear hA hBs hnil hwd HRo3
              have hb5 : Below w4.heap.size w4 (w4.alloc (.cells #[.int .i64 (i : Int)] 3)) := (Below.refl _ _).alloc (Nat.le_refl _) _
              have hO5 : Owns (w4.alloc (.cells #[.int .i64 (i : Int)] 3)) 3 (.slice (some ⟨w4.heap.size, 0, none⟩) 1 1) [.int .i64 (i : Int)] :=
                Owns.mk (xs := [.int .i64 (i : Int)]) (Blk.fresh _ _ _) (Nat.le_refl _) (by simp [maxLen]) rfl rfl
              have HB5 := kept hb5
              have HO5 := kept hO5
              have HC5 : Kept (Rd (w4.alloc (.cells #[.int .i64 (i : Int)] 3)) (.slice A2 (o.length - (k1 + 1)) (cap1 - (k1 + 1))) (idx (o.drop (k1 + 1)))) := kept (HBs.out.later hb5)
              clear hb5 hO5
              show wpList _ _ _ [_, _, _, _] _ _
              go_wp2_with (first | (at_builtin; refine wpList_appRd rfl _ _ 22 rfl 3 i0 (.int .i64 0) 8 Try.underlying22 hi hz0 hz1 hz2 rfl _ _ rfl HO5.out A2 _ _ _ rfl HC5.out HNil.out (one_idx _) ?_ ?_ ?_) | fail)
              · simp [maxLen]; omega
              · simp; omega
              intro v6 w6 O6 C6 F6
              obtain ⟨a6, cap6, rfl, hg6⟩ := O6.slice
              have hsz5 : (w4.alloc (.cells #[.int .i64 (i : Int)] 3)).heap.size = w4.heap.size + 1 := by simp
              have hc46 : Chg (fun _ => False) w4 w6 := ((Chg.of_below (S := fun _ => False) HB5.out).trans C6 (fun b hb h => by
                simp [Value.ownBlock] at h; omega))
              have hb6 : Below w4.heap.size w4 w6 := hc46.below (Nat.le_refl _) (fun _ _ h => h)
              have HA6 := kept (HA.out.later hb6)
              have HR6 := kept O6.rd
              have HB6 := kept hb6
              have hl6 : (Value.int .i64 (i : Int) :: idx (o.drop (k1 + 1))).length = o.length - (k1 + 1) + 1 := by simp
              rw [hl6] at HR6 ⊢
              clear O6 C6 F6 hg6 hsz5 hc46 hb6 hl6
              go_wp2_with (first | (at_builtin; refine wpList_appFull rfl _ _ 22 rfl 3 i0 (.int .i64 0) 8 Try.underlying22 hi hz0 hz1 hz2 rfl (some ⟨g1, 0, none⟩) _ _ rfl HA6.out a6 _ _ _ rfl HR6.out (by omega) ?_ ?_ ?_) | fail)
              · simp [maxLen]; omega
              · omega
              intro v7 w7 O7 B7 F7
              have HO7 : Kept (RowO B w w7 v7 (ordN l (i + 1))) := kept (by
                have e1 : ordN l (i + 1) = o.take (k1 + 1) ++ i :: o.drop (k1 + 1) := by
                  rw [← HE.out, HO.out]; show (if _ then _ else _) = _; rw [if_pos (by rw [← HY.out]; exact hpos)]
                have h1 := HRo4.out.low.size
                have h2 := HB.out
                have h3 := HB6.out.size
                refine ⟨?_, fun g hg => by have := F7 g hg; omega, (HRo4.out.low.trans (HB6.out.mono (by omega))).trans (B7.mono (by omega))⟩
                rw [e1]; simpa [idx] using O7)
              clear O7 B7 F7
              go_wp2_with fail
              refine hK _ _ ?_
              go_wp2_with fail
              go_roundw
              case rel => exact ⟨i + 1, by omega, by go_num, _, rfl, HO7.out⟩
              case measure => simp [intOf]; omega
          · have hd : decide (0 < k) = false := by simp; omega
            have hkz : k = 0 := by omega
            subst hkz
            have HE : Kept (ins l i o = o.take 0 ++ i :: o.drop 0) := kept (by
                have hf : Fall l o := by rw [HO.out]; exact (ordN_spec l i).1
                refine ins_at hf 0 hk (fun j hj => by rw [← HY.out]; exact HAll.out j hj) fun h => ?_
                omega)
            clear HAll hk0 hd
            have hd : decide ((0 : Int) < ((0 : Nat) : Int)) = false := rfl
            go_wp2_with fail
            refine wp_region_quietL (by kernel_rfl) (by kernel_rfl) ?_
            repeat (go_big_quiet_step (fail))
            refine wpQuiet_nil ?_
            intro nq
            have HRo3 : Kept (RowO B w nq.w (.slice a1 o.length cap1) o) := kept ⟨HRo2.out.own.keep fun g _ hg => nq.below.block g hg, HRo2.out.new, HRo2.out.low.trans (nq.below.mono (by have h1 := HRo2.out.low.size; have h2 := HB.out; omega))⟩
            generalize nq.w = w3 at HRo3 ⊢
            clear hd
            have hkc : 0 ≤ cap1 := by omega
            go_wp2_with fail
            refine wp_region_mixL [0,1,2,3] [4,6,7,8] [5,9,10,11] (by kernel_rfl) (by kernel_rfl) ?_
            intro K hK
            simp only [pick, List.filterMap_cons, List.filterMap_nil, List.getElem?_cons_zero, List.getElem?_cons_succ]
            repeat (show wpQuiet _ _ _ _ (_ :: _) _; go_big_quiet_step (fail))
            refine wpQuiet_nil ?_
            have hA := (row_parts HRo3.out.own 0 hk).1
            have hBs : Rd w3 (.slice a1 o.length cap1) (idx (o.drop 0)) := by simpa using HRo3.out.own.rd
            have hnil : a1 = none → cap1 = 0 := fun e => by
              rcases HRo3.out.own.form with ⟨hv, _⟩ | ⟨g, cap', cur, hv, _⟩
              · simp only [Value.slice.injEq] at hv; exact hv.2.2
              · simp only [Value.slice.injEq] at hv; rw [e] at hv; cases hv.1
            generalize hwd : World.drew w3 = w4
            have HRo4 : Kept (RowO B w w4 (.slice a1 o.length cap1) o) := kept (by rw [← hwd]; exact ⟨HRo3.out.own, HRo3.out.new, HRo3.out.low.drew⟩)
            have HA : Kept (Rd w4 (.slice a1 (0) (0)) (idx (o.take (0)))) := kept (by rw [← hwd]; exact hA)
            have HBs : Kept (Rd w4 (.slice a1 o.length cap1) (idx (o.drop (0)))) := kept (by rw [← hwd]; exact hBs)
            have HNil := kept hnil
            clear hA hBs hnil hwd HRo3
            have hb5 : Below w4.heap.size w4 (w4.alloc (.cells #[.int .i64 (i : Int)] 3)) := (Below.refl _ _).alloc (Nat.le_refl _) _
            have hO5 : Owns (w4.alloc (.cells #[.int .i64 (i : Int)] 3)) 3 (.slice (some ⟨w4.heap.size, 0, none⟩) 1 1) [.int .i64 (i : Int)] :=
              Owns.mk (xs := [.int .i64 (i : Int)]) (Blk.fresh _ _ _) (Nat.le_refl _) (by simp [maxLen]) rfl rfl
            have HB5 := kept hb5
            have HO5 := kept hO5
            have HC5 : Kept (Rd (w4.alloc (.cells #[.int .i64 (i : Int)] 3)) (.slice a1 o.length cap1) (idx (o.drop (0)))) := kept (HBs.out.later hb5)
            clear hb5 hO5
            show wpList _ _ _ [_, _, _, _] _ _
            go_wp2_with (first | (at_builtin; refine wpList_appRd rfl _ _ 22 rfl 3 i0 (.int .i64 0) 8 Try.underlying22 hi hz0 hz1 hz2 rfl _ _ rfl HO5.out a1 _ _ _ rfl HC5.out HNil.out (one_idx _) ?_ ?_ ?_) | fail)
            · simp [maxLen]; omega
            · simp; omega
            intro v6 w6 O6 C6 F6
            obtain ⟨a6, cap6, rfl, hg6⟩ := O6.slice
            have hsz5 : (w4.alloc (.cells #[.int .i64 (i : Int)] 3)).heap.size = w4.heap.size + 1 := by simp
            have hc46 : Chg (fun _ => False) w4 w6 := ((Chg.of_below (S := fun _ => False) HB5.out).trans C6 (fun b hb h => by
              simp [Value.ownBlock] at h; omega))
            have hb6 : Below w4.heap.size w4 w6 := hc46.below (Nat.le_refl _) (fun _ _ h => h)
            have HA6 := kept (HA.out.later hb6)
            have HR6 := kept O6.rd
            have HB6 := kept hb6
            have hl6 : (Value.int .i64 (i : Int) :: idx o).length = o.length + 1 := by simp
            rw [hl6] at HR6 ⊢
            clear O6 C6 F6 hg6 hsz5 hc46 hb6 hl6
            go_wp2_with (first | (at_builtin; refine wpList_appFull rfl _ _ 22 rfl 3 i0 (.int .i64 0) 8 Try.underlying22 hi hz0 hz1 hz2 rfl a1 _ _ rfl HA6.out a6 _ _ _ rfl HR6.out (by omega) ?_ ?_ ?_) | fail)
            · simp [maxLen]; omega
            · omega
            intro v7 w7 O7 B7 F7
            have HO7 : Kept (RowO B w w7 v7 (ordN l (i + 1))) := kept (by
              have e1 : ordN l (i + 1) = o.take (0) ++ i :: o.drop (0) := by
                rw [← HE.out, HO.out]; show (if _ then _ else _) = _; rw [if_pos (by rw [← HY.out]; exact hpos)]
              have h1 := HRo4.out.low.size
              have h2 := HB.out
              have h3 := HB6.out.size
              refine ⟨?_, fun g hg => by have := F7 g hg; omega, (HRo4.out.low.trans (HB6.out.mono (by omega))).trans (B7.mono (by omega))⟩
              rw [e1]; simpa [idx] using O7)
            clear O7 B7 F7
            go_wp2_with fail
            refine hK _ _ ?_
            go_wp2_with fail
            go_roundw
            case rel => exact ⟨i + 1, by omega, by go_num, _, rfl, HO7.out⟩
            case measure => simp [intOf]; omega
      · have p0 : y ≤ 0 := by omega
        have HE : Kept (ordN l (i + 1) = ordN l i) := kept (by show (if _ then _ else _) = _; rw [if_neg (by rw [← HY.out]; exact hpos)])
        have HRo2 : Kept (RowO B w wo v3 (ordN l (i + 1))) := kept (by rw [HE.out]; exact HRo.out)
        go_wp2_with fail
        go_roundw
        case rel => exact ⟨i + 1, by omega, by go_num, _, rfl, HRo2.out⟩
        case measure => simp [intOf]; omega
    · have hin : i = n := by omega
      subst hin
      have HF : Kept (RowO B w wo v3 (ordL l)) := kept (by unfold ordL; rw [HL.out]; exact hro)
      clear hro hlow hRd
      go_wp2_with fail
      go_ret
      exact ⟨v3, rfl, HF.out⟩
end Go.Proofs.Ytkdmamffbhlbgaa

-- ---- Re
/- wringerref7.Lengths: what it refuses. Conditions: the list reads as the argument does. -/
namespace Go.Proofs.Ytkdmamffbhlbgaa
set_option linter.unusedSimpArgs false
set_option linter.unusedVariables false
open Go.RowKit Mix _root_.Go.Proofs.Ytkdmamffbhlbgaa.Own Dp Ol
attribute [local go_sem] Own.max_int Own.min_int

/-- What may be asked, as a Bool. -/
def fqB (l : List Int) (a : Int) : Bool := decide (l.length = 65 ∧ 7 ≤ a ∧ a ≤ 15 ∧ ∀ x ∈ l, 0 ≤ x ∧ x ≤ 16777216)
theorem fqB_iff (l : List Int) (a : Int) : fqB l a = true ↔ ∃ m : Nat, a = (m : Int) ∧ Fq l m := by
  unfold fqB
  rw [decide_eq_true_eq]
  constructor
  · rintro ⟨h1, h2, h3, h4⟩
    exact ⟨a.toNat, by omega, h1, h4, by omega, by omega⟩
  · rintro ⟨m, rfl, h⟩
    exact ⟨h.len, by have := h.lo; omega, by have := h.hi; omega, h.each⟩

set_option maxRecDepth 100000 in
set_option maxHeartbeats 2000000 in
theorem rlen_bad (A0 : Option Addr) (n0 c0 : Nat) (l0 : List Int) (a1 : Int) (w : World) (hR : Rd w (.slice A0 n0 n0) (ints .i64 l0)) (hn : n0 < 200000000000000) (hb : ¬ fqB l0 a1 = true) :
    Calls Try.prog 15 #[.slice A0 n0 c0, .int .i64 a1] w fun e w' => e = .returned (.agg #[.slice none 0 0, .int .i64 1]) ∧ Below w.heap.size w w' := by
  have hl : l0.length = n0 := by have := hR.length; rw [length_ints] at this; exact this.symm
  by_cases h65 : n0 = 65
  · subst h65
    by_cases h7 : a1 < 7
    · have t7 : decide (a1 < 7) = true := decide_eq_true h7
      clear hR hb hl hn
      go_enter Try.func15, Try.ntmps15
      go_wp2_with fail
      exact bodyPost_ret (results_cell_row rfl _ _ w.heap.size 36 #[.slice none 0 0, .int .i64 1] (0, 0) _ rfl (Blk.fresh _ _ _) Try.underlying36 rfl (by kernel_rfl)) rfl ⟨rfl, (Below.refl _ _).alloc (Nat.le_refl _) _⟩
    · have t7 : decide (a1 < 7) = false := decide_eq_false h7
      by_cases h15 : 15 < a1
      · have t15 : decide (15 < a1) = true := decide_eq_true h15
        clear hR hb hl hn
        go_enter Try.func15, Try.ntmps15
        go_wp2_with fail
        exact bodyPost_ret (results_cell_row rfl _ _ w.heap.size 36 #[.slice none 0 0, .int .i64 1] (0, 0) _ rfl (Blk.fresh _ _ _) Try.underlying36 rfl (by kernel_rfl)) rfl ⟨rfl, (Below.refl _ _).alloc (Nat.le_refl _) _⟩
      · have t15 : decide (15 < a1) = false := decide_eq_false h15
        obtain ⟨j, hj, hjb⟩ : ∃ j, j < 65 ∧ ¬ (0 ≤ l0.getD j 0 ∧ l0.getD j 0 ≤ 16777216) := by
          refine Classical.byContradiction fun hc => hb ?_
          unfold fqB
          rw [decide_eq_true_eq]
          refine ⟨hl, by omega, by omega, fun x hx => ?_⟩
          obtain ⟨j, hj, e⟩ := List.getElem_of_mem hx
          refine Classical.byContradiction fun hx2 => hc ⟨j, by omega, ?_⟩
          have e2 : l0.getD j 0 = x := by simp [List.getD_eq_getElem?_getD, hj, e]
          rw [e2]; exact hx2
        obtain ⟨B, hB⟩ : ∃ B, B = w.heap.size := ⟨_, rfl⟩
        have HB := kept hB
        have HR := kept hR
        have HL := kept hl
        have HJ := kept hjb
        clear hR hb hl hn hjb hB
        go_enter Try.func15, Try.ntmps15
        go_wp2_with fail
        rw [show w.heap.size = B from HB.out.symm]
        generalize hw1 : World.alloc w _ = w1
        have HR1 := kept (HR.out.later (show Below w.heap.size w w1 by rw [← hw1]; exact (Below.refl _ _).alloc (Nat.le_refl _) _))
        have HS : Kept (Blk w1 B #[.slice none 0 0, .int .i64 0] 36 ∧ Below B w w1) := kept (by rw [← hw1, HB.out]; exact ⟨Blk.fresh _ _ _, (Below.refl _ _).alloc (Nat.le_refl _) _⟩)
        clear hw1
        go_loopw [5] (fun s5 wr => ∃ i : Nat, i ≤ j ∧ s5 = .int .i64 (i : Int) ∧ wr = w1) (fun s5 _ => 65 - (intOf s5).toNat)
        case atStart => exact ⟨0, by omega, rfl, rfl⟩
        case round =>
          obtain ⟨i, hi, rfl, rfl⟩ := hrel
          have hil : i < 65 := by omega
          obtain ⟨x, rfl, hc⟩ := HR1.out.at (Own.ints_at .i64 l0 i (by rw [HL.out]; omega))
          by_cases hij : i = j
          · subst hij
            have hy := HJ.out
            have hd0 := HS.out.1.cell (i := 0) rfl
            have hd1 := HS.out.1.cell (i := 1) rfl
            have hf0 := HS.out.1.free 0
            have hf1 := HS.out.1.free 1
            obtain ⟨y, hye⟩ : ∃ y, y = l0.getD i 0 := ⟨_, rfl⟩
            rw [← hye] at hc hy
            clear hye
            by_cases h0 : y < 0
            · have ty : decide (y < 0) = true := decide_eq_true h0
              clear hy
              go_wp2_with fail
              exact bodyPost_ret (results_cell_row rfl _ _ B 36 #[.slice none 0 0, .int .i64 1] (0, 0) _ rfl ((HS.out.1.set 0 _).set 1 _) Try.underlying36 rfl (by kernel_rfl)) rfl ⟨rfl, by rw [← HB.out]; exact (HS.out.2.setCell (p := ⟨B, 0, none⟩) (Nat.le_refl _) _).setCell (p := ⟨B, 1, none⟩) (Nat.le_refl _) _⟩
            · have ty : decide (y < 0) = false := decide_eq_false h0
              have tz : decide (16777216 < y) = true := decide_eq_true (by omega)
              have hz : 16777216 < y := by omega
              clear hy
              go_wp2_with fail
              exact bodyPost_ret (results_cell_row rfl _ _ B 36 #[.slice none 0 0, .int .i64 1] (0, 0) _ rfl ((HS.out.1.set 0 _).set 1 _) Try.underlying36 rfl (by kernel_rfl)) rfl ⟨rfl, by rw [← HB.out]; exact (HS.out.2.setCell (p := ⟨B, 0, none⟩) (Nat.le_refl _) _).setCell (p := ⟨B, 1, none⟩) (Nat.le_refl _) _⟩
          · obtain ⟨y, hye⟩ : ∃ y, y = l0.getD i 0 := ⟨_, rfl⟩
            rw [← hye] at hc
            clear hye
            have hd0 := HS.out.1.cell (i := 0) rfl
            have hd1 := HS.out.1.cell (i := 1) rfl
            have hf0 := HS.out.1.free 0
            have hf1 := HS.out.1.free 1
            by_cases h0 : y < 0
            · have ty : decide (y < 0) = true := decide_eq_true h0
              go_wp2_with fail
              exact bodyPost_ret (results_cell_row rfl _ _ B 36 #[.slice none 0 0, .int .i64 1] (0, 0) _ rfl ((HS.out.1.set 0 _).set 1 _) Try.underlying36 rfl (by kernel_rfl)) rfl ⟨rfl, by rw [← HB.out]; exact (HS.out.2.setCell (p := ⟨B, 0, none⟩) (Nat.le_refl _) _).setCell (p := ⟨B, 1, none⟩) (Nat.le_refl _) _⟩
            · have ty : decide (y < 0) = false := decide_eq_false h0
              by_cases hz : 16777216 < y
              · have tz : decide (16777216 < y) = true := decide_eq_true hz
                go_wp2_with fail
                exact bodyPost_ret (results_cell_row rfl _ _ B 36 #[.slice none 0 0, .int .i64 1] (0, 0) _ rfl ((HS.out.1.set 0 _).set 1 _) Try.underlying36 rfl (by kernel_rfl)) rfl ⟨rfl, by rw [← HB.out]; exact (HS.out.2.setCell (p := ⟨B, 0, none⟩) (Nat.le_refl _) _).setCell (p := ⟨B, 1, none⟩) (Nat.le_refl _) _⟩
              · have tz : decide (16777216 < y) = false := decide_eq_false hz
                go_wp2_with fail
                go_roundw
                case rel => exact ⟨i + 1, by omega, by go_num, trivial⟩
                case measure => simp [intOf]; omega
  · have t65 : ((n0 : Int) != 65) = true := by simp; omega
    clear hR hb hl h65
    go_enter Try.func15, Try.ntmps15
    go_wp2_with fail
    exact bodyPost_ret (results_cell_row rfl _ _ w.heap.size 36 #[.slice none 0 0, .int .i64 1] (0, 0) _ rfl (Blk.fresh _ _ _) Try.underlying36 rfl (by kernel_rfl)) rfl ⟨rfl, (Below.refl _ _).alloc (Nat.le_refl _) _⟩
end Go.Proofs.Ytkdmamffbhlbgaa

-- ---- Rf
/- wringerref7.Lengths: the memory on the way. Conditions: those that each theorem names. -/
namespace Go.Proofs.Ytkdmamffbhlbgaa
set_option linter.unusedSimpArgs false
set_option linter.unusedVariables false
open Go.RowKit Mix _root_.Go.Proofs.Ytkdmamffbhlbgaa.Own Dp Ol

/-- On the way: the result's block, the lengths at g, the order at g7, the maker at p with its rows. -/
structure StB (B : Nat) (w wr : World) (g g7 c7 : Nat) (l : List Int) (m p : Nat) (vf vk vs : Value) (xs F K S : List Int) : Prop where
  res : Blk wr B #[.slice none 0 0, .int .i64 0] 36
  low : Below B w wr
  pB : B ≤ p
  blk : Blk wr p #[vf, .int .i64 (m : Int), vk, vs] 58
  many : Many B wr 3 [(.slice (some ⟨g, 0, none⟩) 65 65, ints .i64 xs), (.slice (some ⟨g7, 0, none⟩) (ordL l).length c7, idx (ordL l)), (vk, ints .i64 K), (vs, ints .i64 S), (vf, ints .i64 F)]

section
variable {B : Nat} {w wr : World} {g g7 c7 : Nat} {l : List Int} {m p : Nat} {vf vk vs : Value} {xs F K S : List Int}
theorem StB.sz (h : StB B w wr g g7 c7 l m p vf vk vs xs F K S) : B ≤ wr.heap.size := Nat.le_of_lt h.res.lt
theorem StB.later {w' : World} (h : StB B w wr g g7 c7 l m p vf vk vs xs F K S) (hb : Below wr.heap.size wr w') : StB B w w' g g7 c7 l m p vf vk vs xs F K S :=
  ⟨(hb.block B h.res.lt).trans h.res, h.low.trans (hb.mono h.sz), h.pB, (hb.block p h.blk.lt).trans h.blk, h.many.later hb⟩
theorem StB.out (h : StB B w wr g g7 c7 l m p vf vk vs xs F K S) : Owns wr 3 (.slice (some ⟨g, 0, none⟩) 65 65) (ints .i64 xs) := h.many.own 0 _ _ rfl
theorem StB.ord (h : StB B w wr g g7 c7 l m p vf vk vs xs F K S) : Owns wr 3 (.slice (some ⟨g7, 0, none⟩) (ordL l).length c7) (idx (ordL l)) := h.many.own 1 _ _ rfl
theorem StB.ordAt (h : StB B w wr g g7 c7 l m p vf vk vs xs F K S) (i : Nat) (hi : i < (ordL l).length) : wr.cell? ⟨g7, i, none⟩ = some (.int .i64 (((ordL l).getD i 0 : Nat) : Int)) := h.ord.cell (idx_at _ i hi)
theorem StB.storeOut (h : StB B w wr g g7 c7 l m p vf vk vs xs F K S) (j : Nat) (v : Int) : StB B w (wr.setCell ⟨g, j, none⟩ (.int .i64 v)) g g7 c7 l m p vf vk vs (xs.set j v) F K S := by
  have hc : Chg (fun k => some k = (Value.slice (some ⟨g, 0, none⟩) 65 65).ownBlock) wr (wr.setCell ⟨g, j, none⟩ (.int .i64 v)) := (Chg.setCell wr ⟨g, j, none⟩ (.int .i64 v)).mono fun k _ hk => by rw [hk]; rfl
  refine ⟨h.many.other 0 rfl hc h.res (by decide), h.low.trans (h.many.below 0 rfl hc h.sz), h.pB, h.many.other 0 rfl hc h.blk (by decide), ?_⟩
  have := h.many.store 0 rfl j (.int .i64 v) h.sz
  rw [← ints_set] at this; exact this
theorem StB.tab (h : StB B w wr g g7 c7 l m p vf vk vs xs F K (sums F)) (hK : KGood m F K) : Tab wr p vf vk vs m F K :=
  ⟨h.blk, h.many.own 4 _ _ rfl, h.many.own 2 _ _ rfl, h.many.own 3 _ _ rfl, fun b hb => h.many.sep 2 4 _ _ _ _ (by decide) rfl rfl b hb, fun b hb => h.many.sep 2 3 _ _ _ _ (by decide) rfl rfl b hb, hK⟩
theorem StB.costed {w' : World} {K' : List Int} (h : StB B w wr g g7 c7 l m p vf vk vs xs F K (sums F)) (hT : Tab w' p vf vk vs m F K') (hc : Chg (fun b => some b = vk.ownBlock) wr w') : StB B w w' g g7 c7 l m p vf vk vs xs F K' (sums F) :=
  ⟨h.many.other 2 rfl hc h.res (by decide), h.low.trans (h.many.below 2 rfl hc h.sz), h.pB, hT.blk, h.many.set 2 rfl hc hT.rk (fun b hb => .inl hb.symm) h.sz⟩
/-- A number behind the frequencies, and the field laid anew. -/
theorem StB.push {w' : World} {v2 : Value} {x : Int} (h : StB B w wr g g7 c7 l m p vf vk vs xs F K S) (ho : Owns w' 3 v2 (ints .i64 (F ++ [x]))) (hc : Chg (fun b => some b = vf.ownBlock) wr w') (hn : ∀ b, v2.ownBlock = some b → some b = vf.ownBlock ∨ wr.heap.size ≤ b) :
    StB B w (w'.setCell ⟨p, 0, none⟩ v2) g g7 c7 l m p v2 vk vs xs (F ++ [x]) K S ∧ w'.frozen? ⟨p, 0, none⟩ = false ∧ w'.cell? ⟨p, 0, none⟩ = some vf := by
  have h1 := h.many.set 4 rfl hc ho hn h.sz
  have hb : Blk w' p #[vf, .int .i64 (m : Int), vk, vs] 58 := h.many.other 4 rfl hc h.blk (by decide)
  have hr : Blk w' B #[.slice none 0 0, .int .i64 0] 36 := h.many.other 4 rfl hc h.res (by decide)
  have hl := h.low.trans (h.many.below 4 rfl hc h.sz)
  exact ⟨⟨hr.setOther (hr.ne hb (by decide)) _, hl.setCell h.pB _, h.pB, hb.set 0 _, h1.setBlk hb (by decide) 0 v2⟩, hb.free 0, hb.cell rfl⟩
theorem StB.storeSum {gs cs n : Nat} (h : StB B w wr g g7 c7 l m p vf vk (.slice (some ⟨gs, 0, none⟩) n cs) xs F K S) (j : Nat) (v : Int) : StB B w (wr.setCell ⟨gs, j, none⟩ (.int .i64 v)) g g7 c7 l m p vf vk (.slice (some ⟨gs, 0, none⟩) n cs) xs F K (S.set j v) := by
  have hc : Chg (fun k => some k = (Value.slice (some ⟨gs, 0, none⟩) n cs).ownBlock) wr (wr.setCell ⟨gs, j, none⟩ (.int .i64 v)) := (Chg.setCell wr ⟨gs, j, none⟩ (.int .i64 v)).mono fun k _ hk => by rw [hk]; rfl
  refine ⟨h.many.other 3 rfl hc h.res (by decide), h.low.trans (h.many.below 3 rfl hc h.sz), h.pB, h.many.other 3 rfl hc h.blk (by decide), ?_⟩
  have := h.many.store 3 rfl j (.int .i64 v) h.sz
  rw [← ints_set] at this; exact this
end

theorem Own.Many.sub {B : Nat} {w : World} {e : TypeId} {R R' : List (Value × List Value)} (h : Many B w e R) (f : Nat → Nat) (h1 : ∀ i, i < R'.length → R[f i]? = R'[i]?) (h2 : ∀ i j, i < R'.length → j < R'.length → f i = f j → i = j) : Many B w e R' := by
  have lt : ∀ (i : Nat) r, R'[i]? = some r → i < R'.length := fun i r hi => (List.getElem?_eq_some_iff.1 hi).1
  exact ⟨fun i v xs hi => h.own (f i) v xs (by rw [h1 i (lt i _ hi)]; exact hi), fun i v xs hi => h.new (f i) v xs (by rw [h1 i (lt i _ hi)]; exact hi),
    fun i j a xs b ys hij hi hj => h.sep (f i) (f j) a xs b ys (fun e => hij (h2 i j (lt i _ hi) (lt j _ hj) e)) (by rw [h1 i (lt i _ hi)]; exact hi) (by rw [h1 j (lt j _ hj)]; exact hj)⟩
theorem Own.Many.swap {B : Nat} {w : World} {e : TypeId} {a b c d : Value × List Value} (h : Many B w e [a, b, c, d]) : Many B w e [a, b, d, c] := by
  refine h.sub (fun i => if i = 2 then 3 else if i = 3 then 2 else i) (fun i hi => ?_) (fun i j hi hj he => ?_)
  · have : i = 0 ∨ i = 1 ∨ i = 2 ∨ i = 3 := by simp at hi; omega
    rcases this with rfl | rfl | rfl | rfl <;> rfl
  · simp at hi hj he
    split at he <;> split at he <;> (try split at he) <;> (try split at he) <;> omega
/-- The maker is laid. -/
theorem StB.make {B : Nat} {w x : World} {g g7 c7 : Nat} {l : List Int} {m : Nat} {vk vs : Value} {xs K S : List Int} (h1 : Blk x B #[.slice none 0 0, .int .i64 0] 36) (h2 : Below B w x)
    (h3 : Many B x 3 [(.slice (some ⟨g, 0, none⟩) 65 65, ints .i64 xs), (.slice (some ⟨g7, 0, none⟩) (ordL l).length c7, idx (ordL l)), (vk, ints .i64 K), (vs, ints .i64 S)]) :
    StB B w (x.alloc (.cells #[.slice none 0 0, .int .i64 (m : Int), vk, vs] 58)) g g7 c7 l m x.heap.size (.slice none 0 0) vk vs xs [] K S := by
  have hb : Below x.heap.size x (x.alloc (.cells #[.slice none 0 0, .int .i64 (m : Int), vk, vs] 58)) := (Below.refl _ _).alloc (Nat.le_refl _) _
  refine ⟨(hb.block B h1.lt).trans h1, h2.trans (hb.mono (Nat.le_of_lt h1.lt)), Nat.le_of_lt h1.lt, Blk.fresh _ _ _, ?_⟩
  exact h3.add hb (Owns.nil _ _) (fun b hb => by simp [Value.ownBlock] at hb) (Nat.le_of_lt h1.lt)

/-- The sums from j on, noughts ahead of them. -/
def sumsN (F : List Int) (j : Nat) : List Int := (List.range (F.length + 1)).map fun i => if j ≤ i then (F.drop i).sum else 0
theorem length_sumsN (F : List Int) (j : Nat) : (sumsN F j).length = F.length + 1 := by simp [sumsN]
theorem sumsN_all (F : List Int) : sumsN F 0 = sums F := by unfold sumsN sums; exact List.map_congr_left fun i _ => by rw [if_pos (Nat.zero_le _)]
theorem sumsN_none (F : List Int) : sumsN F F.length = List.replicate (F.length + 1) 0 := by
  apply List.ext_getElem
  · simp [sumsN]
  · intro i h1 h2
    rw [length_sumsN] at h1
    simp only [sumsN, List.getElem_map, List.getElem_range, List.getElem_replicate]
    split
    · rw [List.drop_eq_nil_of_le (by omega)]; rfl
    · rfl
theorem sumsN_at (F : List Int) (j : Nat) (h : j ≤ F.length) : (sumsN F j).getD j 0 = (F.drop j).sum := by
  unfold sumsN; simp [List.getD_eq_getElem?_getD, show j < F.length + 1 by omega]
theorem sumsN_set (F : List Int) (j : Nat) (h : j + 1 ≤ F.length) : (sumsN F (j + 1)).set j ((F.drop (j + 1)).sum + F.getD j 0) = sumsN F j := by
  apply List.ext_getElem
  · simp [sumsN]
  · intro i h1 h2
    rw [length_sumsN] at h2
    rw [List.getElem_set]
    by_cases e : j = i
    · subst e
      rw [if_pos rfl]
      simp only [sumsN, List.getElem_map, List.getElem_range]
      rw [if_pos (Nat.le_refl _)]
      have e2 : F.drop j = F.getD j 0 :: F.drop (j + 1) := by rw [List.drop_eq_getElem_cons (by omega)]; simp [List.getD_eq_getElem?_getD, show j < F.length by omega]
      rw [e2, List.sum_cons]; omega
    · rw [if_neg e]
      simp only [sumsN, List.getElem_map, List.getElem_range]
      by_cases h3 : j ≤ i
      · rw [if_pos (by omega), if_pos h3]
      · rw [if_neg (by omega), if_neg h3]
theorem kgood_zero (m : Nat) (F : List Int) (hm : m ≤ 15) : KGood m F (List.replicate 166600 0) := by
  refine ⟨List.length_replicate, fun d j o h1 h2 h3 h4 => .inl ?_⟩
  rw [getD_rep]
/-- Which of the candidates is taken: the greatest that costs what is wanted. -/
theorem take_is {r o t : Nat} {g : List Int} {x : Int} (h : dp (r + 1) g o = some x) (hg : g ≠ []) (ht : t ≤ o) (h1 : ∀ k, t < k → k ≤ o → cand r g o k ≠ some x) (h2 : t = 0 ∨ cand r g o t = some x) : take r g o = t := by
  obtain ⟨ho1, ho2, _⟩ := dp_some h hg
  have hs := best_spec (cand r g o) o
  rw [dp_in hg ho1 ho2] at h
  unfold take
  cases hb : best (cand r g o) o with
  | none => rw [hb] at h; cases h
  | some q =>
    obtain ⟨y, k⟩ := q
    rw [hb] at h hs
    simp only [Option.map_some, Option.some.injEq] at h
    subst h
    obtain ⟨_, h3, h4, h5⟩ := hs
    show k = t
    rcases Nat.lt_trichotomy k t with h6 | h6 | h6
    · rcases h2 with h7 | h7
      · omega
      · have := (h5 t y (by omega) ht h7).2 h6; omega
    · exact h6
    · exact absurd h4 (h1 k h6 h3)
theorem scat_take (out : List Int) (cs ns : List Nat) (i : Nat) (h1 : i < cs.length) (h2 : i < ns.length) : scat out (cs.take (i + 1)) (ns.take (i + 1)) = (scat out (cs.take i) (ns.take i)).set (cs.getD i 0) ((ns.getD i 0 : Nat) : Int) := by
  have e1 : cs.take (i + 1) = cs.take i ++ [cs.getD i 0] := by rw [List.take_succ_eq_append_getElem h1]; simp [List.getD_eq_getElem?_getD, h1]
  have e2 : ns.take (i + 1) = ns.take i ++ [ns.getD i 0] := by rw [List.take_succ_eq_append_getElem h2]; simp [List.getD_eq_getElem?_getD, h2]
  rw [e1, e2]
  exact scat_snoc _ _ _ _ _ (by simp; omega)
end Go.Proofs.Ytkdmamffbhlbgaa

-- ---- Mo
/- A region that draws its order, of which the order is forced but for a fork. No program in sight. -/
namespace Go.Proofs.Ytkdmamffbhlbgaa.Mix
set_option linter.unusedSimpArgs false
set_option linter.unusedVariables false
set_option linter.unusedSectionVars false
open Go Go.RowKit

section
variable {P : Program} {md : Region.Mode} {ops : Array Oper} {Q : Exit → Act → World → Prop} {C : World → Prop}

/-- The orders in which the rest may come: a chain, or one of two first. -/
inductive Tr where
  | seq (ts : List Nat)
  | one (i : Nat) (t : Tr)
  | two (i : Nat) (t : Tr) (j : Nat) (u : Tr)
  | three (i : Nat) (t : Tr) (j : Nat) (u : Tr) (k : Nat) (v : Tr)
def Tr.len : Tr → Nat
  | .seq ts => ts.length
  | .one _ t => t.len + 1
  | .two _ t _ _ => t.len + 1
  | .three _ t _ _ _ _ => t.len + 1
def Tr.all (p : Nat → Bool) : Tr → Bool
  | .seq ts => ts.all p
  | .one i t => p i && t.all p
  | .two i t j u => p i && p j && t.all p && u.all p
  | .three i t j u k v => p i && p j && p k && t.all p && u.all p && v.all p
def treeB (md : Region.Mode) (ops : Array Oper) : Tr → Array Bool → Bool
  | .seq ts, listed => seqL md ops ts listed
  | .one i t, listed => decide (Region.ready md ops listed = [i]) && treeB md ops t (listed.setIfInBounds i true)
  | .two i t j u, listed => decide (Region.ready md ops listed = [i, j]) && decide (u.len = t.len) && treeB md ops t (listed.setIfInBounds i true) && treeB md ops u (listed.setIfInBounds j true)
  | .three i t j u k v, listed => decide (Region.ready md ops listed = [i, j, k]) && decide (u.len = t.len) && decide (v.len = t.len) && treeB md ops t (listed.setIfInBounds i true) && treeB md ops u (listed.setIfInBounds j true) && treeB md ops v (listed.setIfInBounds k true)
def wpTr (P : Program) (l : List Oper) (K : Act → World → Prop) : Tr → Act → World → Prop
  | .seq ts, a, w => wpList P l.toArray (Only K) (pick l ts) a w
  | .one i t, a, w => wpList P l.toArray (Only (wpTr P l K t)) (pick l [i]) a w
  | .two i t j u, a, w => wpList P l.toArray (Only (wpTr P l K t)) (pick l [i]) a w ∧ wpList P l.toArray (Only (wpTr P l K u)) (pick l [j]) a w
  | .three i t j u k v, a, w => wpList P l.toArray (Only (wpTr P l K t)) (pick l [i]) a w ∧ wpList P l.toArray (Only (wpTr P l K u)) (pick l [j]) a w ∧ wpList P l.toArray (Only (wpTr P l K v)) (pick l [k]) a w

theorem wp_only {o : Oper} {a : Act} {w : World} {K K' A B : Act → World → Prop} (h : ∀ a w, K a w → K' a w) (hh : o.wp P a w K (Only A)) : o.wp P a w K' (Only B) := by
  unfold Oper.wp at *
  generalize (execOp a.eval o).run P w = r at *
  cases r with
  | ok n w' =>
    cases n <;> simp only [Oper.upon] at hh ⊢ <;>
      first
        | exact h _ _ hh
        | exact Calls.mono hh (fun e w'' he => by
            cases e with
            | returned v => exact h _ _ he
            | panicked c => exact he.elim
            | outgrown => obtain ⟨a1, w1, h1⟩ := he; exact h1.elim)
        | exact Rows.mono hh (fun _ _ he => h _ _ he)
  | halt x w' => cases x <;> simp only [Oper.upon] at hh ⊢ <;> exact hh
theorem wpOp_only {i : Nat} {o : Oper} (ho : ops[i]? = some o) {a : Act} {w : World} {K A B : Act → World → Prop} (h : ∀ a w, A a w → K a w) (hh : wpList P ops (Only A) [o] a w) : wpOp P ops (Only B) i K a w := by
  unfold wpOp
  simp only [ho]
  unfold wpList at hh
  split
  · rename_i hw
    rw [if_pos hw] at hh
    rcases hh with hh | ⟨_, a1, w1, h1⟩
    · exact .inl (wp_only (fun a w h1 => h a w h1) hh)
    · exact h1.elim
  · rename_i hw
    rw [if_neg hw] at hh
    exact h _ _ hh

theorem wpM_tree {l : List Oper} {h1 h2 : List Nat} {K : Act → World → Prop} : ∀ (t : Tr) (listed : Array Bool) (a : Act) (w : World), t.all (fun i => !h1.contains i && !h2.contains i) = true → treeB md l.toArray t listed = true →
    wpTr P l K t a w → wpM P md l.toArray (Only K) C h1 h2 t.len listed a w := by
  intro t
  induction t with
  | seq ts =>
    intro listed a w hm hB h
    have hts : ∀ i ∈ ts, i ∉ h1 ∧ i ∉ h2 := fun i hi => by simpa using List.all_eq_true.1 hm i hi
    exact wpM_seq ts (pick l ts) listed a w hts (pick_map ts (by have := seqL_lt ts listed hB; simpa using this)) hB h
  | one i t iht =>
    intro listed a w hm hB h
    simp only [Tr.all, Bool.and_eq_true, Bool.not_eq_true', List.contains_eq_mem, decide_eq_false_iff_not] at hm
    simp only [treeB, Bool.and_eq_true, decide_eq_true_eq] at hB
    obtain ⟨hi, hmt⟩ := hm
    obtain ⟨hr, hbt⟩ := hB
    have h1 : i ∈ Region.ready md l.toArray listed := by rw [hr]; simp
    obtain ⟨_, o, ho, _⟩ := mem_ready.1 h1
    have h2 : l[i]? = some o := by simpa using ho
    have hp : pick l [i] = [o] := by simp [pick, h2]
    refine ⟨fun h1 => (by rw [hr] at h1; cases h1), fun k hk => ?_⟩
    rw [hr] at hk
    have hki : k = i := by simpa using hk
    subst hki
    rw [if_neg hi.1, if_neg hi.2]
    have h3 : wpList P l.toArray (Only (wpTr P l K t)) (pick l [k]) a w := h
    rw [hp] at h3
    exact wpOp_only ho (fun a' w' h' => iht _ a' w' (by simpa using hmt) hbt h') h3
  | two i t j u iht ihu =>
    intro listed a w hm hB h
    simp only [Tr.all, Bool.and_eq_true, Bool.not_eq_true', List.contains_eq_mem, decide_eq_false_iff_not] at hm
    simp only [treeB, Bool.and_eq_true, decide_eq_true_eq] at hB
    obtain ⟨⟨⟨hi, hj⟩, hmt⟩, hmu⟩ := hm
    obtain ⟨⟨⟨hr, hlen⟩, hbt⟩, hbu⟩ := hB
    have at_ : ∀ k, k ∈ [i, j] → ∃ o, l.toArray[k]? = some o ∧ pick l [k] = [o] := fun k hk => by
      have h1 : k ∈ Region.ready md l.toArray listed := by rw [hr]; exact hk
      obtain ⟨_, o, ho, _⟩ := mem_ready.1 h1
      refine ⟨o, ho, ?_⟩
      have h2 : l[k]? = some o := by simpa using ho
      simp [pick, h2]
    refine ⟨fun h1 => (by rw [hr] at h1; cases h1), fun k hk => ?_⟩
    rw [hr] at hk
    obtain ⟨o, ho, hp⟩ := at_ k hk
    rcases List.mem_cons.1 hk with rfl | hk
    · rw [if_neg hi.1, if_neg hi.2]
      have h2 := h.1
      rw [hp] at h2
      exact wpOp_only ho (fun a' w' h' => iht _ a' w' (by simpa using hmt) hbt h') h2
    · have hkj : k = j := by simpa using hk
      subst hkj
      rw [if_neg hj.1, if_neg hj.2]
      have h3 := h.2
      rw [hp] at h3
      have hu : ∀ a' w', wpTr P l K u a' w' → wpM P md l.toArray (Only K) C h1 h2 t.len (listed.setIfInBounds k true) a' w' := fun a' w' h' => by
        have := ihu (listed.setIfInBounds k true) a' w' (by simpa using hmu) hbu h'
        rwa [hlen] at this
      exact wpOp_only ho hu h3
  | three i t j u m v iht ihu ihv =>
    intro listed a w hm hB h
    simp only [Tr.all, Bool.and_eq_true, Bool.not_eq_true', List.contains_eq_mem, decide_eq_false_iff_not] at hm
    simp only [treeB, Bool.and_eq_true, decide_eq_true_eq] at hB
    obtain ⟨⟨⟨⟨⟨hi, hj⟩, hmm⟩, hmt⟩, hmu⟩, hmv⟩ := hm
    obtain ⟨⟨⟨⟨⟨hr, hlen⟩, hlenv⟩, hbt⟩, hbu⟩, hbv⟩ := hB
    have at_ : ∀ k, k ∈ [i, j, m] → ∃ o, l.toArray[k]? = some o ∧ pick l [k] = [o] := fun k hk => by
      have h1 : k ∈ Region.ready md l.toArray listed := by rw [hr]; exact hk
      obtain ⟨_, o, ho, _⟩ := mem_ready.1 h1
      refine ⟨o, ho, ?_⟩
      have h2 : l[k]? = some o := by simpa using ho
      simp [pick, h2]
    refine ⟨fun h1 => (by rw [hr] at h1; cases h1), fun k hk => ?_⟩
    rw [hr] at hk
    obtain ⟨o, ho, hp⟩ := at_ k hk
    rcases List.mem_cons.1 hk with rfl | hk
    · rw [if_neg hi.1, if_neg hi.2]
      have h2 := h.1
      rw [hp] at h2
      exact wpOp_only ho (fun a' w' h' => iht _ a' w' (by simpa using hmt) hbt h') h2
    · rcases List.mem_cons.1 hk with rfl | hk
      · rw [if_neg hj.1, if_neg hj.2]
        have h3 := h.2.1
        rw [hp] at h3
        have hu : ∀ a' w', wpTr P l K u a' w' → wpM P md l.toArray (Only K) C h1 h2 t.len (listed.setIfInBounds k true) a' w' := fun a' w' h' => by
          have := ihu (listed.setIfInBounds k true) a' w' (by simpa using hmu) hbu h'
          rwa [hlen] at this
        exact wpOp_only ho hu h3
      · have hkm : k = m := by simpa using hk
        subst hkm
        rw [if_neg hmm.1, if_neg hmm.2]
        have h3 := h.2.2
        rw [hp] at h3
        have hu : ∀ a' w', wpTr P l K v a' w' → wpM P md l.toArray (Only K) C h1 h2 t.len (listed.setIfInBounds k true) a' w' := fun a' w' h' => by
          have := ihv (listed.setIfInBounds k true) a' w' (by simpa using hmv) hbv h'
          rwa [hlenv] at this
        exact wpOp_only ho hu h3

def mixTB (md : Region.Mode) (ops : Array Oper) (h1 h2 : List Nat) (t : Tr) : Bool :=
  Region.noSelect ops && h2.all (fun i => !h1.contains i) && t.all (fun i => !h1.contains i && !h2.contains i) &&
  (List.range ops.size).all (fun t => h1.contains t || h2.contains t || (match ops[t]? with | some o => newOp o.op | none => false) || h2.all fun i => anc md ops ops.size t i) &&
  hoistB md ops (h1 ++ h2) (Array.replicate ops.size false) && treeB md ops t (marked (Array.replicate ops.size false) (h1 ++ h2)) && (decide (h1.length + h2.length + t.len = ops.size))

/-- Some operations first (those of h1 look at no memory), then a tree of orders. -/
theorem wp_region_treeL {id : Nat} {a : Act} {w : World} {l : List Oper} (h1 h2 : List Nat) (t : Tr) (hm : P.follows .mixedOrders = true) (hB : mixTB .any l.toArray h1 h2 t = true)
    (h : ∀ K : Act → World → Prop, (∀ a w, Q .normal a w → K a w) → wpQuiet P l.toArray (fun _ => True) (fun a1 => wpQuiet P l.toArray (fun w' => ∃ n : Lat w, w' = n.w) (fun a2 => wpTr P l K t a2 w.drew) (pick l h2) a1) (pick l h1) a) :
    (Code.region id l.toArray true).wp P Q a w := by
  have H := h (fun a w => Q .normal a w) fun _ _ h => h
  simp only [mixTB, Bool.and_eq_true, decide_eq_true_eq] at hB
  obtain ⟨⟨⟨⟨⟨⟨hsel, h12⟩, hts⟩, htail⟩, hh⟩, hseq⟩, hlen⟩ := hB
  have hC : ∀ w1 w2 : World, (∃ n : Lat w, w1 = n.w) → Below w1.heap.size w1 w2 → ∃ n : Lat w, w2 = n.w := fun _ w2 ⟨n, e⟩ hb => by subst e; exact ⟨⟨w2, n.below.trans (hb.mono n.below.size)⟩, rfl⟩
  have hw : ∃ n : Lat w, ({ w with drawn := w.drawn + 1 } : World) = n.w := ⟨Lat.drew w, rfl⟩
  have h12' : ∀ i ∈ h2, i ∉ h1 := fun i hi => by simpa using List.all_eq_true.1 h12 i hi
  have htail' : ∀ j oj, l.toArray[j]? = some oj → j ∉ h1 → j ∉ h2 → newOp oj.op = true ∨ ∀ i ∈ h2, anc .any l.toArray l.toArray.size j i = true := fun j oj hj n1 n2 => by
    have h3 := List.all_eq_true.1 htail j (List.mem_range.2 (Array.getElem?_eq_some_iff.1 hj).1)
    simp only [hj, Bool.or_eq_true, List.contains_iff_mem, n1, n2, false_or] at h3
    rcases h3 with h3 | h3
    · exact .inl h3
    · exact .inr fun i hi => List.all_eq_true.1 h3 i hi
  rw [hoistB_append, Bool.and_eq_true] at hh
  rw [marked_append] at hseq
  have lt1 := hoistB_lt _ _ hh.1
  have lt2 := hoistB_lt _ _ hh.2
  have hQ' : ∀ c a w d v, Only (fun a w => Q .normal a w) (.panic c) (a.put d v) w → Only (fun a w => Q .normal a w) (.panic c) a w := fun _ _ _ _ _ h => h
  have cl0 : Closed .any l.toArray (Array.replicate l.toArray.size false) := fun j oj _ hl => by rw [getD_replicate_false] at hl; cases hl
  have cl1 := closed_marked _ _ hh.1 cl0
  refine Code.wp_mono (Q := Only fun a w => Q .normal a w) (fun e a w h => by cases e <;> first | exact h | exact h.elim) ?_
  refine wp_region_any hm (wpAny_of_M (C := fun w' => ∃ n : Lat w, w' = n.w) (h1 := h1) (h2 := h2) _ _ _ _ ?_)
  have key : wpM P .any l.toArray (Only fun a w => Q .normal a w) (fun w' => ∃ n : Lat w, w' = n.w) h1 h2 (t.len + h2.length + h1.length) (Array.replicate l.toArray.size false) a { w with drawn := w.drawn + 1 } := ?_
  · have e2 : ∀ n, n = t.len + h2.length + h1.length → wpM P .any l.toArray (Only fun a w => Q .normal a w) (fun w' => ∃ n : Lat w, w' = n.w) h1 h2 n (Array.replicate l.toArray.size false) a { w with drawn := w.drawn + 1 } := fun n hn => hn ▸ key
    exact e2 _ (by omega)
  refine hoist1 hsel hQ' h1 (pick l h1) _ a (fun i hi => hi) (pick_map h1 (by simpa using lt1)) hh.1 (fun a1 H1 => ?_) H
  refine hoist2 hsel hQ' hC h12' htail' hw h2 (pick l h2) _ a1 (fun i hi => hi) (pick_map h2 (by simpa using lt2)) hh.2 cl1 (fun a2 H2 => ?_) H1
  exact wpM_tree t _ a2 _ hts hseq H2
end
end Go.Proofs.Ytkdmamffbhlbgaa.Mix

-- ---- Rg
/- wringerref7.Lengths: what the call answers for what may be asked. Conditions: the list reads as the argument does. -/
namespace Go.Proofs.Ytkdmamffbhlbgaa
set_option linter.unusedSimpArgs false
set_option linter.unusedVariables false
open Go.RowKit Mix _root_.Go.Proofs.Ytkdmamffbhlbgaa.Own Dp Ol
attribute [local go_sem] Own.max_int Own.min_int

theorem sliceX {w : World} {v : Value} {l : List Nat} (h : Owns w 3 v (idx l)) : ∃ a c, v = .slice a l.length c ∧ (l ≠ [] → ∃ g, a = some ⟨g, 0, none⟩) := by
  obtain ⟨a, c, e, hr⟩ := h.slice
  refine ⟨a, c, by rw [e, length_idx], fun hl => hr fun e => hl ?_⟩
  have := congrArg List.length e
  rw [length_idx] at this
  exact List.length_eq_zero_iff.1 this
theorem Own.Many.rest {B : Nat} {w : World} {e : TypeId} {r : Value × List Value} {R : List (Value × List Value)} (h : Many B w e (r :: R)) : Many B w e [r] :=
  ⟨fun i v xs hi => by
    match i, hi with
    | 0, hi => exact h.own 0 v xs hi
    | i + 1, hi => simp at hi, fun i v xs hi => by
    match i, hi with
    | 0, hi => exact h.new 0 v xs hi
    | i + 1, hi => simp at hi, fun i j a xs b ys hij hi hj => by
    have h1 : i = 0 := by have := (List.getElem?_eq_some_iff.1 hi).1; simpa using this
    have h2 : j = 0 := by have := (List.getElem?_eq_some_iff.1 hj).1; simpa using this
    omega⟩
/-- The end: the block of the result told. -/
theorem rlen_end {B : Nat} {w wr : World} {g : Nat} {xs : List Int} (h1 : Blk wr B #[.slice none 0 0, .int .i64 0] 36) (h2 : Below B w wr) (h3 : Many B wr 3 [(.slice (some ⟨g, 0, none⟩) 65 65, ints .i64 xs)]) :
    Blk ((wr.setCell ⟨B, 0, none⟩ (.slice (some ⟨g, 0, none⟩) 65 65)).setCell ⟨B, 1, none⟩ (.int .i64 0)) B #[.slice (some ⟨g, 0, none⟩) 65 65, .int .i64 0] 36 ∧
    Owns ((wr.setCell ⟨B, 0, none⟩ (.slice (some ⟨g, 0, none⟩) 65 65)).setCell ⟨B, 1, none⟩ (.int .i64 0)) 3 (.slice (some ⟨g, 0, none⟩) 65 65) (ints .i64 xs) ∧
    (∀ b, (Value.slice (some ⟨g, 0, none⟩) 65 65).ownBlock = some b → B ≤ b) ∧ Below B w ((wr.setCell ⟨B, 0, none⟩ (.slice (some ⟨g, 0, none⟩) 65 65)).setCell ⟨B, 1, none⟩ (.int .i64 0)) := by
  have hb1 := h1.set 0 (.slice (some ⟨g, 0, none⟩) 65 65)
  have m1 := h3.setBlk h1 (by decide) 0 (.slice (some ⟨g, 0, none⟩) 65 65)
  have m2 := m1.setBlk hb1 (by decide) 1 (.int .i64 0)
  exact ⟨hb1.set 1 _, m2.own 0 _ _ rfl, h3.new 0 _ _ rfl, (h2.setCell (p := ⟨B, 0, none⟩) (Nat.le_refl _) _).setCell (p := ⟨B, 1, none⟩) (Nat.le_refl _) _⟩

set_option maxRecDepth 100000 in
set_option maxHeartbeats 4000000 in
theorem rlen_ok (A0 : Option Addr) (c0 : Nat) (l0 : List Int) (m : Nat) (w : World) (hR : Rd w (.slice A0 65 65) (ints .i64 l0)) (hf : Fq l0 m) :
    Calls Try.prog 15 #[.slice A0 65 c0, .int .i64 (m : Int)] w fun e w' => ∃ v, e = .returned (.agg #[v, .int .i64 0]) ∧ Owns w' 3 v (ints .i64 (lenL l0 m)) ∧ (∀ g, v.ownBlock = some g → w.heap.size ≤ g) ∧ Below w.heap.size w w' := by
  obtain ⟨i0, hi, hz0, hz1, hz2⟩ := info_partsI infoI64
  have h65 := hf.len
  obtain ⟨B, hB⟩ : ∃ B, B = w.heap.size := ⟨_, rfl⟩
  have hro := fun w1 (h : Below w.heap.size w w1) => rorder_calls A0 65 c0 l0 w1 (hR.later h) (by omega)
  rw [← hB]
  have t7 : decide ((m : Int) < 7) = false := decide_eq_false (by have := hf.lo; omega)
  have t15 : decide (15 < (m : Int)) = false := decide_eq_false (by have := hf.hi; omega)
  have HB := kept hB
  have HF := kept hf
  have HR := kept hR
  have HL := kept h65
  have HRo := kept hro
  clear hB hf hR h65 hro
  go_enter Try.func15, Try.ntmps15
  go_wp2_with fail
  rw [show w.heap.size = B from HB.out.symm]
  generalize hw1 : World.alloc w _ = w1
  have HS1 : Kept (Blk w1 B #[.slice none 0 0, .int .i64 0] 36 ∧ Below B w w1) := kept (by rw [← hw1, HB.out]; exact ⟨Blk.fresh _ _ _, (Below.refl _ _).alloc (Nat.le_refl _) _⟩)
  have HR1 := kept (HR.out.later (show Below w.heap.size w w1 by rw [← HB.out]; exact HS1.out.2))
  clear hw1
  go_loopw [5] (fun s5 wr => ∃ i : Nat, i ≤ 65 ∧ s5 = .int .i64 (i : Int) ∧ wr = w1) (fun s5 _ => 65 - (intOf s5).toNat)
  case atStart => exact ⟨0, by omega, rfl, rfl⟩
  case round =>
    obtain ⟨i, hi65, rfl, rfl⟩ := hrel
    by_cases hlt : i < 65
    · have hil : i < l0.length := by rw [HL.out]; exact hlt
      obtain ⟨x, rfl, hc⟩ := HR1.out.at (Own.ints_at .i64 l0 i hil)
      have hy := HF.out.each (l0.getD i 0) (by simp [List.getD_eq_getElem?_getD, hil])
      obtain ⟨y, hye⟩ : ∃ y, y = l0.getD i 0 := ⟨_, rfl⟩
      rw [← hye] at hc hy
      obtain ⟨hy0, hy1⟩ := hy
      have ty : decide (y < 0) = false := decide_eq_false (by omega)
      have tz : decide (16777216 < y) = false := decide_eq_false (by omega)
      clear hye hil
      go_wp2_with fail
      go_roundw
      case rel => exact ⟨i + 1, by omega, by go_num, trivial⟩
      case measure => simp [intOf]; omega
    · have hie : i = 65 := by omega
      subst hie
      go_wp2_with (first | (refine wpList_mk1 rfl _ _ 22 rfl 3 i0 (.int .i64 0) 8 Try.underlying22 hi hz0 hz1 hz2 rfl .i64 .i64 _ _ 65 rfl rfl rfl rfl (by decide) (by decide) ?_))
      intro w2 hO hb hlt2
      obtain ⟨g, hg⟩ : ∃ g, g = wr.heap.size := ⟨_, rfl⟩
      have hM2 : Many B w2 3 [(.slice (some ⟨g, 0, none⟩) 65 65, ints .i64 (List.replicate 65 0))] := by
        have := (Many.nil B wr 3).add (v := .slice (some ⟨wr.heap.size, 0, none⟩) 65 65) hb hO (fun b hb => by simp [Value.ownBlock] at hb; omega) (Nat.le_of_lt HS1.out.1.lt)
        rw [hg]; simpa [ints] using this
      have HS2 : Kept (Blk w2 B #[.slice none 0 0, .int .i64 0] 36 ∧ Below B w w2) := kept ⟨(hb.block B HS1.out.1.lt).trans HS1.out.1, HS1.out.2.trans (hb.mono (Nat.le_of_lt HS1.out.1.lt))⟩
      have HM2 := kept hM2
      rw [← hg]
      have HC := kept (HRo.out w2 (by rw [← HB.out]; exact HS2.out.2))
      clear hO hb hlt2 hg hM2 hlt HS1 HR1
      go_wp2_with fail
      refine HC.out.mono ?_
      rintro e w3 ⟨v7, rfl, ho⟩
      have hM3 := HM2.out.add ho.low ho.own ho.new (Nat.le_of_lt HS2.out.1.lt)
      have HS3 : Kept (Blk w3 B #[.slice none 0 0, .int .i64 0] 36 ∧ Below B w w3) := kept ⟨(ho.low.block B HS2.out.1.lt).trans HS2.out.1, HS2.out.2.trans (ho.low.mono (Nat.le_of_lt HS2.out.1.lt))⟩
      obtain ⟨a7, c7, rfl, ha7⟩ := sliceX ho.own
      have HM3 := kept hM3
      have hnl := length_ordL l0
      rw [HL.out] at hnl
      obtain ⟨n, hn⟩ : ∃ n, n = (ordL l0).length := ⟨_, rfl⟩
      rw [← hn] at HM3 hnl ⊢
      have HN := kept hn
      have HA7 := kept ha7
      clear ho hM3 hn ha7 HC HM2 HS2
      have d0 := HS3.out.1.cell (i := 0) rfl
      have d1 := HS3.out.1.cell (i := 1) rfl
      have f0 := HS3.out.1.free 0
      have f1 := HS3.out.1.free 1
      by_cases hn1 : n = 1
      · subst hn1
        have hlen1 : (ordL l0).length = 1 := HN.out.symm
        obtain ⟨k, hk⟩ : ∃ k, ordL l0 = [k] := List.length_eq_one_iff.1 hlen1
        obtain ⟨g7, rfl⟩ := HA7.out (by rw [hk]; simp)
        have hk65 : k < 65 := by have h := (mem_ordL (f := l0) (i := k)).1 (by rw [hk]; simp); rw [← HL.out]; exact h.1
        have hcell7 : w3.cell? ⟨g7, 0, none⟩ = some (.int .i64 (k : Int)) := by
          have := (HM3.out.own 1 _ _ rfl).cell (j := 0) (idx_at _ 0 (by rw [hlen1]; decide))
          rw [hk] at this; exact this
        have co := (HM3.out.own 0 _ _ rfl).cell (j := k) (Own.ints_at .i64 (List.replicate 65 0) k (by simpa using hk65))
        have fo := (HM3.out.own 0 _ _ rfl).free k
        have HLen : Kept (lenL l0 m = (List.replicate 65 0).set k 1) := kept (by
          have e : lensOf l0 m = [1] := by unfold lensOf; rw [if_pos hlen1]
          unfold lenL; rw [e, hk]; rfl)
        have hM4 := (HM3.out.store 0 rfl k (.int .i64 1) (Nat.le_of_lt HS3.out.1.lt)).rest
        rw [← ints_set] at hM4
        have HM4 : Kept (Many B (w3.setCell ⟨g, k, none⟩ (.int .i64 1)) 3 [(.slice (some ⟨g, 0, none⟩) 65 65, ints .i64 (lenL l0 m))]) := kept (by rw [HLen.out]; exact hM4)
        have hc4 : Chg (fun b => some b = (Value.slice (some ⟨g, 0, none⟩) 65 65).ownBlock) w3 (w3.setCell ⟨g, k, none⟩ (.int .i64 1)) := (Chg.setCell w3 ⟨g, k, none⟩ (.int .i64 1)).mono fun b _ hb => by rw [hb]; rfl
        have HS4 : Kept (Blk (w3.setCell ⟨g, k, none⟩ (.int .i64 1)) B #[.slice none 0 0, .int .i64 0] 36 ∧ Below B w (w3.setCell ⟨g, k, none⟩ (.int .i64 1))) := kept ⟨HM3.out.other 0 rfl hc4 HS3.out.1 (by decide), HS3.out.2.trans (HM3.out.below 0 rfl hc4 (Nat.le_of_lt HS3.out.1.lt))⟩
        have HE := kept (rlen_end HS4.out.1 HS4.out.2 HM4.out)
        have e0 := HS4.out.1.cell (i := 0) rfl
        have e1 := HS4.out.1.cell (i := 1) rfl
        have g0 := HS4.out.1.free 0
        have g1 := HS4.out.1.free 1
        clear hk hlen1 hM4 hc4 d0 d1 f0 f1
        go_wp2_with fail
        exact bodyPost_ret (results_cell_row rfl _ _ B 36 #[.slice (some ⟨g, 0, none⟩) 65 65, .int .i64 0] (0, 0) _ rfl HE.out.1 Try.underlying36 rfl (by kernel_rfl)) rfl ⟨_, rfl, HE.out.2⟩
      · by_cases hn0 : n = 0
        · subst hn0
          have HE := kept (rlen_end HS3.out.1 HS3.out.2 HM3.out.rest)
          have HLen : Kept (lenL l0 m = List.replicate 65 0) := kept (by
            have e : ordL l0 = [] := List.length_eq_zero_iff.1 HN.out.symm
            unfold lenL; rw [e, scat_nil])
          clear hn1
          go_wp2_with fail
          exact bodyPost_ret (results_cell_row rfl _ _ B 36 #[.slice (some ⟨g, 0, none⟩) 65 65, .int .i64 0] (0, 0) _ rfl HE.out.1 Try.underlying36 rfl (by kernel_rfl)) rfl ⟨_, rfl, by rw [HLen.out]; exact HE.out.2⟩
        · obtain ⟨g7, rfl⟩ := HA7.out (by intro e; apply hn0; rw [HN.out, e]; rfl)
          have tn1 : ((n : Int) == 1) = false := by rw [beq_eq_false_iff_ne]; omega
          have hn2 : 2 ≤ n := by omega
          clear hn0 hn1 d0 d1 f0 f1
          go_upto_region 14 with (fail)
          go_cut [8] from 65 to 72 (fun s8 wx => ∃ p vk vs, s8 = .pointer (some ⟨p, 0, none⟩) ∧ StB B w wx g g7 c7 l0 m p (.slice none 0 0) vk vs (List.replicate 65 0) [] (List.replicate 166600 0) (List.replicate (n + 1) 0))
          case first =>
            refine wp_region_treeL [0,2,3,4] [] (.two 1 (.seq [5,6,7,8]) 5 (.seq [1,6,7,8])) (by kernel_rfl) (by kernel_rfl) ?_
            intro K hK
            simp only [pick, List.filterMap_cons, List.filterMap_nil, List.getElem?_cons_zero, List.getElem?_cons_succ]
            repeat (show wpQuiet _ _ _ _ (_ :: _) _; go_big_quiet_step (fail))
            refine wpQuiet_nil (wpQuiet_nil ?_)
            generalize hwd : World.drew w3 = x0
            have HS4 : Kept (Blk x0 B #[.slice none 0 0, .int .i64 0] 36 ∧ Below B w x0) := kept (by rw [← hwd]; exact ⟨HS3.out.1, HS3.out.2.drew⟩)
            have HM4 : Kept (Many B x0 3 ([(.slice (some ⟨g, 0, none⟩) 65 65, ints .i64 (List.replicate 65 0))] ++ [(.slice (some ⟨g7, 0, none⟩) n c7, idx (ordL l0))])) := kept (by rw [← hwd]; exact HM3.out.later (Below.refl _ _).drew)
            clear hwd
            refine (show _ ∧ _ from ⟨?_, ?_⟩)
            · show wpList _ _ _ [_] _ _
              refine wpList_mk1 rfl _ _ 22 rfl 3 i0 (.int .i64 0) 8 Try.underlying22 hi hz0 hz1 hz2 rfl .i64 .i64 166600 166600 166600 rfl rfl rfl rfl (by decide) (by decide) ?_
              intro x1 hO hb hlt2
              obtain ⟨g1, hg1⟩ : ∃ g1, g1 = x0.heap.size := ⟨_, rfl⟩
              have hm1 := HM4.out.add hb hO (fun b hb => by simp [Value.ownBlock] at hb; omega) (Nat.le_of_lt HS4.out.1.lt)
              rw [← hg1] at hm1 ⊢
              have HS5 : Kept (Blk x1 B #[.slice none 0 0, .int .i64 0] 36 ∧ Below B w x1) := kept ⟨(hb.block B HS4.out.1.lt).trans HS4.out.1, HS4.out.2.trans (hb.mono (Nat.le_of_lt HS4.out.1.lt))⟩
              have HM5 := kept hm1
              clear hO hb hlt2 hg1 hm1
              change wpTr _ _ _ _ _ _
              unfold wpTr
              show wpList _ _ _ [_, _, _, _] _ _
              refine wpList_mk1 rfl _ _ 22 rfl 3 i0 (.int .i64 0) 8 Try.underlying22 hi hz0 hz1 hz2 rfl .i64 .i64 _ _ (n + 1) rfl rfl (by omega) (by omega) (by omega) (by simp [maxLen]; omega) ?_
              intro x2 hO hb hlt2
              obtain ⟨g2, hg2⟩ : ∃ g2, g2 = x1.heap.size := ⟨_, rfl⟩
              have hm2 := HM5.out.add hb hO (fun b hb => by simp [Value.ownBlock] at hb; omega) (Nat.le_of_lt HS5.out.1.lt)
              rw [← hg2] at hm2 ⊢
              have HS6 : Kept (Blk x2 B #[.slice none 0 0, .int .i64 0] 36 ∧ Below B w x2) := kept ⟨(hb.block B HS5.out.1.lt).trans HS5.out.1, HS5.out.2.trans (hb.mono (Nat.le_of_lt HS5.out.1.lt))⟩
              rw [HN.out] at hm2
              have hm3 := StB.make (g := g) (g7 := g7) (c7 := c7) (l := l0) (m := m) (xs := List.replicate 65 0) (K := List.replicate 166600 0) (S := List.replicate (n + 1) 0) HS6.out.1 HS6.out.2 (by
                have h := hm2
                have e1 : List.replicate 166600 (Value.int .i64 0) = ints .i64 (List.replicate 166600 0) := by unfold ints; rw [List.map_replicate]
                have e2 : List.replicate (n + 1) (Value.int .i64 0) = ints .i64 (List.replicate (n + 1) 0) := by unfold ints; rw [List.map_replicate]
                rw [← HN.out, e1, e2] at h
                rw [← HN.out]
                exact h)
              have HB3 := kept hm3
              clear hO hb hlt2 hg2 hm2 hm3
              go_wp2_with fail
              refine hK _ _ ?_
              go_wp2_with fail
              go_meet
              case rel => exact ⟨_, _, _, rfl, HB3.out⟩
            · show wpList _ _ _ [_] _ _
              refine wpList_mk1 rfl _ _ 22 rfl 3 i0 (.int .i64 0) 8 Try.underlying22 hi hz0 hz1 hz2 rfl .i64 .i64 _ _ (n + 1) rfl rfl (by omega) (by omega) (by omega) (by simp [maxLen]; omega) ?_
              intro x1 hO hb hlt2
              obtain ⟨g1, hg1⟩ : ∃ g1, g1 = x0.heap.size := ⟨_, rfl⟩
              have hm1 := HM4.out.add hb hO (fun b hb => by simp [Value.ownBlock] at hb; omega) (Nat.le_of_lt HS4.out.1.lt)
              rw [← hg1] at hm1 ⊢
              have HS5 : Kept (Blk x1 B #[.slice none 0 0, .int .i64 0] 36 ∧ Below B w x1) := kept ⟨(hb.block B HS4.out.1.lt).trans HS4.out.1, HS4.out.2.trans (hb.mono (Nat.le_of_lt HS4.out.1.lt))⟩
              have HM5 := kept hm1
              clear hO hb hlt2 hg1 hm1
              change wpTr _ _ _ _ _ _
              unfold wpTr
              show wpList _ _ _ [_, _, _, _] _ _
              refine wpList_mk1 rfl _ _ 22 rfl 3 i0 (.int .i64 0) 8 Try.underlying22 hi hz0 hz1 hz2 rfl .i64 .i64 _ _ 166600 rfl rfl rfl rfl (by decide) (by decide) ?_
              intro x2 hO hb hlt2
              obtain ⟨g2, hg2⟩ : ∃ g2, g2 = x1.heap.size := ⟨_, rfl⟩
              have hm2 := HM5.out.add hb hO (fun b hb => by simp [Value.ownBlock] at hb; omega) (Nat.le_of_lt HS5.out.1.lt)
              rw [← hg2] at hm2 ⊢
              have HS6 : Kept (Blk x2 B #[.slice none 0 0, .int .i64 0] 36 ∧ Below B w x2) := kept ⟨(hb.block B HS5.out.1.lt).trans HS5.out.1, HS5.out.2.trans (hb.mono (Nat.le_of_lt HS5.out.1.lt))⟩
              rw [HN.out] at hm2
              have hm3 := StB.make (g := g) (g7 := g7) (c7 := c7) (l := l0) (m := m) (xs := List.replicate 65 0) (K := List.replicate 166600 0) (S := List.replicate (n + 1) 0) HS6.out.1 HS6.out.2 (by
                have h := hm2.swap
                have e1 : List.replicate 166600 (Value.int .i64 0) = ints .i64 (List.replicate 166600 0) := by unfold ints; rw [List.map_replicate]
                have e2 : List.replicate (n + 1) (Value.int .i64 0) = ints .i64 (List.replicate (n + 1) 0) := by unfold ints; rw [List.map_replicate]
                rw [← HN.out, e1, e2] at h
                rw [← HN.out]
                exact h)
              have HB3 := kept hm3
              clear hO hb hlt2 hg2 hm2 hm3
              go_wp2_with fail
              refine hK _ _ ?_
              go_wp2_with fail
              go_meet
              case rel => exact ⟨_, _, _, rfl, HB3.out⟩
          case rest =>
            obtain ⟨p, vk, vs, rfl, hst⟩ := hcut
            obtain ⟨w4, rfl⟩ : ∃ w4, w4 = wc := ⟨wc, rfl⟩
            obtain ⟨G, hG⟩ : ∃ G, G = ofs l0 := ⟨_, rfl⟩
            have hGl : G.length = n := by rw [hG, length_ofs]; exact HN.out.symm
            have HG := kept hG
            have HGl := kept hGl
            have HS4 := kept hst
            clear hG hGl hst HS3 HM3 HA7
            go_wp2_with fail
            go_loopw [9] (fun s9 wr => ∃ i : Nat, i ≤ n ∧ s9 = .int .i64 (i : Int) ∧ ∃ vf, StB B w wr g g7 c7 l0 m p vf vk vs (List.replicate 65 0) (G.take i) (List.replicate 166600 0) (List.replicate (n + 1) 0)) (fun s9 _ => n - (intOf s9).toNat)
            case atStart => exact ⟨0, by omega, rfl, _, HS4.out⟩
            case round =>
              obtain ⟨i, hin, rfl, vf, hst⟩ := hrel
              obtain ⟨wq, rfl⟩ : ∃ wq, wq = wr := ⟨wr, rfl⟩
              by_cases hlt : i < n
              · have hio : i < (ordL l0).length := by rw [← HN.out]; exact hlt
                obtain ⟨q, hq⟩ : ∃ q, q = (ordL l0).getD i 0 := ⟨_, rfl⟩
                have hqm : q ∈ ordL l0 := by rw [hq]; simp [List.getD_eq_getElem?_getD, hio]
                have hq65 : q < 65 := by have h := (mem_ordL.1 hqm).1; rw [HL.out] at h; exact h
                have c7i := hst.ordAt i hio
                rw [← hq] at c7i
                have cp := hst.blk.cell (i := 0) rfl
                have hrd := HR.out.later (show Below w.heap.size w wq by rw [← HB.out]; exact hst.low)
                obtain ⟨x, rfl, hcq⟩ := hrd.at (Own.ints_at .i64 l0 q (by rw [HL.out]; exact hq65))
                obtain ⟨y, hy⟩ : ∃ y, y = l0.getD q 0 := ⟨_, rfl⟩
                rw [← hy] at hcq
                have hGi : G.take (i + 1) = G.take i ++ [y] := by
                  have hiG : i < G.length := by rw [HGl.out]; exact hlt
                  have h := ofs_at l0 i hio
                  rw [← HG.out, ← hq, ← hy] at h
                  rw [List.take_succ_eq_append_getElem hiG, ← h]; simp [List.getD_eq_getElem?_getD, hiG]
                have HGi := kept hGi
                have HS := kept hst
                have l1 := lat_cell c7i
                have l2 := lat_cell cp
                have l3 := lat_cell hcq
                clear hGi hst hrd hy hq hqm hio c7i cp hcq
                go_wp2_with fail
                refine wp_region_mixL [0] [1,2,3,4,5,6,7,8,9,10,11] [12,13,14,15,16] (by kernel_rfl) (by kernel_rfl) ?_
                intro K hK
                simp only [pick, List.filterMap_cons, List.filterMap_nil, List.getElem?_cons_zero, List.getElem?_cons_succ]
                repeat (show wpQuiet _ _ _ _ (_ :: _) _; go_big_quiet_step (fail))
                show wpList _ _ _ [_, _, _, _, _] _ _
                generalize hwd : World.drew wq = wd
                have HSd := kept (show StB B w wd g g7 c7 l0 m p vf vk vs (List.replicate 65 0) (G.take i) (List.replicate 166600 0) (List.replicate (n + 1) 0) by rw [← hwd]; exact HS.out.later (Below.refl _ _).drew)
                clear hwd l1 l2 l3
                have hgl : (G.take i).length ≤ 65 := by rw [List.length_take]; omega
                have hov := HSd.out.many.own 4 _ _ rfl
                go_wp2_with (first | (at_builtin; go_loud (refine wpList_app1 rfl _ _ 22 rfl 3 i0 (.int .i64 0) 8 Try.underlying22 hi hz0 hz1 hz2 rfl vf _ (.int .i64 y) rfl hov rfl rfl ?_ ?_ ?_)))
                · simp [maxLen]; omega
                · simp; omega
                intro v5 w5 O5 C5 F5
                have e5 : ints .i64 (G.take i) ++ [.int .i64 y] = ints .i64 (G.take i ++ [y]) := by simp [ints]
                rw [e5] at O5
                obtain ⟨a5, c5, hv5⟩ := sliceI O5
                rw [← HGi.out, show (G.take (i + 1)).length = i + 1 by rw [List.length_take, HGl.out]; omega] at hv5
                subst hv5
                obtain ⟨hp1, hp2, hp3⟩ := HSd.out.push O5 C5 F5
                rw [← HGi.out] at hp1
                have HS5 := kept hp1
                clear O5 C5 F5 e5 hp1 hov
                go_wp2_with fail
                refine hK _ _ ?_
                go_wp2_with fail
                go_roundw
                case rel => exact ⟨i + 1, by omega, by go_num, _, HS5.out⟩
                case measure => simp [intOf]; omega
              · have hie : i = n := by omega
                subst hie
                have hGt : G.take i = G := List.take_of_length_le (by rw [HGl.out]; exact Nat.le_refl _)
                rw [hGt] at hst
                obtain ⟨gf, cf, hvf, _, _⟩ := rowI (hst.many.own 4 _ _ rfl) (by intro e; have := HGl.out; rw [e] at this; simp at this; omega)
                obtain ⟨gs, cs, hvs, _, _⟩ := rowI (hst.many.own 3 _ _ rfl) (by intro e; have := congrArg List.length e; simp at this)
                rw [HGl.out] at hvf
                rw [List.length_replicate] at hvs
                subst hvf hvs
                have HGs : Kept (Gs G) := kept ⟨by rw [HGl.out]; omega, fun x hx => by
                  rw [HG.out] at hx
                  obtain ⟨j, hj, rfl⟩ := List.mem_map.1 hx
                  have h2 := HF.out.each (l0.getD j 0) (by have h := (mem_ordL.1 hj).1; simp [List.getD_eq_getElem?_getD, h])
                  exact h2⟩
                have HS5 : Kept (StB B w wq g g7 c7 l0 m p (.slice (some ⟨gf, 0, none⟩) i cf) vk (.slice (some ⟨gs, 0, none⟩) (i + 1) cs) (List.replicate 65 0) G (List.replicate 166600 0) (sumsN G i)) := kept (by
                  have h := sumsN_none G
                  rw [HGl.out] at h
                  rw [h]; exact hst)
                clear hst hGt hlt HS4
                go_wp2_with fail
                go_loopw [10] (fun s10 wr => ∃ j : Nat, j ≤ i ∧ s10 = .int .i64 ((j : Int) - 1) ∧ StB B w wr g g7 c7 l0 m p (.slice (some ⟨gf, 0, none⟩) i cf) vk (.slice (some ⟨gs, 0, none⟩) (i + 1) cs) (List.replicate 65 0) G (List.replicate 166600 0) (sumsN G j)) (fun s10 _ => (intOf s10 + 1).toNat)
                case atStart => exact ⟨i, Nat.le_refl _, rfl, HS5.out⟩
                case round =>
                  obtain ⟨j, hjn, rfl, hst⟩ := hrel
                  obtain ⟨wl, rfl⟩ : ∃ wl, wl = wr := ⟨wr, rfl⟩
                  by_cases hj0 : 0 < j
                  · obtain ⟨k, rfl⟩ : ∃ k, j = k + 1 := ⟨j - 1, by omega⟩
                    rw [show (((k + 1 : Nat) : Int) - 1) = (k : Int) by omega]
                    have cp0 := hst.blk.cell (i := 0) rfl
                    have cp3 := hst.blk.cell (i := 3) rfl
                    have hsl : (sumsN G (k + 1)).length = i + 1 := by rw [length_sumsN, HGl.out]
                    have cs1 := (hst.many.own 3 _ _ rfl).cell (j := k + 1) (Own.ints_at .i64 (sumsN G (k + 1)) (k + 1) (by rw [hsl]; omega))
                    rw [sumsN_at G (k + 1) (by rw [HGl.out]; omega)] at cs1
                    have cs0 := (hst.many.own 3 _ _ rfl).cell (j := k) (Own.ints_at .i64 (sumsN G (k + 1)) k (by rw [hsl]; omega))
                    have fs0 := (hst.many.own 3 _ _ rfl).free k
                    have cf0 := (hst.many.own 4 _ _ rfl).cell (j := k) (Own.ints_at .i64 G k (by rw [HGl.out]; omega))
                    have hset := sumsN_set G k (by rw [HGl.out]; omega)
                    have hb1 := HGs.out.sum (k + 1)
                    have hb2 := HGs.out.each (G.getD k 0) (by have : k < G.length := by rw [HGl.out]; omega
                                                              simp [List.getD_eq_getElem?_getD, this])
                    obtain ⟨S1, hS1⟩ : ∃ S1, S1 = (G.drop (k + 1)).sum := ⟨_, rfl⟩
                    obtain ⟨y, hy⟩ : ∃ y, y = G.getD k 0 := ⟨_, rfl⟩
                    rw [← hS1] at cs1 hset hb1
                    rw [← hy] at cf0 hset hb2
                    obtain ⟨hb1a, hb1b⟩ := hb1
                    obtain ⟨hb2a, hb2b⟩ := hb2
                    obtain ⟨z0, hz0e⟩ : ∃ z0, z0 = (sumsN G (k + 1)).getD k 0 := ⟨_, rfl⟩
                    rw [← hz0e] at cs0
                    have HSet := kept hset
                    have HSo := kept hst
                    have l0' := lat_cell cp0
                    have l1' := lat_cell cp3
                    have l2' := lat_cell cs1
                    have l3' := lat_cell cf0
                    clear hset hst hsl hS1 hy hz0e cp0 cp3 cs1 cf0 hj0
                    go_wp2_with fail
                    refine wp_region_mixL [] [0,1,2,3,4,5,6,7,8,9,10,11,12,13,14,15,16,17,18,19,20,21] [22] (by kernel_rfl) (by kernel_rfl) ?_
                    intro K hK
                    simp only [pick, List.filterMap_cons, List.filterMap_nil, List.getElem?_cons_zero, List.getElem?_cons_succ]
                    refine wpQuiet_nil ?_
                    repeat (show wpQuiet _ _ _ _ (_ :: _) _; go_big_quiet_step (fail))
                    refine wpQuiet_nil ?_
                    show wpList _ _ _ [_] _ _
                    generalize hwd : World.drew wl = wd
                    have hcd : wd.cell? ⟨gs, k, none⟩ = some (.int .i64 z0) := by rw [← hwd]; exact cs0
                    have hfd : wd.frozen? ⟨gs, k, none⟩ = false := by rw [← hwd]; exact fs0
                    have HNd : Kept (StB B w (wd.setCell ⟨gs, k, none⟩ (.int .i64 (S1 + y))) g g7 c7 l0 m p (.slice (some ⟨gf, 0, none⟩) i cf) vk (.slice (some ⟨gs, 0, none⟩) (i + 1) cs) (List.replicate 65 0) G (List.replicate 166600 0) (sumsN G k)) := kept (by
                      have h := (HSo.out.later (Below.refl _ _).drew).storeSum k (S1 + y)
                      rw [HSet.out] at h
                      rw [← hwd]; exact h)
                    clear hwd l0' l1' l2' l3' cs0 fs0
                    go_wp2_with fail
                    refine hK _ _ ?_
                    go_wp2_with fail
                    go_roundw
                    case rel => exact ⟨k, by omega, by go_num, HNd.out⟩
                    case measure => simp [intOf]
                  · have hj : j = 0 := by omega
                    subst hj
                    rw [show (((0 : Nat) : Int) - 1) = -1 from rfl]
                    rw [sumsN_all] at hst
                    have HS6 := kept hst
                    clear hst HS5 hj0 hjn
                    obtain ⟨L, hL⟩ : ∃ L, L = lensOf l0 m := ⟨_, rfl⟩
                    obtain ⟨x0, hx0⟩ := HF.out.can (by rw [← HN.out]; exact hn2)
                    rw [← HG.out] at hx0
                    have hLe : L = lens m 1 G 2 := by rw [hL, HG.out]; unfold lensOf; rw [if_neg (by rw [← HN.out]; omega)]
                    have hLl : L.length = i := by rw [hL, HF.out.spec.1]; exact HN.out.symm
                    have HLe := kept hLe
                    have HLl := kept hLl
                    have HLL := kept hL
                    have HX0 := kept hx0
                    have hm15 := HF.out.hi
                    clear hLe hLl hL hx0
                    go_wp2_with fail
                    go_loopw [11, 12, 13] (fun s11 s12 s13 wr => ∃ (d j o r : Nat) (x : Int) (K : List Int), s11 = .int .i64 (j : Int) ∧ s12 = .int .i64 (o : Int) ∧ s13 = .int .i64 (d : Int) ∧ d + r = m + 1 ∧ 1 ≤ d ∧ j ≤ i ∧ o ≤ 130 ∧ dp r (G.drop j) o = some x ∧ L.drop j = lens r d (G.drop j) o ∧ KGood m G K ∧
                        StB B w wr g g7 c7 l0 m p (.slice (some ⟨gf, 0, none⟩) i cf) vk (.slice (some ⟨gs, 0, none⟩) (i + 1) cs) (scat (List.replicate 65 0) ((ordL l0).take j) (L.take j)) G K (sums G)) (fun _ _ s13 _ => m + 1 - (intOf s13).toNat)
                    case atStart =>
                      refine ⟨1, 0, 2, m, x0, _, rfl, rfl, rfl, by omega, Nat.le_refl _, Nat.zero_le _, by decide, HX0.out, by rw [List.drop_zero, List.drop_zero]; exact HLe.out, kgood_zero m G hm15, ?_⟩
                      rw [List.take_zero, scat_nil]; exact HS6.out
                    case round =>
                      obtain ⟨d, j, o, r, x, K, rfl, rfl, rfl, hdr, hd1, hji, ho130, hdp, hLd, hK, hst⟩ := hrel
                      obtain ⟨wl, rfl⟩ : ∃ wl, wl = wr := ⟨wr, rfl⟩
                      by_cases hlt : j < i
                      · have hne : G.drop j ≠ [] := by intro e; have := congrArg List.length e; rw [List.length_drop, HGl.out] at this; simp at this; omega
                        obtain ⟨r, rfl⟩ : ∃ r', r = r' + 1 := by
                          cases r with
                          | zero => rw [dp_out hne (by omega)] at hdp; cases hdp
                          | succ r => exact ⟨r, rfl⟩
                        obtain ⟨ho1, hol, y, hy, hxy⟩ := dp_some hdp hne
                        rw [List.length_drop, HGl.out] at hol
                        obtain ⟨k, hk⟩ : ∃ k, k = Dp.take r (G.drop j) o := ⟨_, rfl⟩
                        have hko : k ≤ o := by rw [hk]; exact take_le _ _ _
                        rw [lens_cons hne, ← hk] at hLd
                        rw [← hk] at hy hxy
                        have hxb := dp_le _ _ _ _ (HGs.out.drop j) hdp
                        obtain ⟨hx1, hx2⟩ := hxb
                        have hx3 : x ≤ 20000000000 := by omega
                        have hcall := cost_calls G m p _ _ _ HGs.out hm15 (r + 1) d j o K wl (hst.tab hK) (by rw [HGl.out]; omega) ho130 hd1 hdr
                        unfold CostE at hcall
                        rw [hdp] at hcall
                        simp only [enc] at hcall
                        have HC1 := kept hcall
                        have HSt := kept hst
                        have HK := kept hk
                        have HLd := kept hLd
                        have HY := kept hy
                        have HDp := kept hdp
                        have HNe := kept hne
                        clear hcall hst hk hLd hy hdp hne hxy hx2 hK HS6
                        go_upto_block 8 with (first | (go_at_call 21; refine HC1.out.mono ?_; rintro e w5 ⟨rfl, K2, hT2, hC2⟩; have HK2 := kept hT2.good; have HS2 := kept (HSt.out.costed hT2 hC2); clear hT2 hC2))
                        go_cut [15] from 136 to 167 (fun s15 wx => s15 = .int .i64 (k : Int) ∧ ∃ K', KGood m G K' ∧ StB B w wx g g7 c7 l0 m p (.slice (some ⟨gf, 0, none⟩) i cf) vk (.slice (some ⟨gs, 0, none⟩) (i + 1) cs) (scat (List.replicate 65 0) ((ordL l0).take j) (L.take j)) G K' (sums G))
                        case first =>
                          go_wp2_with fail
                          go_loopw [15] (fun s15 wr => ∃ (t : Nat) (K' : List Int), t ≤ o ∧ s15 = .int .i64 (t : Int) ∧ (∀ t', t < t' → t' ≤ o → cand r (G.drop j) o t' ≠ some x) ∧ KGood m G K' ∧
                            StB B w wr g g7 c7 l0 m p (.slice (some ⟨gf, 0, none⟩) i cf) vk (.slice (some ⟨gs, 0, none⟩) (i + 1) cs) (scat (List.replicate 65 0) ((ordL l0).take j) (L.take j)) G K' (sums G)) (fun s15 _ => (intOf s15).toNat)
                          case atStart => exact ⟨o, _, Nat.le_refl _, rfl, fun t' h1 h2 => by omega, HK2.out, HS2.out⟩
                          case round =>
                            obtain ⟨t, K3, hto, rfl, hbig, hK3, hst3⟩ := hrel
                            obtain ⟨wk, rfl⟩ : ∃ wk, wk = wr := ⟨wr, rfl⟩
                            by_cases ht0 : 0 < t
                            · have hcall := cost_calls G m p _ _ _ HGs.out hm15 r (d + 1) (j + t) (2 * (o - t)) K3 wk (hst3.tab hK3) (by rw [HGl.out]; omega) (by omega) (by omega) (by omega)
                              rw [show ((d + 1 : Nat) : Int) = (d : Int) + 1 by omega, show ((j + t : Nat) : Int) = (j : Int) + (t : Int) by omega, show ((2 * (o - t) : Nat) : Int) = 2 * ((o : Int) - (t : Int)) by omega] at hcall
                              unfold CostE at hcall
                              have hcand : cand r (G.drop j) o t = (dp r (G.drop (j + t)) (2 * (o - t))).map (· + (G.drop (j + t)).sum) := by unfold cand; rw [List.drop_drop]
                              have hSb := HGs.out.sum (j + t)
                              have hsAt := sums_at G (j + t) (by rw [HGl.out]; omega)
                              have hsl := length_sums G
                              obtain ⟨S, hS⟩ : ∃ S, S = (G.drop (j + t)).sum := ⟨_, rfl⟩
                              rw [← hS] at hcand hSb hsAt
                              obtain ⟨hSb1, hSb2⟩ := hSb
                              have HSt3 := kept hst3
                              have HBig := kept hbig
                              have HSAt := kept hsAt
                              have HSl := kept hsl
                              clear hst3 hbig hS hsAt hsl
                              cases hdt : dp r (G.drop (j + t)) (2 * (o - t)) with
                              | none =>
                                rw [hdt] at hcall hcand
                                simp only [enc] at hcall
                                have HC3 := kept hcall
                                have HCa := kept hcand
                                clear hcall hcand hdt
                                go_wp2_with (first | (go_at_call 21; refine HC3.out.mono ?_; rintro e w6 ⟨rfl, K4, hT4, hC4⟩; have HK4 := kept hT4.good; have HS4 := kept (HSt3.out.costed hT4 hC4); clear hT4 hC4))
                                go_roundw
                                case rel =>
                                  refine ⟨t - 1, K4, by omega, by go_num, fun t' h1 h2 => ?_, HK4.out, HS4.out⟩
                                  by_cases e : t' = t
                                  · rw [e, HCa.out]; simp
                                  · exact HBig.out t' (by omega) h2
                                case measure => simp [intOf]; omega
                              | some z =>
                                rw [hdt] at hcall hcand
                                simp only [enc, Option.map_some] at hcall hcand
                                have hzb := dp_le _ _ _ _ (HGs.out.drop (j + t)) hdt
                                obtain ⟨hz1', hz2'⟩ := hzb
                                have hz3' : z ≤ 20000000000 := by omega
                                have tz : decide (0 ≤ z) = true := decide_eq_true hz1'
                                have HC3 := kept hcall
                                have HCa := kept hcand
                                clear hcall hcand hdt hz2'
                                by_cases heq : z + S = x
                                · have teq : (z + S == x) = true := by rw [beq_iff_eq]; exact heq
                                  have HTk : Kept (k = t) := kept (by rw [HK.out]; exact take_is HDp.out HNe.out hto HBig.out (.inr (by rw [HCa.out, heq])))
                                  have HEq := kept heq
                                  clear heq
                                  go_wp2_with (first | (go_at_call 21; refine HC3.out.mono ?_; rintro e w6 ⟨rfl, K4, hT4, hC4⟩; have HK4 := kept hT4.good; have HS4 := kept (HSt3.out.costed hT4 hC4); have d3 := hT4.blk.cell (i := 3) rfl; have dsum := (by have := (hT4.rs.cell (j := j + t) (Own.ints_at .i64 (sums G) (j + t) (by rw [HSl.out, HGl.out]; omega))); rw [HSAt.out] at this; exact this : w6.cell? ⟨gs, j + t, none⟩ = some (.int .i64 S)); clear hT4 hC4))
                                  go_meet
                                  case rel => exact ⟨by rw [HTk.out], K4, HK4.out, HS4.out⟩
                                · have teq : (z + S == x) = false := by rw [beq_eq_false_iff_ne]; exact heq
                                  have HEq := kept heq
                                  clear heq
                                  go_wp2_with (first | (go_at_call 21; refine HC3.out.mono ?_; rintro e w6 ⟨rfl, K4, hT4, hC4⟩; have HK4 := kept hT4.good; have HS4 := kept (HSt3.out.costed hT4 hC4); have d3 := hT4.blk.cell (i := 3) rfl; have dsum := (by have := (hT4.rs.cell (j := j + t) (Own.ints_at .i64 (sums G) (j + t) (by rw [HSl.out, HGl.out]; omega))); rw [HSAt.out] at this; exact this : w6.cell? ⟨gs, j + t, none⟩ = some (.int .i64 S)); clear hT4 hC4))
                                  go_roundw
                                  case rel =>
                                    refine ⟨t - 1, K4, by omega, by go_num, fun t' h1 h2 => ?_, HK4.out, HS4.out⟩
                                    by_cases e : t' = t
                                    · rw [e, HCa.out]; intro h; exact HEq.out (Option.some.inj h)
                                    · exact HBig.out t' (by omega) h2
                                  case measure => simp [intOf]; omega
                            · have ht : t = 0 := by omega
                              subst ht
                              have HTk : Kept (k = 0) := kept (by rw [HK.out]; exact take_is HDp.out HNe.out (Nat.zero_le _) hbig (.inl rfl))
                              have HS7 := kept hst3
                              have HK7 := kept hK3
                              clear hst3 hK3 hbig ht0
                              go_wp2_with fail
                              go_meet
                              case rel => exact ⟨by rw [HTk.out], K3, HK7.out, HS7.out⟩
                        case rest =>
                          obtain ⟨rfl, K5, hK5, hst5⟩ := hcut
                          obtain ⟨w8, rfl⟩ : ∃ w8, w8 = wc := ⟨wc, rfl⟩
                          have HK5 := kept hK5
                          have HS5' := kept hst5
                          have hkj : j + k ≤ i := by omega
                          have HLat : Kept (∀ q, q < k → L.getD (j + q) 0 = d) := kept (fun q hq => by
                            have e : L.getD (j + q) 0 = (L.drop j).getD q 0 := by simp [List.getD_eq_getElem?_getD]
                            rw [e, HLd.out]
                            have hq2 : q < (List.replicate k d).length := by rw [List.length_replicate]; exact hq
                            rw [List.getD_eq_getElem?_getD, List.getElem?_append_left hq2]
                            simp [hq])
                          have HLdr : Kept (L.drop (j + k) = lens r (d + 1) (G.drop (j + k)) (2 * (o - k))) := kept (by
                            have e : L.drop (j + k) = (L.drop j).drop k := by rw [List.drop_drop]
                            rw [e, HLd.out, List.drop_drop, List.drop_left' (by rw [List.length_replicate])])
                          have HY2 : Kept (dp r (G.drop (j + k)) (2 * (o - k)) = some y) := kept (by rw [← HY.out, List.drop_drop])
                          clear hK5 hst5 HSt HK2 HS2 HC1
                          go_wp2_with fail
                          go_loopw [17] (fun s17 wr => ∃ q : Nat, q ≤ k ∧ s17 = .int .i64 (q : Int) ∧ StB B w wr g g7 c7 l0 m p (.slice (some ⟨gf, 0, none⟩) i cf) vk (.slice (some ⟨gs, 0, none⟩) (i + 1) cs) (scat (List.replicate 65 0) ((ordL l0).take (j + q)) (L.take (j + q))) G K5 (sums G)) (fun s17 _ => k - (intOf s17).toNat)
                          case atStart => exact ⟨0, Nat.zero_le _, rfl, HS5'.out⟩
                          case round =>
                            obtain ⟨q, hqk, rfl, hst6⟩ := hrel
                            obtain ⟨wm, rfl⟩ : ∃ wm, wm = wr := ⟨wr, rfl⟩
                            by_cases hq : q < k
                            · have hjq : j + q < (ordL l0).length := by rw [← HN.out]; omega
                              obtain ⟨c, hc⟩ : ∃ c, c = (ordL l0).getD (j + q) 0 := ⟨_, rfl⟩
                              have hcm : c ∈ ordL l0 := by rw [hc]; simp [List.getD_eq_getElem?_getD, hjq]
                              have hc65 : c < 65 := by have h := (mem_ordL.1 hcm).1; rw [HL.out] at h; exact h
                              have c7i := hst6.ordAt (j + q) hjq
                              rw [← hc] at c7i
                              have hsc := scat_take (List.replicate 65 0) (ordL l0) L (j + q) hjq (by rw [HLl.out]; omega)
                              rw [← hc, HLat.out q hq] at hsc
                              obtain ⟨xs, hxs⟩ : ∃ xs, xs = scat (List.replicate 65 0) ((ordL l0).take (j + q)) (L.take (j + q)) := ⟨_, rfl⟩
                              have hxl : xs.length = 65 := by rw [hxs, length_scat]; simp
                              rw [← hxs] at hsc hst6
                              have co := hst6.out.cell (j := c) (Own.ints_at .i64 xs c (by rw [hxl]; exact hc65))
                              have fo := hst6.out.free c
                              have hst7 := hst6.storeOut c (d : Int)
                              rw [← hsc] at hst7
                              obtain ⟨z0, hz0e⟩ : ∃ z0, z0 = xs.getD c 0 := ⟨_, rfl⟩
                              rw [← hz0e] at co
                              have HS7 := kept hst7
                              clear hst6 hst7 hsc hxs hxl hz0e hc hcm hjq
                              go_wp2_with fail
                              go_roundw
                              case rel => exact ⟨q + 1, by omega, by go_num, HS7.out⟩
                              case measure => simp [intOf]; omega
                            · have hqe : q = k := by omega
                              subst hqe
                              have HS7 := kept hst6
                              clear hst6 hq
                              go_wp2_with fail
                              go_roundw
                              case rel =>
                                exact ⟨d + 1, j + q, 2 * (o - q), r, y, K5, by go_num, by go_num, by go_num, by omega, by omega, hkj, by omega, HY2.out, HLdr.out, HK5.out, HS7.out⟩
                              case measure => simp [intOf]; omega
                      · have hje : j = i := by omega
                        subst hje
                        rw [List.take_of_length_le (by rw [← HN.out]; exact Nat.le_refl _), List.take_of_length_le (by rw [HLl.out]; exact Nat.le_refl _), HLL.out] at hst
                        have HLn : Kept (scat (List.replicate 65 0) (ordL l0) (lensOf l0 m) = lenL l0 m) := kept rfl
                        rw [HLn.out] at hst
                        have HE := kept (rlen_end hst.res hst.low hst.many.rest)
                        have d0 := hst.res.cell (i := 0) rfl
                        have d1 := hst.res.cell (i := 1) rfl
                        have f0 := hst.res.free 0
                        have f1 := hst.res.free 1
                        clear hst hdp hLd hK HS6
                        go_wp2_with fail
                        exact bodyPost_ret (results_cell_row rfl _ _ B 36 #[.slice (some ⟨g, 0, none⟩) 65 65, .int .i64 0] (0, 0) _ rfl HE.out.1 Try.underlying36 rfl (by kernel_rfl)) rfl ⟨_, rfl, HE.out.2⟩
end Go.Proofs.Ytkdmamffbhlbgaa

-- ---- Le
/- The answer of both lengths. No program in sight. -/
namespace Go.Proofs.Ytkdmamffbhlbgaa.PA
/-- The answer. -/
def lenE (l : List Int) (a : Int) : List Int × Int := if fqB l a = true then (Dp.lenL l a.toNat, 0) else ([], 1)
/-- A cost, as both reckon it: of the first i. -/
def costA (a b : List Int) : Nat → Int
  | 0 => 0
  | i + 1 => Go.RowKit.wrap64 (costA a b i + Go.RowKit.wrap64 (a.getD i 0 * b.getD i 0))
def costW (a b : List Int) : Int := costA a b (min a.length b.length)
end Go.Proofs.Ytkdmamffbhlbgaa.PA

-- ---- PAx18
/- The document's lengths: what the call answers, for every list and limit. Conditions: the list's length fits a slice. -/
namespace Go.Proofs.Ytkdmamffbhlbgaa.PA
open Go.RowKit Go.Proofs.YtkdmamffbhlbgaaW.PrintWords Go.Proofs.YtkdmamffbhlbgaaW.PrintLast Go.Proofs.YtkdmamffbhlbgaaW.PrintMore
set_option linter.unusedVariables false
set_option linter.unusedSimpArgs false

def wringerref7_Lengths.f (l0 : List Int) (a1 : Int) : Option (List Int × Int) := if l0.length < 200000000000000 then some (lenE l0 a1) else none
theorem wringerref7_Lengths.calls (A0 : Option Addr) (c0 : Nat) (l0 : List Int) (a1 : Int) (r1 : List Int) (r2 : Int) (w : World) (hr0 : Kd.C (Kd.int .i64) w A0 l0.length l0) (hc0 : l0.length ≤ c0) (h : wringerref7_Lengths.f l0 a1 = some (r1, r2)) :
    Calls Try.prog 15 #[.slice A0 l0.length c0, .int .i64 a1] w fun e w' => ∃ v0_ : Value, e = .returned (.agg #[v0_, .int .i64 r2]) ∧ Kd.R (Kd.int .i64) 3 w' w.heap.size (fun _ => True) v0_ r1 ∧ Below w.heap.size w w' := by
  unfold wringerref7_Lengths.f at h
  split at h
  · rename_i hn
    have h := Option.some.inj h
    unfold lenE at h
    have hR := Own.rd_of_C hr0
    split at h
    · rename_i hg
      obtain ⟨rfl, rfl⟩ := Prod.mk.inj h
      obtain ⟨m, rfl, hf⟩ := (fqB_iff l0 a1).1 hg
      have h65 := hf.len
      rw [h65] at hR ⊢
      refine (rlen_ok A0 c0 l0 m w hR hf).mono ?_
      rintro e w' ⟨v, rfl, ho, hnew, hb⟩
      exact ⟨v, rfl, Own.R_of_owns (by rw [Int.toNat_natCast]; exact ho) hnew, hb⟩
    · rename_i hg
      obtain ⟨rfl, rfl⟩ := Prod.mk.inj h
      refine (rlen_bad A0 l0.length c0 l0 a1 w hR hn hg).mono ?_
      rintro e w' ⟨rfl, hb⟩
      exact ⟨_, rfl, Kd.R_nil _ _ _ _ _, hb⟩
  · cases h
end Go.Proofs.Ytkdmamffbhlbgaa.PA

-- ---- CanonTurned
/- CanonTurned: with one length turned, lengths may not be, but where few are left: what the call answers, for every input. Conditions: the list reads as the argument does. -/
namespace Go.Proofs.Ytkdmamffbhlbgaa
set_option linter.unusedSimpArgs false
set_option linter.unusedVariables false
open Go.RowKit Go.BigFrame Mix _root_.Go.Proofs.Ytkdmamffbhlbgaa.Own PA Dp Cd Go.Proofs.YtkdmamffbhlbgaaW.PrintWords
attribute [local go_sem] _root_.Go.Proofs.Ytkdmamffbhlbgaa.Own.max_int _root_.Go.Proofs.Ytkdmamffbhlbgaa.Own.min_int

theorem u8_atT {a : Int} (h : (Lit.int .u8 a).wf = true) : ∃ v : Nat, a = (v : Int) ∧ v ≤ 255 := by
  simp only [Lit.wf, Bool.and_eq_true, decide_eq_true_eq] at h
  have h1 : IntKind.u8.min = 0 := rfl
  have h2 : IntKind.u8.max = 255 := rfl
  exact ⟨a.toNat, by omega, by omega⟩
theorem field_lens (v0 v1 : Value) (w_ : World) : (Instr.field 36 (.agg #[v0, v1]) 0).run Try.prog w_ = .ok v0 w_ := by
  unfold Instr.field
  rw [Sem.run_bind, run_underlying Try.underlying36 w_]
  simp [part, asAgg, Sem.run_bind, isAgg, run_underlying Try.underlying22, run_underlying Try.underlying3, Result.andThen]

def cntP (l : List Int) : Nat := (l.map fun n : Int => if 0 < n then 1 else 0).sum
theorem cntP_le (l : List Int) : cntP l ≤ l.length := by
  unfold cntP
  induction l with
  | nil => simp
  | cons a t ih => simp only [List.map_cons, List.sum_cons, List.length_cons]; split <;> omega
theorem one_cell {w : World} {g : Nat} {u : Value} {t : TypeId} (h : Blk w g #[u] t) : ∀ j y, [u][j]? = some y → w.cell? ((⟨g, 0, none⟩ : Addr).add j) = some y := fun j y hj => by
  match j, hj with
  | 0, hj => simp at hj; subst hj; simpa [Addr.add] using h.cell (i := 0) rfl
theorem ints_snoc (l : List Int) (x : Int) : ints .i64 (l ++ [x]) = ints .i64 l ++ [.int .i64 x] := by simp [ints]
theorem own_cap {w : World} {e : TypeId} {a : Option Addr} {n c : Nat} {xs : List Value} (h : Owns w e (.slice a n c) xs) : n ≤ c := by
  rcases h.form with ⟨hv, _⟩ | ⟨g, cap, cur, hv, _, h3, _⟩
  · simp only [Value.slice.injEq] at hv; omega
  · simp only [Value.slice.injEq] at hv; omega
/-- 'append' at a guarded operation. -/
theorem wpList_appG {P : Program} {w : World} {ops : Array Oper} {rest : List Oper} {o : Oper} {a : Act} {Q : Exit → Act → World → Prop} (hgd : Region.wanted o (yielded ops a.tmps) = true) (s x : Operand) (t : TypeId)
    (ho : o.op = .call { callee := .builtin .append, args := #[s, x], argTypes := #[t, t] })
    (e : TypeId) (i : TypeInfo) (z : Value) (bytes : Nat) (ht : P.underlying t = some (.slice e)) (hi : P.info? e = some i) (hz : i.zero = some z)
    (hsize : i.size = 1) (hby : i.bytes = bytes) (hzs : z.cells.size = 1)
    (v : Value) (xs : List Value) (hs : a.eval s = v) (hown : Owns w e v xs)
    (ad : Addr) (m c : Nat) (news : List Value) (hx : a.eval x = .slice (some ad) m c) (hl : news.length = m) (hnews : ∀ j u, news[j]? = some u → w.cell? (ad.add j) = some u) (h1 : ∀ u ∈ news, u.oneCell' = true)
    (h63 : xs.length + m ≤ maxLen) (hbytes : (xs.length + m) * bytes ≤ 140737488355328)
    (h : ∀ v' w', Owns w' e v' (xs ++ news) → Chg (fun k => some k = v.ownBlock) w w' → (∀ g, v'.ownBlock = some g → some g = v.ownBlock ∨ w.heap.size ≤ g) → wpList P ops Q rest (a.put o.dst v') w') : wpList P ops Q (o :: rest) a w :=
  wpList_want hgd fun K hK => by
    obtain ⟨v', w', hr, h2, h3, h4⟩ := run_append_at (P := P) t o.type e i z bytes ht hi hz hsize hby hzs v xs hown ad m c news hl hnews h1 h63 hbytes
    unfold Oper.wp execOp
    simp only [ho, resolve, invoke, builtin, Sem.run_bind, Sem.run_pure, Result.andThen_ok, List.map_toArray, List.map_cons, List.map_nil, hs, hx, hr]
    exact hK _ _ (h v' w' h2 (Chg.of_grown h3) h4)
theorem cntP_snoc (l : List Int) (x : Int) : cntP (l ++ [x]) = cntP l + (if 0 < x then 1 else 0) := by unfold cntP; simp
set_option maxRecDepth 20000 in
set_option maxHeartbeats 40000000 in
theorem turned_calls (A0 : Option Addr) (c0 : Nat) (ns : List Int) (at_ to_ : Nat) (w : World) (h0 : Kd.C (Kd.int .u16) w A0 ns.length ns) (hc0 : ns.length ≤ c0) (hw : ∀ x ∈ ns, (Lit.int .u16 x).wf = true) (hat : at_ ≤ 255) (hto : to_ ≤ 255)
    (hn : ns.length ≤ 140) :
    Calls Try.prog 5 #[.slice A0 ns.length c0, .int .u8 (at_ : Int), .int .u8 (to_ : Int)] w fun e w' => e = .returned (.bool true) ∧ Below w.heap.size w w' := by
  obtain ⟨i0, hi, hz0, hz1, hz2⟩ := info_partsI infoI64
  obtain ⟨ka, hka⟩ := awake9.rounds
  have HA := kept (fun wx => wringerlaw9_awake.calls ka true wx hka)
  have HE := kept (fun x wx => wringerlaw1_Err.calls x x wx rfl)
  obtain ⟨f, hf, hok⟩ := freq_is ns hw (by omega)
  obtain ⟨kf, hkf⟩ := hf.rounds
  have HFr := kept (wringerlaw8_Freq.calls kf A0 c0 ns f w h0 hc0 hkf)
  have hq : Fq f 12 := ⟨hok.len, fun x hx => by have := hok.each x hx; omega, by omega, by omega⟩
  have hmay := hq.may
  have hll := length_lenL f 12
  obtain ⟨l, hl⟩ : ∃ l, l = lenL f 12 := ⟨_, rfl⟩
  have hLf : wringerref7_Lengths.f f 12 = some (l, 0) := by
    unfold wringerref7_Lengths.f lenE; rw [if_pos (by rw [hok.len]; decide), if_pos ((fqB_iff f 12).2 ⟨12, rfl, hq⟩), hl]; rfl
  rw [← hl] at hmay hll
  have hl65 := hok.len
  have HLe := kept (fun A c wx (hC : Kd.C (Kd.int .i64) wx A f.length f) (hc : f.length ≤ c) => wringerref7_Lengths.calls A c f 12 l 0 wx hC hc hLf)
  rw [hl65] at HLe
  obtain ⟨k, hk⟩ : ∃ k, k = at_ % 65 := ⟨_, rfl⟩
  obtain ⟨v, hv⟩ : ∃ v, v = to_ % 16 := ⟨_, rfl⟩
  have ek : (at_ : Int) % 65 = (k : Int) := by omega
  have ev : (to_ : Int) % 16 = (v : Int) := by omega
  have hk65 : k < 65 := by omega
  have hv15 : v ≤ 15 := by omega
  obtain ⟨m, hm⟩ : ∃ m, m = l.set k (v : Int) := ⟨_, rfl⟩
  have hm65 : m.length = 65 := by rw [hm, List.length_set]; exact hll
  obtain ⟨cs, ec, hcd⟩ : ∃ cs ec, codesE m = (cs, ec) := ⟨_, _, rfl⟩
  have HCo := kept (fun A c wx (hC : Kd.C (Kd.int .i64) wx A m.length m) (hc : m.length ≤ c) => canon_Codes.calls A c m cs ec wx hC hc (by unfold canon_Codes.f; rw [hcd]))
  rw [hm65] at HCo
  have HF65 := kept hl65
  have HL65 := kept hll
  have HM65 := kept hm65
  have HMM := kept hm
  have HMAY := kept hmay
  have HCD := kept hcd
  obtain ⟨n0, hn0⟩ : ∃ n, n = ns.length := ⟨_, rfl⟩
  rw [← hn0] at HFr hn ⊢
  clear h0 hc0 hw hka hf hok hkf hq hmay hll hl hLf hl65 hk hv hm hm65 hcd hn0
  go_enter Try.func5, Try.ntmps5
  go_wp2_with fail
  refine HFr.out.mono ?_
  rintro e w1 ⟨v1, rfl, hr1, hb1⟩
  obtain ⟨A1, c1, rfl⟩ := Kd.R_slice hr1
  rw [HF65.out] at hr1 ⊢
  have hq1 := Kd.R_reads' hr1
  rw [HF65.out] at hq1
  have HLe1 := kept (HLe.out A1 c1 w1 hq1.2.2 hq1.2.1)
  have HB1 := kept hb1
  clear hr1 hb1 hq1
  go_wp2_with fail
  refine HLe1.out.mono ?_
  rintro e w2 ⟨v2, rfl, hr2, hb2⟩
  obtain ⟨A2, c2, rfl⟩ := Kd.R_slice hr2
  rw [HL65.out] at hr2 ⊢
  have hq2 := Kd.R_reads' hr2
  rw [HL65.out] at hq2
  have hC2 : Kd.C (Kd.int .i64) w2 A2 l.length l := by rw [HL65.out]; exact hq2.2.2
  have hrd2 := Own.rd_of_C hC2
  obtain ⟨x0, rfl, _⟩ := hrd2.at (Own.ints_at .i64 l 0 (by rw [HL65.out]; decide))
  have HR2 := kept hrd2
  have HD2 := kept hq2.2.1
  have HB2 := kept (HB1.out.trans (hb2.mono HB1.out.size))
  have hfl := field_lens (.slice (some x0) 65 c2) (.int .i64 0)
  clear hr2 hb2 hq2 hC2 hrd2
  rw [HL65.out] at HR2
  go_upto_region 6 with fail
  clear hfl
  have hO3 : Owns (w2.alloc (.cells #[] 3)) 3 (.slice (some ⟨w2.heap.size, 0, none⟩) 0 0) [] :=
    Owns.mk (xs := []) (Blk.fresh _ _ _) (Nat.le_refl _) (by simp [maxLen]) rfl rfl
  have HO3 := kept hO3
  have hnews : ∀ j u, (ints .i64 l)[j]? = some u → (w2.alloc (.cells #[] 3)).cell? (x0.add j) = some u := fun j u hu => by
    obtain ⟨x', hxx, hc⟩ := (HR2.out.later (show Below w2.heap.size w2 (w2.alloc (.cells #[] 3)) from (Below.refl _ _).alloc (Nat.le_refl _) _)).at hu
    cases hxx
    exact hc
  have HNews := kept hnews
  have HL0 : Kept ((ints .i64 l).length = 65) := kept (by rw [length_ints]; exact HL65.out)
  clear hO3 hnews
  go_wp2_with (first | (at_builtin; refine wpList_app rfl _ _ 22 rfl 3 i0 (.int .i64 0) 8 Try.underlying22 hi hz0 hz1 hz2 rfl _ _ rfl HO3.out x0 _ _ _ rfl HL0.out HNews.out ?_ ?_ ?_ ?_) | fail)
  · intro u hu; obtain ⟨n, _, rfl⟩ := List.mem_map.1 hu; rfl
  · simp [maxLen]
  · simp
  intro v3 w3 O3 C3 F3
  obtain ⟨a3, c3, rfl, hg3⟩ := O3.slice
  rw [HL0.out] at O3 F3 ⊢
  obtain ⟨g3, rfl⟩ := hg3 (fun e => by have := HL0.out; rw [e] at this; simp at this)
  clear hg3
  have hge3 : w2.heap.size ≤ g3 := by
    rcases F3 g3 rfl with h | h
    · simp [Value.ownBlock] at h; omega
    · first | omega | (simp at h; omega)
  have hb23 : Below w2.heap.size w2 w3 := (((Chg.alloc (fun _ => False) w2 _).trans C3 (fun b hb h => by simp [Value.ownBlock] at h; omega)) : Chg (fun _ => False) w2 w3).below (Nat.le_refl _) (fun _ _ h => h)
  have hc3 : 65 ≤ c3 := by
    rcases O3.form with ⟨hv, _⟩ | ⟨g', cap', cur, hv, _, h3, h4, _⟩
    · simp at hv
    · simp only [Value.slice.injEq] at hv; rw [hv.2.2]; rw [HL0.out] at h3; exact h3
  have k3 := O3.cell (j := k) (Own.ints_at .i64 l k (by rw [HL65.out]; exact hk65))
  have fr3 := O3.free k
  have ho4 := O3.store k (.int .i64 (v : Int))
  rw [← ints_set, ← HMM.out] at ho4
  have HO4 := kept ho4
  have HB4 := kept (hb23.setCell (p := ⟨g3, k, none⟩) hge3 (.int .i64 (v : Int)))
  have HC3 := kept hc3
  clear O3 C3 F3 hge3 hb23 hc3 ho4 HNews HL0 HO3
  go_upto_region 9 with fail
  clear k3 fr3
  generalize World.setCell w3 _ _ = w4 at HO4 HB4 ⊢
  go_wp2_with fail
  go_loopw [10, 11] (fun s10 s11 wr => ∃ i : Nat, i ≤ 65 ∧ s10 = .int .i64 (cntP (m.take i) : Int) ∧ s11 = .int .i64 (i : Int) ∧ wr = w4) (fun _ s11 _ => 65 - (intOf s11).toNat)
  case atStart => exact ⟨0, by omega, by simp [cntP], rfl, rfl⟩
  case round =>
    obtain ⟨i, hin, rfl, rfl, rfl⟩ := hrel
    obtain ⟨w4, rfl⟩ : ∃ w4, w4 = wr := ⟨wr, rfl⟩
    by_cases hlt : i < 65
    · have hil : i < m.length := by rw [HM65.out]; exact hlt
      have hcell := HO4.out.cell (j := i) (Own.ints_at .i64 m i hil)
      obtain ⟨y, hy⟩ : ∃ y, y = m.getD i 0 := ⟨_, rfl⟩
      have htk : m.take (i + 1) = m.take i ++ [y] := by
        rw [List.take_succ_eq_append_getElem hil, hy]; simp [List.getD_eq_getElem?_getD, hil]
      rw [← hy] at hcell
      obtain ⟨c, hc⟩ : ∃ c, c = cntP (m.take i) := ⟨_, rfl⟩
      have hcb : c ≤ 65 := by rw [hc]; exact Nat.le_trans (cntP_le _) (by rw [List.length_take]; omega)
      have hnx : cntP (m.take (i + 1)) = c + (if 0 < y then 1 else 0) := by rw [htk, cntP_snoc, hc]
      rw [← hc]
      have HNx := kept hnx
      clear hil hy htk hc hnx
      by_cases hpos : 0 < y
      · have HPos := kept hpos
        go_wp2_with fail
        go_roundw
        case rel => exact ⟨i + 1, by omega, by rw [HNx.out, if_pos HPos.out]; go_num, by go_num, trivial⟩
        case measure => simp [intOf]; omega
      · have HPos := kept hpos
        go_wp2_with fail
        go_roundw
        case rel => exact ⟨i + 1, by omega, by rw [HNx.out, if_neg HPos.out]; rfl, by go_num, trivial⟩
        case measure => simp [intOf]; omega
    · have hie : i = 65 := by omega
      subst hie
      have htk : m.take 65 = m := List.take_of_length_le (by rw [HM65.out]; exact Nat.le_refl _)
      rw [htk]
      have hsm : cntP m = sm m := rfl
      clear htk hlt
      rw [hsm]
      clear hsm
      go_wp2_with fail
      refine (HCo.out (some ⟨g3, 0, none⟩) c3 w4 (C_of_rd HO4.out.rd) HC3.out).mono ?_
      rintro e w5 ⟨v5, rfl, _, hb5⟩
      have hb25 : Below w2.heap.size w2 w5 := HB4.out.trans (hb5.mono HB4.out.size)
      have HB5 := kept hb25
      have HB45 := kept hb5
      clear hb5 hb25
      obtain ⟨cn, hcn⟩ : ∃ cn, cn = sm m := ⟨_, rfl⟩
      rw [← hcn]
      have HCN := kept hcn
      clear hcn
      go_upto_region 17 with fail
      obtain ⟨a, ha⟩ : ∃ a, a = l.getD k 0 := ⟨_, rfl⟩
      have hmk : w5.cell? ⟨g3, k, none⟩ = some (.int .i64 (v : Int)) := by
        have h := HO4.out.cell (j := k) (Own.ints_at .i64 m k (by rw [HM65.out]; exact hk65))
        have e : m.getD k 0 = (v : Int) := by rw [HMM.out]; simp [List.getD_eq_getElem?_getD, HL65.out, hk65]
        rw [e] at h
        exact (HB45.out.cell (World.block_lt_of_cell? _ _ h)).trans h
      have hR5 := HR2.out.later HB5.out
      have hlk : w5.cell? (x0.add k) = some (.int .i64 a) := by
        obtain ⟨x', hxx, hc⟩ := hR5.at (Own.ints_at .i64 l k (by rw [HL65.out]; exact hk65))
        cases hxx
        rw [ha]; exact hc
      have HR5 := kept hR5
      obtain ⟨kq, hkq⟩ := (PA.may_is (l.take 64)).rounds
      have hq64 : mayL (l.take 64) = false := by
        unfold mayL; rw [decide_eq_false_iff_not, List.length_take]; intro h; have := HL65.out; omega
      rw [hq64] at hkq
      have HM64 := kept (fun wx (hb : Below w5.heap.size w5 wx) => canon_May.calls kq (some x0) c2 (l.take 64) false wx (by
        have h := (HR5.out.later hb).take 64 (by decide)
        have e : (ints .i64 l).take 64 = ints .i64 (l.take 64) := by unfold ints; rw [List.map_take]
        rw [e] at h
        have e2 : (l.take 64).length = 64 := by rw [List.length_take, HL65.out]; decide
        rw [e2]
        exact C_of_rd h) (by rw [List.length_take]; have := HD2.out; omega) hkq)
      have el : (l.take 64).length = 64 := by rw [List.length_take, HL65.out]; decide
      rw [el] at HM64
      obtain ⟨kr, hkr⟩ := (PA.may_is (l ++ [0])).rounds
      have hq66 : mayL (l ++ [0]) = false := by
        unfold mayL; rw [decide_eq_false_iff_not, List.length_append, HL65.out]; intro h; have := h.1; simp at this
      rw [hq66] at hkr
      have HM66 := kept (fun A c wx (hC : Kd.C (Kd.int .i64) wx A (l ++ [0]).length (l ++ [0])) (hc : (l ++ [0]).length ≤ c) => canon_May.calls kr A c (l ++ [0]) false wx hC hc hkr)
      have el : (l ++ [0]).length = 66 := by rw [List.length_append, HL65.out]; rfl
      rw [el] at HM66
      have HAk := kept ha
      have hD2 := HD2.out
      clear hR5 hkq hkr hq64 hq66 el ha
      have HL0 : Kept ((ints .i64 l).length = 65) := kept (by rw [length_ints]; exact HL65.out)
      have HL66 : Kept ((ints .i64 (l ++ [0])).length = 66) := kept (by rw [length_ints, List.length_append, HL65.out]; rfl)
      by_cases hva : (v : Int) = a
      · subst hva
        -- CASE a
        refine wp_region_ordL [] [0,1,2,3,4,5,6,7,8,9,10,11,12,13] (.pre [14,15,16,17,18,19,20,21,22,23,24,25,26,27,28] (.fork3 29 (.fork 30 (.fork 31 (.pre [32] (.chain [33,34,35,36,37,38,39,40])) 32 (.pre [31] (.chain [33,34,35,36,37,38,39,40]))) 32 (.pre [30] (.pre [31] (.chain [33,34,35,36,37,38,39,40])))) 30 (.fork 29 (.fork 31 (.pre [32] (.chain [33,34,35,36,37,38,39,40])) 32 (.pre [31] (.chain [33,34,35,36,37,38,39,40]))) 32 (.pre [29] (.pre [31] (.chain [33,34,35,36,37,38,39,40])))) 32 (.fork 29 (.pre [30] (.pre [31] (.chain [33,34,35,36,37,38,39,40]))) 30 (.pre [29] (.pre [31] (.chain [33,34,35,36,37,38,39,40])))))) (by kernel_rfl) (by kernel_rfl) ?_
        intro K hK
        have hmk2 := lat_cell hmk
        have hlk2 := lat_cell hlk
        simp only [pick, List.filterMap_cons, List.filterMap_nil, List.getElem?_cons_zero, List.getElem?_cons_succ]
        iterate 14 (show wpQuiet _ _ _ _ (_ :: _) _; go_big_quiet_step (fail))
        refine wpQuiet_nil ?_
        clear hmk2 hlk2
        have hwd : Below w5.heap.size w5 w5.drew := (Below.refl _ _).drew
        generalize w5.drew = w6 at hwd ⊢
        have HB56 := kept hwd
        clear hwd
        unfold wpOrd
        simp only [pick, List.filterMap_cons, List.filterMap_nil, List.getElem?_cons_zero, List.getElem?_cons_succ]
        generalize hT : wpOrd _ _ _ K (Ord.fork3 _ _ _ _ _ _) = T
        have HT := kept hT
        clear hT
        show wpList _ _ _ [_,_,_,_,_,_,_,_,_,_,_,_,_,_,_] _ _
        repeat go_big_skip
        go_wp2_with fail
        refine ((HM64.out _ HB56.out).mono ?_)
        rintro e w7 ⟨rfl, hd7⟩
        have HB57 := kept (HB56.out.trans (hd7.below.mono HB56.out.size))
        clear hd7
        go_wp2_with fail
        show T _ _
        rw [← HT.out]
        clear HT T
        unfold wpOrd
        simp only [pick, List.filterMap_cons, List.filterMap_nil, List.getElem?_cons_zero, List.getElem?_cons_succ]
        refine ⟨?_, ?_, ?_⟩
        · generalize hT : wpOrd _ _ _ K _ = T
          have HT := kept hT
          clear hT
          go_wp2_with fail
          obtain ⟨w1x, hw1x⟩ : ∃ w_, w_ = World.alloc w7 (.cells #[] 3) := ⟨_, rfl⟩
          obtain ⟨g1x, hg1x⟩ : ∃ g, g = w7.heap.size := ⟨_, rfl⟩
          have HB1x : Kept (Below w5.heap.size w5 w1x) := kept (by rw [hw1x]; exact HB57.out.trans (((Below.refl _ _).alloc (Nat.le_refl _) _).mono HB57.out.size))
          have HG1x : Kept (w5.heap.size ≤ g1x) := kept (by rw [hg1x]; exact HB57.out.size)
          have HE1x : Kept (Owns w1x 3 (.slice (some ⟨g1x, 0, none⟩) 0 0) []) := kept (by rw [hw1x, hg1x]; exact Owns.mk (xs := []) (Blk.fresh _ _ _) (Nat.le_refl _) (by simp [maxLen]) rfl rfl)
          rw [← hw1x, ← hg1x]
          clear hw1x hg1x
          show T _ _
          rw [← HT.out]
          clear HT T
          unfold wpOrd
          simp only [pick, List.filterMap_cons, List.filterMap_nil, List.getElem?_cons_zero, List.getElem?_cons_succ]
          refine ⟨?_, ?_⟩
          · generalize hT : wpOrd _ _ _ K _ = T
            have HT := kept hT
            clear hT
            go_wp2_with fail
            show T _ _
            rw [← HT.out]
            clear HT T
            unfold wpOrd
            simp only [pick, List.filterMap_cons, List.filterMap_nil, List.getElem?_cons_zero, List.getElem?_cons_succ]
            refine ⟨?_, ?_⟩
            · generalize hT : wpOrd _ _ _ K _ = T
              have HT := kept hT
              clear hT
              have HNews3x := kept (show ∀ j u, (ints .i64 l)[j]? = some u → w1x.cell? (x0.add j) = some u from fun j u hu => by obtain ⟨x', hxx, hc⟩ := (HR5.out.later HB1x.out).at hu; cases hxx; exact hc)
              refine wpList_appG rfl _ _ 22 rfl 3 i0 (.int .i64 0) 8 Try.underlying22 hi hz0 hz1 hz2 rfl (.slice (some ⟨g1x, 0, none⟩) 0 0) _ rfl HE1x.out x0 _ _ _ rfl HL0.out HNews3x.out ?_ ?_ ?_ ?_
              · intro u hu; obtain ⟨n, _, rfl⟩ := List.mem_map.1 hu; rfl
              · simp [maxLen]
              · simp
              intro v3x w3x O3x C3x F3x
              obtain ⟨a3x, c3x, rfl, hq3x⟩ := O3x.slice
              have e3x : ([] ++ ints .i64 l : List Value).length = 65 := HL0.out
              rw [e3x] at O3x F3x ⊢
              obtain ⟨g3x, rfl⟩ := hq3x (fun e => by rw [e] at e3x; simp at e3x)
              have HO3x := kept (show Owns w3x 3 (.slice (some ⟨g3x, 0, none⟩) 65 c3x) (ints .i64 l) from O3x)
              have HB3x : Kept (Below w5.heap.size w5 w3x) := kept (HB1x.out.trans (C3x.below HB1x.out.size (fun b hb h => by have := HG1x.out; simp [Value.ownBlock] at h; omega)))
              have HG3x : Kept (w5.heap.size ≤ g3x) := kept (by have h1 := HG1x.out; have h2 := HB1x.out.size; rcases F3x g3x rfl with h | h; (simp [Value.ownBlock] at h; omega); omega)
              clear O3x C3x F3x hq3x HNews3x e3x
              go_wp2_with fail
              show T _ _
              rw [← HT.out]
              clear HT T
              unfold wpOrd
              simp only [pick, List.filterMap_cons, List.filterMap_nil, List.getElem?_cons_zero, List.getElem?_cons_succ]
              generalize hT : wpOrd _ _ _ K _ = T
              have HT := kept hT
              clear hT
              go_wp2_with fail
              obtain ⟨w4x, hw4x⟩ : ∃ w_, w_ = World.alloc w3x (.cells #[.int .i64 0] 3) := ⟨_, rfl⟩
              obtain ⟨g4x, hg4x⟩ : ∃ g, g = w3x.heap.size := ⟨_, rfl⟩
              have HB4x : Kept (Below w5.heap.size w5 w4x) := kept (by rw [hw4x]; exact HB3x.out.trans (((Below.refl _ _).alloc (Nat.le_refl _) _).mono HB3x.out.size))
              have HG4x : Kept (w5.heap.size ≤ g4x) := kept (by rw [hg4x]; exact HB3x.out.size)
              have HZ4x : Kept (Blk w4x g4x #[.int .i64 0] 3) := kept (by rw [hw4x, hg4x]; exact Blk.fresh _ _ _)
              have HO4y : Kept (Owns w4x 3 (.slice (some ⟨g3x, 0, none⟩) 65 c3x) (ints .i64 l)) := kept (by rw [hw4x]; exact HO3x.out.alloc _)
              rw [← hw4x, ← hg4x]
              clear hw4x hg4x
              show T _ _
              rw [← HT.out]
              clear HT T
              unfold wpOrd
              simp only [pick, List.filterMap_cons, List.filterMap_nil, List.getElem?_cons_zero, List.getElem?_cons_succ]
              have HNews5x := kept (show ∀ j u, [Value.int .i64 0][j]? = some u → w4x.cell? ((⟨g4x, 0, none⟩ : Addr).add j) = some u from one_cell HZ4x.out)
              refine wpList_appG rfl _ _ 22 rfl 3 i0 (.int .i64 0) 8 Try.underlying22 hi hz0 hz1 hz2 rfl (.slice (some ⟨g3x, 0, none⟩) 65 c3x) _ rfl HO4y.out ⟨g4x, 0, none⟩ _ _ [.int .i64 0] rfl rfl HNews5x.out ?_ ?_ ?_ ?_
              · intro u hu; simp at hu; subst hu; rfl
              · simp [maxLen, HL65.out]
              · simp [HL65.out]
              intro v5x w5x O5x C5x F5x
              rw [← ints_snoc] at O5x
              obtain ⟨a5x, c5x, rfl, hq5x⟩ := O5x.slice
              rw [HL66.out] at O5x ⊢
              have HB5x : Kept (Below w5.heap.size w5 w5x) := kept (HB4x.out.trans (C5x.below HB4x.out.size (fun b hb h => by have := HG3x.out; simp [Value.ownBlock] at h; omega)))
              have HMq5x := kept (HM66.out a5x c5x w5x (C_of_rd O5x.rd) (own_cap O5x))
              clear O5x C5x F5x hq5x HNews5x
              go_wp2_with fail
              refine HMq5x.out.mono ?_
              rintro e w5y ⟨rfl, hd5y⟩
              have HB5y := kept (HB5x.out.trans (hd5y.below.mono HB5x.out.size))
              clear hd5y
              go_wp2_with fail
              refine (HA.out _).mono ?_
              rintro e w5z ⟨rfl, hb5z⟩
              have HB5z := kept (HB5y.out.trans (hb5z.mono HB5y.out.size))
              clear hb5z
              go_wp2_with fail
              refine hK _ _ ?_
              go_wp2_with fail
              go_ret
              exact ⟨rfl, HB2.out.trans ((HB5.out.trans (HB5z.out.mono HB5.out.size)).mono HB2.out.size)⟩
            · generalize hT : wpOrd _ _ _ K _ = T
              have HT := kept hT
              clear hT
              go_wp2_with fail
              obtain ⟨w6x, hw6x⟩ : ∃ w_, w_ = World.alloc w1x (.cells #[.int .i64 0] 3) := ⟨_, rfl⟩
              obtain ⟨g6x, hg6x⟩ : ∃ g, g = w1x.heap.size := ⟨_, rfl⟩
              have HB6x : Kept (Below w5.heap.size w5 w6x) := kept (by rw [hw6x]; exact HB1x.out.trans (((Below.refl _ _).alloc (Nat.le_refl _) _).mono HB1x.out.size))
              have HG6x : Kept (w5.heap.size ≤ g6x) := kept (by rw [hg6x]; exact HB1x.out.size)
              have HZ6x : Kept (Blk w6x g6x #[.int .i64 0] 3) := kept (by rw [hw6x, hg6x]; exact Blk.fresh _ _ _)
              have HN6x : Kept (g6x ≠ g1x) := kept (by rw [hg6x]; have := HE1x.out.lt g1x rfl; omega)
              have HE6y : Kept (Owns w6x 3 (.slice (some ⟨g1x, 0, none⟩) 0 0) []) := kept (by rw [hw6x]; exact HE1x.out.alloc _)
              rw [← hw6x, ← hg6x]
              clear hw6x hg6x
              show T _ _
              rw [← HT.out]
              clear HT T
              unfold wpOrd
              simp only [pick, List.filterMap_cons, List.filterMap_nil, List.getElem?_cons_zero, List.getElem?_cons_succ]
              generalize hT : wpOrd _ _ _ K _ = T
              have HT := kept hT
              clear hT
              have HNews7x := kept (show ∀ j u, (ints .i64 l)[j]? = some u → w6x.cell? (x0.add j) = some u from fun j u hu => by obtain ⟨x', hxx, hc⟩ := (HR5.out.later HB6x.out).at hu; cases hxx; exact hc)
              refine wpList_appG rfl _ _ 22 rfl 3 i0 (.int .i64 0) 8 Try.underlying22 hi hz0 hz1 hz2 rfl (.slice (some ⟨g1x, 0, none⟩) 0 0) _ rfl HE6y.out x0 _ _ _ rfl HL0.out HNews7x.out ?_ ?_ ?_ ?_
              · intro u hu; obtain ⟨n, _, rfl⟩ := List.mem_map.1 hu; rfl
              · simp [maxLen]
              · simp
              intro v7x w7x O7x C7x F7x
              obtain ⟨a7x, c7x, rfl, hq7x⟩ := O7x.slice
              have e7x : ([] ++ ints .i64 l : List Value).length = 65 := HL0.out
              rw [e7x] at O7x F7x ⊢
              obtain ⟨g7x, rfl⟩ := hq7x (fun e => by rw [e] at e7x; simp at e7x)
              have HO7x := kept (show Owns w7x 3 (.slice (some ⟨g7x, 0, none⟩) 65 c7x) (ints .i64 l) from O7x)
              have HB7x : Kept (Below w5.heap.size w5 w7x) := kept (HB6x.out.trans (C7x.below HB6x.out.size (fun b hb h => by have := HG1x.out; simp [Value.ownBlock] at h; omega)))
              have HG7x : Kept (w5.heap.size ≤ g7x) := kept (by have h1 := HG1x.out; have h2 := HB6x.out.size; rcases F7x g7x rfl with h | h; (simp [Value.ownBlock] at h; omega); omega)
              have HZ7x : Kept (Blk w7x g6x #[.int .i64 0] 3) := kept (C7x.keep HZ6x.out (fun h => by have := HN6x.out; simp [Value.ownBlock] at h; omega))
              clear O7x C7x F7x hq7x HNews7x e7x
              go_wp2_with fail
              show T _ _
              rw [← HT.out]
              clear HT T
              unfold wpOrd
              simp only [pick, List.filterMap_cons, List.filterMap_nil, List.getElem?_cons_zero, List.getElem?_cons_succ]
              have HNews8x := kept (show ∀ j u, [Value.int .i64 0][j]? = some u → w7x.cell? ((⟨g6x, 0, none⟩ : Addr).add j) = some u from one_cell HZ7x.out)
              refine wpList_appG rfl _ _ 22 rfl 3 i0 (.int .i64 0) 8 Try.underlying22 hi hz0 hz1 hz2 rfl (.slice (some ⟨g7x, 0, none⟩) 65 c7x) _ rfl HO7x.out ⟨g6x, 0, none⟩ _ _ [.int .i64 0] rfl rfl HNews8x.out ?_ ?_ ?_ ?_
              · intro u hu; simp at hu; subst hu; rfl
              · simp [maxLen, HL65.out]
              · simp [HL65.out]
              intro v8x w8x O8x C8x F8x
              rw [← ints_snoc] at O8x
              obtain ⟨a8x, c8x, rfl, hq8x⟩ := O8x.slice
              rw [HL66.out] at O8x ⊢
              have HB8x : Kept (Below w5.heap.size w5 w8x) := kept (HB7x.out.trans (C8x.below HB7x.out.size (fun b hb h => by have := HG7x.out; simp [Value.ownBlock] at h; omega)))
              have HMq8x := kept (HM66.out a8x c8x w8x (C_of_rd O8x.rd) (own_cap O8x))
              clear O8x C8x F8x hq8x HNews8x
              go_wp2_with fail
              refine HMq8x.out.mono ?_
              rintro e w8y ⟨rfl, hd8y⟩
              have HB8y := kept (HB8x.out.trans (hd8y.below.mono HB8x.out.size))
              clear hd8y
              go_wp2_with fail
              refine (HA.out _).mono ?_
              rintro e w8z ⟨rfl, hb8z⟩
              have HB8z := kept (HB8y.out.trans (hb8z.mono HB8y.out.size))
              clear hb8z
              go_wp2_with fail
              refine hK _ _ ?_
              go_wp2_with fail
              go_ret
              exact ⟨rfl, HB2.out.trans ((HB5.out.trans (HB8z.out.mono HB5.out.size)).mono HB2.out.size)⟩
          · generalize hT : wpOrd _ _ _ K _ = T
            have HT := kept hT
            clear hT
            go_wp2_with fail
            obtain ⟨w9x, hw9x⟩ : ∃ w_, w_ = World.alloc w1x (.cells #[.int .i64 0] 3) := ⟨_, rfl⟩
            obtain ⟨g9x, hg9x⟩ : ∃ g, g = w1x.heap.size := ⟨_, rfl⟩
            have HB9x : Kept (Below w5.heap.size w5 w9x) := kept (by rw [hw9x]; exact HB1x.out.trans (((Below.refl _ _).alloc (Nat.le_refl _) _).mono HB1x.out.size))
            have HG9x : Kept (w5.heap.size ≤ g9x) := kept (by rw [hg9x]; exact HB1x.out.size)
            have HZ9x : Kept (Blk w9x g9x #[.int .i64 0] 3) := kept (by rw [hw9x, hg9x]; exact Blk.fresh _ _ _)
            have HN9x : Kept (g9x ≠ g1x) := kept (by rw [hg9x]; have := HE1x.out.lt g1x rfl; omega)
            have HE9y : Kept (Owns w9x 3 (.slice (some ⟨g1x, 0, none⟩) 0 0) []) := kept (by rw [hw9x]; exact HE1x.out.alloc _)
            rw [← hw9x, ← hg9x]
            clear hw9x hg9x
            show T _ _
            rw [← HT.out]
            clear HT T
            unfold wpOrd
            simp only [pick, List.filterMap_cons, List.filterMap_nil, List.getElem?_cons_zero, List.getElem?_cons_succ]
            generalize hT : wpOrd _ _ _ K _ = T
            have HT := kept hT
            clear hT
            go_wp2_with fail
            show T _ _
            rw [← HT.out]
            clear HT T
            unfold wpOrd
            simp only [pick, List.filterMap_cons, List.filterMap_nil, List.getElem?_cons_zero, List.getElem?_cons_succ]
            generalize hT : wpOrd _ _ _ K _ = T
            have HT := kept hT
            clear hT
            have HNews11x := kept (show ∀ j u, (ints .i64 l)[j]? = some u → w9x.cell? (x0.add j) = some u from fun j u hu => by obtain ⟨x', hxx, hc⟩ := (HR5.out.later HB9x.out).at hu; cases hxx; exact hc)
            refine wpList_appG rfl _ _ 22 rfl 3 i0 (.int .i64 0) 8 Try.underlying22 hi hz0 hz1 hz2 rfl (.slice (some ⟨g1x, 0, none⟩) 0 0) _ rfl HE9y.out x0 _ _ _ rfl HL0.out HNews11x.out ?_ ?_ ?_ ?_
            · intro u hu; obtain ⟨n, _, rfl⟩ := List.mem_map.1 hu; rfl
            · simp [maxLen]
            · simp
            intro v11x w11x O11x C11x F11x
            obtain ⟨a11x, c11x, rfl, hq11x⟩ := O11x.slice
            have e11x : ([] ++ ints .i64 l : List Value).length = 65 := HL0.out
            rw [e11x] at O11x F11x ⊢
            obtain ⟨g11x, rfl⟩ := hq11x (fun e => by rw [e] at e11x; simp at e11x)
            have HO11x := kept (show Owns w11x 3 (.slice (some ⟨g11x, 0, none⟩) 65 c11x) (ints .i64 l) from O11x)
            have HB11x : Kept (Below w5.heap.size w5 w11x) := kept (HB9x.out.trans (C11x.below HB9x.out.size (fun b hb h => by have := HG1x.out; simp [Value.ownBlock] at h; omega)))
            have HG11x : Kept (w5.heap.size ≤ g11x) := kept (by have h1 := HG1x.out; have h2 := HB9x.out.size; rcases F11x g11x rfl with h | h; (simp [Value.ownBlock] at h; omega); omega)
            have HZ11x : Kept (Blk w11x g9x #[.int .i64 0] 3) := kept (C11x.keep HZ9x.out (fun h => by have := HN9x.out; simp [Value.ownBlock] at h; omega))
            clear O11x C11x F11x hq11x HNews11x e11x
            go_wp2_with fail
            show T _ _
            rw [← HT.out]
            clear HT T
            unfold wpOrd
            simp only [pick, List.filterMap_cons, List.filterMap_nil, List.getElem?_cons_zero, List.getElem?_cons_succ]
            have HNews12x := kept (show ∀ j u, [Value.int .i64 0][j]? = some u → w11x.cell? ((⟨g9x, 0, none⟩ : Addr).add j) = some u from one_cell HZ11x.out)
            refine wpList_appG rfl _ _ 22 rfl 3 i0 (.int .i64 0) 8 Try.underlying22 hi hz0 hz1 hz2 rfl (.slice (some ⟨g11x, 0, none⟩) 65 c11x) _ rfl HO11x.out ⟨g9x, 0, none⟩ _ _ [.int .i64 0] rfl rfl HNews12x.out ?_ ?_ ?_ ?_
            · intro u hu; simp at hu; subst hu; rfl
            · simp [maxLen, HL65.out]
            · simp [HL65.out]
            intro v12x w12x O12x C12x F12x
            rw [← ints_snoc] at O12x
            obtain ⟨a12x, c12x, rfl, hq12x⟩ := O12x.slice
            rw [HL66.out] at O12x ⊢
            have HB12x : Kept (Below w5.heap.size w5 w12x) := kept (HB11x.out.trans (C12x.below HB11x.out.size (fun b hb h => by have := HG11x.out; simp [Value.ownBlock] at h; omega)))
            have HMq12x := kept (HM66.out a12x c12x w12x (C_of_rd O12x.rd) (own_cap O12x))
            clear O12x C12x F12x hq12x HNews12x
            go_wp2_with fail
            refine HMq12x.out.mono ?_
            rintro e w12y ⟨rfl, hd12y⟩
            have HB12y := kept (HB12x.out.trans (hd12y.below.mono HB12x.out.size))
            clear hd12y
            go_wp2_with fail
            refine (HA.out _).mono ?_
            rintro e w12z ⟨rfl, hb12z⟩
            have HB12z := kept (HB12y.out.trans (hb12z.mono HB12y.out.size))
            clear hb12z
            go_wp2_with fail
            refine hK _ _ ?_
            go_wp2_with fail
            go_ret
            exact ⟨rfl, HB2.out.trans ((HB5.out.trans (HB12z.out.mono HB5.out.size)).mono HB2.out.size)⟩
        · generalize hT : wpOrd _ _ _ K _ = T
          have HT := kept hT
          clear hT
          go_wp2_with fail
          show T _ _
          rw [← HT.out]
          clear HT T
          unfold wpOrd
          simp only [pick, List.filterMap_cons, List.filterMap_nil, List.getElem?_cons_zero, List.getElem?_cons_succ]
          refine ⟨?_, ?_⟩
          · generalize hT : wpOrd _ _ _ K _ = T
            have HT := kept hT
            clear hT
            go_wp2_with fail
            obtain ⟨w14x, hw14x⟩ : ∃ w_, w_ = World.alloc w7 (.cells #[] 3) := ⟨_, rfl⟩
            obtain ⟨g14x, hg14x⟩ : ∃ g, g = w7.heap.size := ⟨_, rfl⟩
            have HB14x : Kept (Below w5.heap.size w5 w14x) := kept (by rw [hw14x]; exact HB57.out.trans (((Below.refl _ _).alloc (Nat.le_refl _) _).mono HB57.out.size))
            have HG14x : Kept (w5.heap.size ≤ g14x) := kept (by rw [hg14x]; exact HB57.out.size)
            have HE14x : Kept (Owns w14x 3 (.slice (some ⟨g14x, 0, none⟩) 0 0) []) := kept (by rw [hw14x, hg14x]; exact Owns.mk (xs := []) (Blk.fresh _ _ _) (Nat.le_refl _) (by simp [maxLen]) rfl rfl)
            rw [← hw14x, ← hg14x]
            clear hw14x hg14x
            show T _ _
            rw [← HT.out]
            clear HT T
            unfold wpOrd
            simp only [pick, List.filterMap_cons, List.filterMap_nil, List.getElem?_cons_zero, List.getElem?_cons_succ]
            refine ⟨?_, ?_⟩
            · generalize hT : wpOrd _ _ _ K _ = T
              have HT := kept hT
              clear hT
              have HNews15x := kept (show ∀ j u, (ints .i64 l)[j]? = some u → w14x.cell? (x0.add j) = some u from fun j u hu => by obtain ⟨x', hxx, hc⟩ := (HR5.out.later HB14x.out).at hu; cases hxx; exact hc)
              refine wpList_appG rfl _ _ 22 rfl 3 i0 (.int .i64 0) 8 Try.underlying22 hi hz0 hz1 hz2 rfl (.slice (some ⟨g14x, 0, none⟩) 0 0) _ rfl HE14x.out x0 _ _ _ rfl HL0.out HNews15x.out ?_ ?_ ?_ ?_
              · intro u hu; obtain ⟨n, _, rfl⟩ := List.mem_map.1 hu; rfl
              · simp [maxLen]
              · simp
              intro v15x w15x O15x C15x F15x
              obtain ⟨a15x, c15x, rfl, hq15x⟩ := O15x.slice
              have e15x : ([] ++ ints .i64 l : List Value).length = 65 := HL0.out
              rw [e15x] at O15x F15x ⊢
              obtain ⟨g15x, rfl⟩ := hq15x (fun e => by rw [e] at e15x; simp at e15x)
              have HO15x := kept (show Owns w15x 3 (.slice (some ⟨g15x, 0, none⟩) 65 c15x) (ints .i64 l) from O15x)
              have HB15x : Kept (Below w5.heap.size w5 w15x) := kept (HB14x.out.trans (C15x.below HB14x.out.size (fun b hb h => by have := HG14x.out; simp [Value.ownBlock] at h; omega)))
              have HG15x : Kept (w5.heap.size ≤ g15x) := kept (by have h1 := HG14x.out; have h2 := HB14x.out.size; rcases F15x g15x rfl with h | h; (simp [Value.ownBlock] at h; omega); omega)
              clear O15x C15x F15x hq15x HNews15x e15x
              go_wp2_with fail
              show T _ _
              rw [← HT.out]
              clear HT T
              unfold wpOrd
              simp only [pick, List.filterMap_cons, List.filterMap_nil, List.getElem?_cons_zero, List.getElem?_cons_succ]
              generalize hT : wpOrd _ _ _ K _ = T
              have HT := kept hT
              clear hT
              go_wp2_with fail
              obtain ⟨w16x, hw16x⟩ : ∃ w_, w_ = World.alloc w15x (.cells #[.int .i64 0] 3) := ⟨_, rfl⟩
              obtain ⟨g16x, hg16x⟩ : ∃ g, g = w15x.heap.size := ⟨_, rfl⟩
              have HB16x : Kept (Below w5.heap.size w5 w16x) := kept (by rw [hw16x]; exact HB15x.out.trans (((Below.refl _ _).alloc (Nat.le_refl _) _).mono HB15x.out.size))
              have HG16x : Kept (w5.heap.size ≤ g16x) := kept (by rw [hg16x]; exact HB15x.out.size)
              have HZ16x : Kept (Blk w16x g16x #[.int .i64 0] 3) := kept (by rw [hw16x, hg16x]; exact Blk.fresh _ _ _)
              have HO16y : Kept (Owns w16x 3 (.slice (some ⟨g15x, 0, none⟩) 65 c15x) (ints .i64 l)) := kept (by rw [hw16x]; exact HO15x.out.alloc _)
              rw [← hw16x, ← hg16x]
              clear hw16x hg16x
              show T _ _
              rw [← HT.out]
              clear HT T
              unfold wpOrd
              simp only [pick, List.filterMap_cons, List.filterMap_nil, List.getElem?_cons_zero, List.getElem?_cons_succ]
              have HNews17x := kept (show ∀ j u, [Value.int .i64 0][j]? = some u → w16x.cell? ((⟨g16x, 0, none⟩ : Addr).add j) = some u from one_cell HZ16x.out)
              refine wpList_appG rfl _ _ 22 rfl 3 i0 (.int .i64 0) 8 Try.underlying22 hi hz0 hz1 hz2 rfl (.slice (some ⟨g15x, 0, none⟩) 65 c15x) _ rfl HO16y.out ⟨g16x, 0, none⟩ _ _ [.int .i64 0] rfl rfl HNews17x.out ?_ ?_ ?_ ?_
              · intro u hu; simp at hu; subst hu; rfl
              · simp [maxLen, HL65.out]
              · simp [HL65.out]
              intro v17x w17x O17x C17x F17x
              rw [← ints_snoc] at O17x
              obtain ⟨a17x, c17x, rfl, hq17x⟩ := O17x.slice
              rw [HL66.out] at O17x ⊢
              have HB17x : Kept (Below w5.heap.size w5 w17x) := kept (HB16x.out.trans (C17x.below HB16x.out.size (fun b hb h => by have := HG15x.out; simp [Value.ownBlock] at h; omega)))
              have HMq17x := kept (HM66.out a17x c17x w17x (C_of_rd O17x.rd) (own_cap O17x))
              clear O17x C17x F17x hq17x HNews17x
              go_wp2_with fail
              refine HMq17x.out.mono ?_
              rintro e w17y ⟨rfl, hd17y⟩
              have HB17y := kept (HB17x.out.trans (hd17y.below.mono HB17x.out.size))
              clear hd17y
              go_wp2_with fail
              refine (HA.out _).mono ?_
              rintro e w17z ⟨rfl, hb17z⟩
              have HB17z := kept (HB17y.out.trans (hb17z.mono HB17y.out.size))
              clear hb17z
              go_wp2_with fail
              refine hK _ _ ?_
              go_wp2_with fail
              go_ret
              exact ⟨rfl, HB2.out.trans ((HB5.out.trans (HB17z.out.mono HB5.out.size)).mono HB2.out.size)⟩
            · generalize hT : wpOrd _ _ _ K _ = T
              have HT := kept hT
              clear hT
              go_wp2_with fail
              obtain ⟨w18x, hw18x⟩ : ∃ w_, w_ = World.alloc w14x (.cells #[.int .i64 0] 3) := ⟨_, rfl⟩
              obtain ⟨g18x, hg18x⟩ : ∃ g, g = w14x.heap.size := ⟨_, rfl⟩
              have HB18x : Kept (Below w5.heap.size w5 w18x) := kept (by rw [hw18x]; exact HB14x.out.trans (((Below.refl _ _).alloc (Nat.le_refl _) _).mono HB14x.out.size))
              have HG18x : Kept (w5.heap.size ≤ g18x) := kept (by rw [hg18x]; exact HB14x.out.size)
              have HZ18x : Kept (Blk w18x g18x #[.int .i64 0] 3) := kept (by rw [hw18x, hg18x]; exact Blk.fresh _ _ _)
              have HN18x : Kept (g18x ≠ g14x) := kept (by rw [hg18x]; have := HE14x.out.lt g14x rfl; omega)
              have HE18y : Kept (Owns w18x 3 (.slice (some ⟨g14x, 0, none⟩) 0 0) []) := kept (by rw [hw18x]; exact HE14x.out.alloc _)
              rw [← hw18x, ← hg18x]
              clear hw18x hg18x
              show T _ _
              rw [← HT.out]
              clear HT T
              unfold wpOrd
              simp only [pick, List.filterMap_cons, List.filterMap_nil, List.getElem?_cons_zero, List.getElem?_cons_succ]
              generalize hT : wpOrd _ _ _ K _ = T
              have HT := kept hT
              clear hT
              have HNews19x := kept (show ∀ j u, (ints .i64 l)[j]? = some u → w18x.cell? (x0.add j) = some u from fun j u hu => by obtain ⟨x', hxx, hc⟩ := (HR5.out.later HB18x.out).at hu; cases hxx; exact hc)
              refine wpList_appG rfl _ _ 22 rfl 3 i0 (.int .i64 0) 8 Try.underlying22 hi hz0 hz1 hz2 rfl (.slice (some ⟨g14x, 0, none⟩) 0 0) _ rfl HE18y.out x0 _ _ _ rfl HL0.out HNews19x.out ?_ ?_ ?_ ?_
              · intro u hu; obtain ⟨n, _, rfl⟩ := List.mem_map.1 hu; rfl
              · simp [maxLen]
              · simp
              intro v19x w19x O19x C19x F19x
              obtain ⟨a19x, c19x, rfl, hq19x⟩ := O19x.slice
              have e19x : ([] ++ ints .i64 l : List Value).length = 65 := HL0.out
              rw [e19x] at O19x F19x ⊢
              obtain ⟨g19x, rfl⟩ := hq19x (fun e => by rw [e] at e19x; simp at e19x)
              have HO19x := kept (show Owns w19x 3 (.slice (some ⟨g19x, 0, none⟩) 65 c19x) (ints .i64 l) from O19x)
              have HB19x : Kept (Below w5.heap.size w5 w19x) := kept (HB18x.out.trans (C19x.below HB18x.out.size (fun b hb h => by have := HG14x.out; simp [Value.ownBlock] at h; omega)))
              have HG19x : Kept (w5.heap.size ≤ g19x) := kept (by have h1 := HG14x.out; have h2 := HB18x.out.size; rcases F19x g19x rfl with h | h; (simp [Value.ownBlock] at h; omega); omega)
              have HZ19x : Kept (Blk w19x g18x #[.int .i64 0] 3) := kept (C19x.keep HZ18x.out (fun h => by have := HN18x.out; simp [Value.ownBlock] at h; omega))
              clear O19x C19x F19x hq19x HNews19x e19x
              go_wp2_with fail
              show T _ _
              rw [← HT.out]
              clear HT T
              unfold wpOrd
              simp only [pick, List.filterMap_cons, List.filterMap_nil, List.getElem?_cons_zero, List.getElem?_cons_succ]
              have HNews20x := kept (show ∀ j u, [Value.int .i64 0][j]? = some u → w19x.cell? ((⟨g18x, 0, none⟩ : Addr).add j) = some u from one_cell HZ19x.out)
              refine wpList_appG rfl _ _ 22 rfl 3 i0 (.int .i64 0) 8 Try.underlying22 hi hz0 hz1 hz2 rfl (.slice (some ⟨g19x, 0, none⟩) 65 c19x) _ rfl HO19x.out ⟨g18x, 0, none⟩ _ _ [.int .i64 0] rfl rfl HNews20x.out ?_ ?_ ?_ ?_
              · intro u hu; simp at hu; subst hu; rfl
              · simp [maxLen, HL65.out]
              · simp [HL65.out]
              intro v20x w20x O20x C20x F20x
              rw [← ints_snoc] at O20x
              obtain ⟨a20x, c20x, rfl, hq20x⟩ := O20x.slice
              rw [HL66.out] at O20x ⊢
              have HB20x : Kept (Below w5.heap.size w5 w20x) := kept (HB19x.out.trans (C20x.below HB19x.out.size (fun b hb h => by have := HG19x.out; simp [Value.ownBlock] at h; omega)))
              have HMq20x := kept (HM66.out a20x c20x w20x (C_of_rd O20x.rd) (own_cap O20x))
              clear O20x C20x F20x hq20x HNews20x
              go_wp2_with fail
              refine HMq20x.out.mono ?_
              rintro e w20y ⟨rfl, hd20y⟩
              have HB20y := kept (HB20x.out.trans (hd20y.below.mono HB20x.out.size))
              clear hd20y
              go_wp2_with fail
              refine (HA.out _).mono ?_
              rintro e w20z ⟨rfl, hb20z⟩
              have HB20z := kept (HB20y.out.trans (hb20z.mono HB20y.out.size))
              clear hb20z
              go_wp2_with fail
              refine hK _ _ ?_
              go_wp2_with fail
              go_ret
              exact ⟨rfl, HB2.out.trans ((HB5.out.trans (HB20z.out.mono HB5.out.size)).mono HB2.out.size)⟩
          · generalize hT : wpOrd _ _ _ K _ = T
            have HT := kept hT
            clear hT
            go_wp2_with fail
            obtain ⟨w21x, hw21x⟩ : ∃ w_, w_ = World.alloc w7 (.cells #[.int .i64 0] 3) := ⟨_, rfl⟩
            obtain ⟨g21x, hg21x⟩ : ∃ g, g = w7.heap.size := ⟨_, rfl⟩
            have HB21x : Kept (Below w5.heap.size w5 w21x) := kept (by rw [hw21x]; exact HB57.out.trans (((Below.refl _ _).alloc (Nat.le_refl _) _).mono HB57.out.size))
            have HG21x : Kept (w5.heap.size ≤ g21x) := kept (by rw [hg21x]; exact HB57.out.size)
            have HZ21x : Kept (Blk w21x g21x #[.int .i64 0] 3) := kept (by rw [hw21x, hg21x]; exact Blk.fresh _ _ _)
            rw [← hw21x, ← hg21x]
            clear hw21x hg21x
            show T _ _
            rw [← HT.out]
            clear HT T
            unfold wpOrd
            simp only [pick, List.filterMap_cons, List.filterMap_nil, List.getElem?_cons_zero, List.getElem?_cons_succ]
            generalize hT : wpOrd _ _ _ K _ = T
            have HT := kept hT
            clear hT
            go_wp2_with fail
            obtain ⟨w22x, hw22x⟩ : ∃ w_, w_ = World.alloc w21x (.cells #[] 3) := ⟨_, rfl⟩
            obtain ⟨g22x, hg22x⟩ : ∃ g, g = w21x.heap.size := ⟨_, rfl⟩
            have HB22x : Kept (Below w5.heap.size w5 w22x) := kept (by rw [hw22x]; exact HB21x.out.trans (((Below.refl _ _).alloc (Nat.le_refl _) _).mono HB21x.out.size))
            have HG22x : Kept (w5.heap.size ≤ g22x) := kept (by rw [hg22x]; exact HB21x.out.size)
            have HE22x : Kept (Owns w22x 3 (.slice (some ⟨g22x, 0, none⟩) 0 0) []) := kept (by rw [hw22x, hg22x]; exact Owns.mk (xs := []) (Blk.fresh _ _ _) (Nat.le_refl _) (by simp [maxLen]) rfl rfl)
            have HN22x : Kept (g21x ≠ g22x) := kept (by rw [hg22x]; have := Blk.lt HZ21x.out; omega)
            have HZ22y : Kept (Blk w22x g21x #[.int .i64 0] 3) := kept (by rw [hw22x]; exact HZ21x.out.alloc _)
            rw [← hw22x, ← hg22x]
            clear hw22x hg22x
            show T _ _
            rw [← HT.out]
            clear HT T
            unfold wpOrd
            simp only [pick, List.filterMap_cons, List.filterMap_nil, List.getElem?_cons_zero, List.getElem?_cons_succ]
            generalize hT : wpOrd _ _ _ K _ = T
            have HT := kept hT
            clear hT
            have HNews23x := kept (show ∀ j u, (ints .i64 l)[j]? = some u → w22x.cell? (x0.add j) = some u from fun j u hu => by obtain ⟨x', hxx, hc⟩ := (HR5.out.later HB22x.out).at hu; cases hxx; exact hc)
            refine wpList_appG rfl _ _ 22 rfl 3 i0 (.int .i64 0) 8 Try.underlying22 hi hz0 hz1 hz2 rfl (.slice (some ⟨g22x, 0, none⟩) 0 0) _ rfl HE22x.out x0 _ _ _ rfl HL0.out HNews23x.out ?_ ?_ ?_ ?_
            · intro u hu; obtain ⟨n, _, rfl⟩ := List.mem_map.1 hu; rfl
            · simp [maxLen]
            · simp
            intro v23x w23x O23x C23x F23x
            obtain ⟨a23x, c23x, rfl, hq23x⟩ := O23x.slice
            have e23x : ([] ++ ints .i64 l : List Value).length = 65 := HL0.out
            rw [e23x] at O23x F23x ⊢
            obtain ⟨g23x, rfl⟩ := hq23x (fun e => by rw [e] at e23x; simp at e23x)
            have HO23x := kept (show Owns w23x 3 (.slice (some ⟨g23x, 0, none⟩) 65 c23x) (ints .i64 l) from O23x)
            have HB23x : Kept (Below w5.heap.size w5 w23x) := kept (HB22x.out.trans (C23x.below HB22x.out.size (fun b hb h => by have := HG22x.out; simp [Value.ownBlock] at h; omega)))
            have HG23x : Kept (w5.heap.size ≤ g23x) := kept (by have h1 := HG22x.out; have h2 := HB22x.out.size; rcases F23x g23x rfl with h | h; (simp [Value.ownBlock] at h; omega); omega)
            have HZ23x : Kept (Blk w23x g21x #[.int .i64 0] 3) := kept (C23x.keep HZ22y.out (fun h => by have := HN22x.out; simp [Value.ownBlock] at h; omega))
            clear O23x C23x F23x hq23x HNews23x e23x
            go_wp2_with fail
            show T _ _
            rw [← HT.out]
            clear HT T
            unfold wpOrd
            simp only [pick, List.filterMap_cons, List.filterMap_nil, List.getElem?_cons_zero, List.getElem?_cons_succ]
            have HNews24x := kept (show ∀ j u, [Value.int .i64 0][j]? = some u → w23x.cell? ((⟨g21x, 0, none⟩ : Addr).add j) = some u from one_cell HZ23x.out)
            refine wpList_appG rfl _ _ 22 rfl 3 i0 (.int .i64 0) 8 Try.underlying22 hi hz0 hz1 hz2 rfl (.slice (some ⟨g23x, 0, none⟩) 65 c23x) _ rfl HO23x.out ⟨g21x, 0, none⟩ _ _ [.int .i64 0] rfl rfl HNews24x.out ?_ ?_ ?_ ?_
            · intro u hu; simp at hu; subst hu; rfl
            · simp [maxLen, HL65.out]
            · simp [HL65.out]
            intro v24x w24x O24x C24x F24x
            rw [← ints_snoc] at O24x
            obtain ⟨a24x, c24x, rfl, hq24x⟩ := O24x.slice
            rw [HL66.out] at O24x ⊢
            have HB24x : Kept (Below w5.heap.size w5 w24x) := kept (HB23x.out.trans (C24x.below HB23x.out.size (fun b hb h => by have := HG23x.out; simp [Value.ownBlock] at h; omega)))
            have HMq24x := kept (HM66.out a24x c24x w24x (C_of_rd O24x.rd) (own_cap O24x))
            clear O24x C24x F24x hq24x HNews24x
            go_wp2_with fail
            refine HMq24x.out.mono ?_
            rintro e w24y ⟨rfl, hd24y⟩
            have HB24y := kept (HB24x.out.trans (hd24y.below.mono HB24x.out.size))
            clear hd24y
            go_wp2_with fail
            refine (HA.out _).mono ?_
            rintro e w24z ⟨rfl, hb24z⟩
            have HB24z := kept (HB24y.out.trans (hb24z.mono HB24y.out.size))
            clear hb24z
            go_wp2_with fail
            refine hK _ _ ?_
            go_wp2_with fail
            go_ret
            exact ⟨rfl, HB2.out.trans ((HB5.out.trans (HB24z.out.mono HB5.out.size)).mono HB2.out.size)⟩
        · generalize hT : wpOrd _ _ _ K _ = T
          have HT := kept hT
          clear hT
          go_wp2_with fail
          obtain ⟨w25x, hw25x⟩ : ∃ w_, w_ = World.alloc w7 (.cells #[.int .i64 0] 3) := ⟨_, rfl⟩
          obtain ⟨g25x, hg25x⟩ : ∃ g, g = w7.heap.size := ⟨_, rfl⟩
          have HB25x : Kept (Below w5.heap.size w5 w25x) := kept (by rw [hw25x]; exact HB57.out.trans (((Below.refl _ _).alloc (Nat.le_refl _) _).mono HB57.out.size))
          have HG25x : Kept (w5.heap.size ≤ g25x) := kept (by rw [hg25x]; exact HB57.out.size)
          have HZ25x : Kept (Blk w25x g25x #[.int .i64 0] 3) := kept (by rw [hw25x, hg25x]; exact Blk.fresh _ _ _)
          rw [← hw25x, ← hg25x]
          clear hw25x hg25x
          show T _ _
          rw [← HT.out]
          clear HT T
          unfold wpOrd
          simp only [pick, List.filterMap_cons, List.filterMap_nil, List.getElem?_cons_zero, List.getElem?_cons_succ]
          refine ⟨?_, ?_⟩
          · generalize hT : wpOrd _ _ _ K _ = T
            have HT := kept hT
            clear hT
            go_wp2_with fail
            obtain ⟨w26x, hw26x⟩ : ∃ w_, w_ = World.alloc w25x (.cells #[] 3) := ⟨_, rfl⟩
            obtain ⟨g26x, hg26x⟩ : ∃ g, g = w25x.heap.size := ⟨_, rfl⟩
            have HB26x : Kept (Below w5.heap.size w5 w26x) := kept (by rw [hw26x]; exact HB25x.out.trans (((Below.refl _ _).alloc (Nat.le_refl _) _).mono HB25x.out.size))
            have HG26x : Kept (w5.heap.size ≤ g26x) := kept (by rw [hg26x]; exact HB25x.out.size)
            have HE26x : Kept (Owns w26x 3 (.slice (some ⟨g26x, 0, none⟩) 0 0) []) := kept (by rw [hw26x, hg26x]; exact Owns.mk (xs := []) (Blk.fresh _ _ _) (Nat.le_refl _) (by simp [maxLen]) rfl rfl)
            have HN26x : Kept (g25x ≠ g26x) := kept (by rw [hg26x]; have := Blk.lt HZ25x.out; omega)
            have HZ26y : Kept (Blk w26x g25x #[.int .i64 0] 3) := kept (by rw [hw26x]; exact HZ25x.out.alloc _)
            rw [← hw26x, ← hg26x]
            clear hw26x hg26x
            show T _ _
            rw [← HT.out]
            clear HT T
            unfold wpOrd
            simp only [pick, List.filterMap_cons, List.filterMap_nil, List.getElem?_cons_zero, List.getElem?_cons_succ]
            generalize hT : wpOrd _ _ _ K _ = T
            have HT := kept hT
            clear hT
            go_wp2_with fail
            show T _ _
            rw [← HT.out]
            clear HT T
            unfold wpOrd
            simp only [pick, List.filterMap_cons, List.filterMap_nil, List.getElem?_cons_zero, List.getElem?_cons_succ]
            generalize hT : wpOrd _ _ _ K _ = T
            have HT := kept hT
            clear hT
            have HNews28x := kept (show ∀ j u, (ints .i64 l)[j]? = some u → w26x.cell? (x0.add j) = some u from fun j u hu => by obtain ⟨x', hxx, hc⟩ := (HR5.out.later HB26x.out).at hu; cases hxx; exact hc)
            refine wpList_appG rfl _ _ 22 rfl 3 i0 (.int .i64 0) 8 Try.underlying22 hi hz0 hz1 hz2 rfl (.slice (some ⟨g26x, 0, none⟩) 0 0) _ rfl HE26x.out x0 _ _ _ rfl HL0.out HNews28x.out ?_ ?_ ?_ ?_
            · intro u hu; obtain ⟨n, _, rfl⟩ := List.mem_map.1 hu; rfl
            · simp [maxLen]
            · simp
            intro v28x w28x O28x C28x F28x
            obtain ⟨a28x, c28x, rfl, hq28x⟩ := O28x.slice
            have e28x : ([] ++ ints .i64 l : List Value).length = 65 := HL0.out
            rw [e28x] at O28x F28x ⊢
            obtain ⟨g28x, rfl⟩ := hq28x (fun e => by rw [e] at e28x; simp at e28x)
            have HO28x := kept (show Owns w28x 3 (.slice (some ⟨g28x, 0, none⟩) 65 c28x) (ints .i64 l) from O28x)
            have HB28x : Kept (Below w5.heap.size w5 w28x) := kept (HB26x.out.trans (C28x.below HB26x.out.size (fun b hb h => by have := HG26x.out; simp [Value.ownBlock] at h; omega)))
            have HG28x : Kept (w5.heap.size ≤ g28x) := kept (by have h1 := HG26x.out; have h2 := HB26x.out.size; rcases F28x g28x rfl with h | h; (simp [Value.ownBlock] at h; omega); omega)
            have HZ28x : Kept (Blk w28x g25x #[.int .i64 0] 3) := kept (C28x.keep HZ26y.out (fun h => by have := HN26x.out; simp [Value.ownBlock] at h; omega))
            clear O28x C28x F28x hq28x HNews28x e28x
            go_wp2_with fail
            show T _ _
            rw [← HT.out]
            clear HT T
            unfold wpOrd
            simp only [pick, List.filterMap_cons, List.filterMap_nil, List.getElem?_cons_zero, List.getElem?_cons_succ]
            have HNews29x := kept (show ∀ j u, [Value.int .i64 0][j]? = some u → w28x.cell? ((⟨g25x, 0, none⟩ : Addr).add j) = some u from one_cell HZ28x.out)
            refine wpList_appG rfl _ _ 22 rfl 3 i0 (.int .i64 0) 8 Try.underlying22 hi hz0 hz1 hz2 rfl (.slice (some ⟨g28x, 0, none⟩) 65 c28x) _ rfl HO28x.out ⟨g25x, 0, none⟩ _ _ [.int .i64 0] rfl rfl HNews29x.out ?_ ?_ ?_ ?_
            · intro u hu; simp at hu; subst hu; rfl
            · simp [maxLen, HL65.out]
            · simp [HL65.out]
            intro v29x w29x O29x C29x F29x
            rw [← ints_snoc] at O29x
            obtain ⟨a29x, c29x, rfl, hq29x⟩ := O29x.slice
            rw [HL66.out] at O29x ⊢
            have HB29x : Kept (Below w5.heap.size w5 w29x) := kept (HB28x.out.trans (C29x.below HB28x.out.size (fun b hb h => by have := HG28x.out; simp [Value.ownBlock] at h; omega)))
            have HMq29x := kept (HM66.out a29x c29x w29x (C_of_rd O29x.rd) (own_cap O29x))
            clear O29x C29x F29x hq29x HNews29x
            go_wp2_with fail
            refine HMq29x.out.mono ?_
            rintro e w29y ⟨rfl, hd29y⟩
            have HB29y := kept (HB29x.out.trans (hd29y.below.mono HB29x.out.size))
            clear hd29y
            go_wp2_with fail
            refine (HA.out _).mono ?_
            rintro e w29z ⟨rfl, hb29z⟩
            have HB29z := kept (HB29y.out.trans (hb29z.mono HB29y.out.size))
            clear hb29z
            go_wp2_with fail
            refine hK _ _ ?_
            go_wp2_with fail
            go_ret
            exact ⟨rfl, HB2.out.trans ((HB5.out.trans (HB29z.out.mono HB5.out.size)).mono HB2.out.size)⟩
          · generalize hT : wpOrd _ _ _ K _ = T
            have HT := kept hT
            clear hT
            go_wp2_with fail
            show T _ _
            rw [← HT.out]
            clear HT T
            unfold wpOrd
            simp only [pick, List.filterMap_cons, List.filterMap_nil, List.getElem?_cons_zero, List.getElem?_cons_succ]
            generalize hT : wpOrd _ _ _ K _ = T
            have HT := kept hT
            clear hT
            go_wp2_with fail
            obtain ⟨w31x, hw31x⟩ : ∃ w_, w_ = World.alloc w25x (.cells #[] 3) := ⟨_, rfl⟩
            obtain ⟨g31x, hg31x⟩ : ∃ g, g = w25x.heap.size := ⟨_, rfl⟩
            have HB31x : Kept (Below w5.heap.size w5 w31x) := kept (by rw [hw31x]; exact HB25x.out.trans (((Below.refl _ _).alloc (Nat.le_refl _) _).mono HB25x.out.size))
            have HG31x : Kept (w5.heap.size ≤ g31x) := kept (by rw [hg31x]; exact HB25x.out.size)
            have HE31x : Kept (Owns w31x 3 (.slice (some ⟨g31x, 0, none⟩) 0 0) []) := kept (by rw [hw31x, hg31x]; exact Owns.mk (xs := []) (Blk.fresh _ _ _) (Nat.le_refl _) (by simp [maxLen]) rfl rfl)
            have HN31x : Kept (g25x ≠ g31x) := kept (by rw [hg31x]; have := Blk.lt HZ25x.out; omega)
            have HZ31y : Kept (Blk w31x g25x #[.int .i64 0] 3) := kept (by rw [hw31x]; exact HZ25x.out.alloc _)
            rw [← hw31x, ← hg31x]
            clear hw31x hg31x
            show T _ _
            rw [← HT.out]
            clear HT T
            unfold wpOrd
            simp only [pick, List.filterMap_cons, List.filterMap_nil, List.getElem?_cons_zero, List.getElem?_cons_succ]
            generalize hT : wpOrd _ _ _ K _ = T
            have HT := kept hT
            clear hT
            have HNews32x := kept (show ∀ j u, (ints .i64 l)[j]? = some u → w31x.cell? (x0.add j) = some u from fun j u hu => by obtain ⟨x', hxx, hc⟩ := (HR5.out.later HB31x.out).at hu; cases hxx; exact hc)
            refine wpList_appG rfl _ _ 22 rfl 3 i0 (.int .i64 0) 8 Try.underlying22 hi hz0 hz1 hz2 rfl (.slice (some ⟨g31x, 0, none⟩) 0 0) _ rfl HE31x.out x0 _ _ _ rfl HL0.out HNews32x.out ?_ ?_ ?_ ?_
            · intro u hu; obtain ⟨n, _, rfl⟩ := List.mem_map.1 hu; rfl
            · simp [maxLen]
            · simp
            intro v32x w32x O32x C32x F32x
            obtain ⟨a32x, c32x, rfl, hq32x⟩ := O32x.slice
            have e32x : ([] ++ ints .i64 l : List Value).length = 65 := HL0.out
            rw [e32x] at O32x F32x ⊢
            obtain ⟨g32x, rfl⟩ := hq32x (fun e => by rw [e] at e32x; simp at e32x)
            have HO32x := kept (show Owns w32x 3 (.slice (some ⟨g32x, 0, none⟩) 65 c32x) (ints .i64 l) from O32x)
            have HB32x : Kept (Below w5.heap.size w5 w32x) := kept (HB31x.out.trans (C32x.below HB31x.out.size (fun b hb h => by have := HG31x.out; simp [Value.ownBlock] at h; omega)))
            have HG32x : Kept (w5.heap.size ≤ g32x) := kept (by have h1 := HG31x.out; have h2 := HB31x.out.size; rcases F32x g32x rfl with h | h; (simp [Value.ownBlock] at h; omega); omega)
            have HZ32x : Kept (Blk w32x g25x #[.int .i64 0] 3) := kept (C32x.keep HZ31y.out (fun h => by have := HN31x.out; simp [Value.ownBlock] at h; omega))
            clear O32x C32x F32x hq32x HNews32x e32x
            go_wp2_with fail
            show T _ _
            rw [← HT.out]
            clear HT T
            unfold wpOrd
            simp only [pick, List.filterMap_cons, List.filterMap_nil, List.getElem?_cons_zero, List.getElem?_cons_succ]
            have HNews33x := kept (show ∀ j u, [Value.int .i64 0][j]? = some u → w32x.cell? ((⟨g25x, 0, none⟩ : Addr).add j) = some u from one_cell HZ32x.out)
            refine wpList_appG rfl _ _ 22 rfl 3 i0 (.int .i64 0) 8 Try.underlying22 hi hz0 hz1 hz2 rfl (.slice (some ⟨g32x, 0, none⟩) 65 c32x) _ rfl HO32x.out ⟨g25x, 0, none⟩ _ _ [.int .i64 0] rfl rfl HNews33x.out ?_ ?_ ?_ ?_
            · intro u hu; simp at hu; subst hu; rfl
            · simp [maxLen, HL65.out]
            · simp [HL65.out]
            intro v33x w33x O33x C33x F33x
            rw [← ints_snoc] at O33x
            obtain ⟨a33x, c33x, rfl, hq33x⟩ := O33x.slice
            rw [HL66.out] at O33x ⊢
            have HB33x : Kept (Below w5.heap.size w5 w33x) := kept (HB32x.out.trans (C33x.below HB32x.out.size (fun b hb h => by have := HG32x.out; simp [Value.ownBlock] at h; omega)))
            have HMq33x := kept (HM66.out a33x c33x w33x (C_of_rd O33x.rd) (own_cap O33x))
            clear O33x C33x F33x hq33x HNews33x
            go_wp2_with fail
            refine HMq33x.out.mono ?_
            rintro e w33y ⟨rfl, hd33y⟩
            have HB33y := kept (HB33x.out.trans (hd33y.below.mono HB33x.out.size))
            clear hd33y
            go_wp2_with fail
            refine (HA.out _).mono ?_
            rintro e w33z ⟨rfl, hb33z⟩
            have HB33z := kept (HB33y.out.trans (hb33z.mono HB33y.out.size))
            clear hb33z
            go_wp2_with fail
            refine hK _ _ ?_
            go_wp2_with fail
            go_ret
            exact ⟨rfl, HB2.out.trans ((HB5.out.trans (HB33z.out.mono HB5.out.size)).mono HB2.out.size)⟩
        -- END a
      · have tva : ((v : Int) == a) = false := beq_eq_false_iff_ne.2 hva
        by_cases hfew : cn ≤ 2
        · have tf : decide ((cn : Int) ≤ 2) = true := decide_eq_true (by omega)
        -- CASE b
          refine wp_region_ordL [] [0,1,2,3,4,5,6,7,8,9,10,11,12,13] (.pre [14,15,16,17,18,19,20,21,22,23,24,25,26,27,28] (.fork3 29 (.fork 30 (.fork 31 (.pre [32] (.chain [33,34,35,36,37,38,39,40])) 32 (.pre [31] (.chain [33,34,35,36,37,38,39,40]))) 32 (.pre [30] (.pre [31] (.chain [33,34,35,36,37,38,39,40])))) 30 (.fork 29 (.fork 31 (.pre [32] (.chain [33,34,35,36,37,38,39,40])) 32 (.pre [31] (.chain [33,34,35,36,37,38,39,40]))) 32 (.pre [29] (.pre [31] (.chain [33,34,35,36,37,38,39,40])))) 32 (.fork 29 (.pre [30] (.pre [31] (.chain [33,34,35,36,37,38,39,40]))) 30 (.pre [29] (.pre [31] (.chain [33,34,35,36,37,38,39,40])))))) (by kernel_rfl) (by kernel_rfl) ?_
          intro K hK
          have hmk2 := lat_cell hmk
          have hlk2 := lat_cell hlk
          simp only [pick, List.filterMap_cons, List.filterMap_nil, List.getElem?_cons_zero, List.getElem?_cons_succ]
          iterate 14 (show wpQuiet _ _ _ _ (_ :: _) _; go_big_quiet_step (fail))
          refine wpQuiet_nil ?_
          clear hmk2 hlk2
          have hwd : Below w5.heap.size w5 w5.drew := (Below.refl _ _).drew
          generalize w5.drew = w6 at hwd ⊢
          have HB56 := kept hwd
          clear hwd
          unfold wpOrd
          simp only [pick, List.filterMap_cons, List.filterMap_nil, List.getElem?_cons_zero, List.getElem?_cons_succ]
          generalize hT : wpOrd _ _ _ K (Ord.fork3 _ _ _ _ _ _) = T
          have HT := kept hT
          clear hT
          show wpList _ _ _ [_,_,_,_,_,_,_,_,_,_,_,_,_,_,_] _ _
          repeat go_big_skip
          go_wp2_with fail
          refine ((HM64.out _ HB56.out).mono ?_)
          rintro e w7 ⟨rfl, hd7⟩
          have HB57 := kept (HB56.out.trans (hd7.below.mono HB56.out.size))
          clear hd7
          go_wp2_with fail
          show T _ _
          rw [← HT.out]
          clear HT T
          unfold wpOrd
          simp only [pick, List.filterMap_cons, List.filterMap_nil, List.getElem?_cons_zero, List.getElem?_cons_succ]
          refine ⟨?_, ?_, ?_⟩
          · generalize hT : wpOrd _ _ _ K _ = T
            have HT := kept hT
            clear hT
            go_wp2_with fail
            obtain ⟨w34x, hw34x⟩ : ∃ w_, w_ = World.alloc w7 (.cells #[] 3) := ⟨_, rfl⟩
            obtain ⟨g34x, hg34x⟩ : ∃ g, g = w7.heap.size := ⟨_, rfl⟩
            have HB34x : Kept (Below w5.heap.size w5 w34x) := kept (by rw [hw34x]; exact HB57.out.trans (((Below.refl _ _).alloc (Nat.le_refl _) _).mono HB57.out.size))
            have HG34x : Kept (w5.heap.size ≤ g34x) := kept (by rw [hg34x]; exact HB57.out.size)
            have HE34x : Kept (Owns w34x 3 (.slice (some ⟨g34x, 0, none⟩) 0 0) []) := kept (by rw [hw34x, hg34x]; exact Owns.mk (xs := []) (Blk.fresh _ _ _) (Nat.le_refl _) (by simp [maxLen]) rfl rfl)
            rw [← hw34x, ← hg34x]
            clear hw34x hg34x
            show T _ _
            rw [← HT.out]
            clear HT T
            unfold wpOrd
            simp only [pick, List.filterMap_cons, List.filterMap_nil, List.getElem?_cons_zero, List.getElem?_cons_succ]
            refine ⟨?_, ?_⟩
            · generalize hT : wpOrd _ _ _ K _ = T
              have HT := kept hT
              clear hT
              go_wp2_with fail
              show T _ _
              rw [← HT.out]
              clear HT T
              unfold wpOrd
              simp only [pick, List.filterMap_cons, List.filterMap_nil, List.getElem?_cons_zero, List.getElem?_cons_succ]
              refine ⟨?_, ?_⟩
              · generalize hT : wpOrd _ _ _ K _ = T
                have HT := kept hT
                clear hT
                have HNews36x := kept (show ∀ j u, (ints .i64 l)[j]? = some u → w34x.cell? (x0.add j) = some u from fun j u hu => by obtain ⟨x', hxx, hc⟩ := (HR5.out.later HB34x.out).at hu; cases hxx; exact hc)
                refine wpList_appG rfl _ _ 22 rfl 3 i0 (.int .i64 0) 8 Try.underlying22 hi hz0 hz1 hz2 rfl (.slice (some ⟨g34x, 0, none⟩) 0 0) _ rfl HE34x.out x0 _ _ _ rfl HL0.out HNews36x.out ?_ ?_ ?_ ?_
                · intro u hu; obtain ⟨n, _, rfl⟩ := List.mem_map.1 hu; rfl
                · simp [maxLen]
                · simp
                intro v36x w36x O36x C36x F36x
                obtain ⟨a36x, c36x, rfl, hq36x⟩ := O36x.slice
                have e36x : ([] ++ ints .i64 l : List Value).length = 65 := HL0.out
                rw [e36x] at O36x F36x ⊢
                obtain ⟨g36x, rfl⟩ := hq36x (fun e => by rw [e] at e36x; simp at e36x)
                have HO36x := kept (show Owns w36x 3 (.slice (some ⟨g36x, 0, none⟩) 65 c36x) (ints .i64 l) from O36x)
                have HB36x : Kept (Below w5.heap.size w5 w36x) := kept (HB34x.out.trans (C36x.below HB34x.out.size (fun b hb h => by have := HG34x.out; simp [Value.ownBlock] at h; omega)))
                have HG36x : Kept (w5.heap.size ≤ g36x) := kept (by have h1 := HG34x.out; have h2 := HB34x.out.size; rcases F36x g36x rfl with h | h; (simp [Value.ownBlock] at h; omega); omega)
                clear O36x C36x F36x hq36x HNews36x e36x
                go_wp2_with fail
                show T _ _
                rw [← HT.out]
                clear HT T
                unfold wpOrd
                simp only [pick, List.filterMap_cons, List.filterMap_nil, List.getElem?_cons_zero, List.getElem?_cons_succ]
                generalize hT : wpOrd _ _ _ K _ = T
                have HT := kept hT
                clear hT
                go_wp2_with fail
                obtain ⟨w37x, hw37x⟩ : ∃ w_, w_ = World.alloc w36x (.cells #[.int .i64 0] 3) := ⟨_, rfl⟩
                obtain ⟨g37x, hg37x⟩ : ∃ g, g = w36x.heap.size := ⟨_, rfl⟩
                have HB37x : Kept (Below w5.heap.size w5 w37x) := kept (by rw [hw37x]; exact HB36x.out.trans (((Below.refl _ _).alloc (Nat.le_refl _) _).mono HB36x.out.size))
                have HG37x : Kept (w5.heap.size ≤ g37x) := kept (by rw [hg37x]; exact HB36x.out.size)
                have HZ37x : Kept (Blk w37x g37x #[.int .i64 0] 3) := kept (by rw [hw37x, hg37x]; exact Blk.fresh _ _ _)
                have HO37y : Kept (Owns w37x 3 (.slice (some ⟨g36x, 0, none⟩) 65 c36x) (ints .i64 l)) := kept (by rw [hw37x]; exact HO36x.out.alloc _)
                rw [← hw37x, ← hg37x]
                clear hw37x hg37x
                show T _ _
                rw [← HT.out]
                clear HT T
                unfold wpOrd
                simp only [pick, List.filterMap_cons, List.filterMap_nil, List.getElem?_cons_zero, List.getElem?_cons_succ]
                have HNews38x := kept (show ∀ j u, [Value.int .i64 0][j]? = some u → w37x.cell? ((⟨g37x, 0, none⟩ : Addr).add j) = some u from one_cell HZ37x.out)
                refine wpList_appG rfl _ _ 22 rfl 3 i0 (.int .i64 0) 8 Try.underlying22 hi hz0 hz1 hz2 rfl (.slice (some ⟨g36x, 0, none⟩) 65 c36x) _ rfl HO37y.out ⟨g37x, 0, none⟩ _ _ [.int .i64 0] rfl rfl HNews38x.out ?_ ?_ ?_ ?_
                · intro u hu; simp at hu; subst hu; rfl
                · simp [maxLen, HL65.out]
                · simp [HL65.out]
                intro v38x w38x O38x C38x F38x
                rw [← ints_snoc] at O38x
                obtain ⟨a38x, c38x, rfl, hq38x⟩ := O38x.slice
                rw [HL66.out] at O38x ⊢
                have HB38x : Kept (Below w5.heap.size w5 w38x) := kept (HB37x.out.trans (C38x.below HB37x.out.size (fun b hb h => by have := HG36x.out; simp [Value.ownBlock] at h; omega)))
                have HMq38x := kept (HM66.out a38x c38x w38x (C_of_rd O38x.rd) (own_cap O38x))
                clear O38x C38x F38x hq38x HNews38x
                go_wp2_with fail
                refine HMq38x.out.mono ?_
                rintro e w38y ⟨rfl, hd38y⟩
                have HB38y := kept (HB38x.out.trans (hd38y.below.mono HB38x.out.size))
                clear hd38y
                go_wp2_with fail
                refine (HA.out _).mono ?_
                rintro e w38z ⟨rfl, hb38z⟩
                have HB38z := kept (HB38y.out.trans (hb38z.mono HB38y.out.size))
                clear hb38z
                go_wp2_with fail
                refine hK _ _ ?_
                go_wp2_with fail
                go_ret
                exact ⟨rfl, HB2.out.trans ((HB5.out.trans (HB38z.out.mono HB5.out.size)).mono HB2.out.size)⟩
              · generalize hT : wpOrd _ _ _ K _ = T
                have HT := kept hT
                clear hT
                go_wp2_with fail
                obtain ⟨w39x, hw39x⟩ : ∃ w_, w_ = World.alloc w34x (.cells #[.int .i64 0] 3) := ⟨_, rfl⟩
                obtain ⟨g39x, hg39x⟩ : ∃ g, g = w34x.heap.size := ⟨_, rfl⟩
                have HB39x : Kept (Below w5.heap.size w5 w39x) := kept (by rw [hw39x]; exact HB34x.out.trans (((Below.refl _ _).alloc (Nat.le_refl _) _).mono HB34x.out.size))
                have HG39x : Kept (w5.heap.size ≤ g39x) := kept (by rw [hg39x]; exact HB34x.out.size)
                have HZ39x : Kept (Blk w39x g39x #[.int .i64 0] 3) := kept (by rw [hw39x, hg39x]; exact Blk.fresh _ _ _)
                have HN39x : Kept (g39x ≠ g34x) := kept (by rw [hg39x]; have := HE34x.out.lt g34x rfl; omega)
                have HE39y : Kept (Owns w39x 3 (.slice (some ⟨g34x, 0, none⟩) 0 0) []) := kept (by rw [hw39x]; exact HE34x.out.alloc _)
                rw [← hw39x, ← hg39x]
                clear hw39x hg39x
                show T _ _
                rw [← HT.out]
                clear HT T
                unfold wpOrd
                simp only [pick, List.filterMap_cons, List.filterMap_nil, List.getElem?_cons_zero, List.getElem?_cons_succ]
                generalize hT : wpOrd _ _ _ K _ = T
                have HT := kept hT
                clear hT
                have HNews40x := kept (show ∀ j u, (ints .i64 l)[j]? = some u → w39x.cell? (x0.add j) = some u from fun j u hu => by obtain ⟨x', hxx, hc⟩ := (HR5.out.later HB39x.out).at hu; cases hxx; exact hc)
                refine wpList_appG rfl _ _ 22 rfl 3 i0 (.int .i64 0) 8 Try.underlying22 hi hz0 hz1 hz2 rfl (.slice (some ⟨g34x, 0, none⟩) 0 0) _ rfl HE39y.out x0 _ _ _ rfl HL0.out HNews40x.out ?_ ?_ ?_ ?_
                · intro u hu; obtain ⟨n, _, rfl⟩ := List.mem_map.1 hu; rfl
                · simp [maxLen]
                · simp
                intro v40x w40x O40x C40x F40x
                obtain ⟨a40x, c40x, rfl, hq40x⟩ := O40x.slice
                have e40x : ([] ++ ints .i64 l : List Value).length = 65 := HL0.out
                rw [e40x] at O40x F40x ⊢
                obtain ⟨g40x, rfl⟩ := hq40x (fun e => by rw [e] at e40x; simp at e40x)
                have HO40x := kept (show Owns w40x 3 (.slice (some ⟨g40x, 0, none⟩) 65 c40x) (ints .i64 l) from O40x)
                have HB40x : Kept (Below w5.heap.size w5 w40x) := kept (HB39x.out.trans (C40x.below HB39x.out.size (fun b hb h => by have := HG34x.out; simp [Value.ownBlock] at h; omega)))
                have HG40x : Kept (w5.heap.size ≤ g40x) := kept (by have h1 := HG34x.out; have h2 := HB39x.out.size; rcases F40x g40x rfl with h | h; (simp [Value.ownBlock] at h; omega); omega)
                have HZ40x : Kept (Blk w40x g39x #[.int .i64 0] 3) := kept (C40x.keep HZ39x.out (fun h => by have := HN39x.out; simp [Value.ownBlock] at h; omega))
                clear O40x C40x F40x hq40x HNews40x e40x
                go_wp2_with fail
                show T _ _
                rw [← HT.out]
                clear HT T
                unfold wpOrd
                simp only [pick, List.filterMap_cons, List.filterMap_nil, List.getElem?_cons_zero, List.getElem?_cons_succ]
                have HNews41x := kept (show ∀ j u, [Value.int .i64 0][j]? = some u → w40x.cell? ((⟨g39x, 0, none⟩ : Addr).add j) = some u from one_cell HZ40x.out)
                refine wpList_appG rfl _ _ 22 rfl 3 i0 (.int .i64 0) 8 Try.underlying22 hi hz0 hz1 hz2 rfl (.slice (some ⟨g40x, 0, none⟩) 65 c40x) _ rfl HO40x.out ⟨g39x, 0, none⟩ _ _ [.int .i64 0] rfl rfl HNews41x.out ?_ ?_ ?_ ?_
                · intro u hu; simp at hu; subst hu; rfl
                · simp [maxLen, HL65.out]
                · simp [HL65.out]
                intro v41x w41x O41x C41x F41x
                rw [← ints_snoc] at O41x
                obtain ⟨a41x, c41x, rfl, hq41x⟩ := O41x.slice
                rw [HL66.out] at O41x ⊢
                have HB41x : Kept (Below w5.heap.size w5 w41x) := kept (HB40x.out.trans (C41x.below HB40x.out.size (fun b hb h => by have := HG40x.out; simp [Value.ownBlock] at h; omega)))
                have HMq41x := kept (HM66.out a41x c41x w41x (C_of_rd O41x.rd) (own_cap O41x))
                clear O41x C41x F41x hq41x HNews41x
                go_wp2_with fail
                refine HMq41x.out.mono ?_
                rintro e w41y ⟨rfl, hd41y⟩
                have HB41y := kept (HB41x.out.trans (hd41y.below.mono HB41x.out.size))
                clear hd41y
                go_wp2_with fail
                refine (HA.out _).mono ?_
                rintro e w41z ⟨rfl, hb41z⟩
                have HB41z := kept (HB41y.out.trans (hb41z.mono HB41y.out.size))
                clear hb41z
                go_wp2_with fail
                refine hK _ _ ?_
                go_wp2_with fail
                go_ret
                exact ⟨rfl, HB2.out.trans ((HB5.out.trans (HB41z.out.mono HB5.out.size)).mono HB2.out.size)⟩
            · generalize hT : wpOrd _ _ _ K _ = T
              have HT := kept hT
              clear hT
              go_wp2_with fail
              obtain ⟨w42x, hw42x⟩ : ∃ w_, w_ = World.alloc w34x (.cells #[.int .i64 0] 3) := ⟨_, rfl⟩
              obtain ⟨g42x, hg42x⟩ : ∃ g, g = w34x.heap.size := ⟨_, rfl⟩
              have HB42x : Kept (Below w5.heap.size w5 w42x) := kept (by rw [hw42x]; exact HB34x.out.trans (((Below.refl _ _).alloc (Nat.le_refl _) _).mono HB34x.out.size))
              have HG42x : Kept (w5.heap.size ≤ g42x) := kept (by rw [hg42x]; exact HB34x.out.size)
              have HZ42x : Kept (Blk w42x g42x #[.int .i64 0] 3) := kept (by rw [hw42x, hg42x]; exact Blk.fresh _ _ _)
              have HN42x : Kept (g42x ≠ g34x) := kept (by rw [hg42x]; have := HE34x.out.lt g34x rfl; omega)
              have HE42y : Kept (Owns w42x 3 (.slice (some ⟨g34x, 0, none⟩) 0 0) []) := kept (by rw [hw42x]; exact HE34x.out.alloc _)
              rw [← hw42x, ← hg42x]
              clear hw42x hg42x
              show T _ _
              rw [← HT.out]
              clear HT T
              unfold wpOrd
              simp only [pick, List.filterMap_cons, List.filterMap_nil, List.getElem?_cons_zero, List.getElem?_cons_succ]
              generalize hT : wpOrd _ _ _ K _ = T
              have HT := kept hT
              clear hT
              go_wp2_with fail
              show T _ _
              rw [← HT.out]
              clear HT T
              unfold wpOrd
              simp only [pick, List.filterMap_cons, List.filterMap_nil, List.getElem?_cons_zero, List.getElem?_cons_succ]
              generalize hT : wpOrd _ _ _ K _ = T
              have HT := kept hT
              clear hT
              have HNews44x := kept (show ∀ j u, (ints .i64 l)[j]? = some u → w42x.cell? (x0.add j) = some u from fun j u hu => by obtain ⟨x', hxx, hc⟩ := (HR5.out.later HB42x.out).at hu; cases hxx; exact hc)
              refine wpList_appG rfl _ _ 22 rfl 3 i0 (.int .i64 0) 8 Try.underlying22 hi hz0 hz1 hz2 rfl (.slice (some ⟨g34x, 0, none⟩) 0 0) _ rfl HE42y.out x0 _ _ _ rfl HL0.out HNews44x.out ?_ ?_ ?_ ?_
              · intro u hu; obtain ⟨n, _, rfl⟩ := List.mem_map.1 hu; rfl
              · simp [maxLen]
              · simp
              intro v44x w44x O44x C44x F44x
              obtain ⟨a44x, c44x, rfl, hq44x⟩ := O44x.slice
              have e44x : ([] ++ ints .i64 l : List Value).length = 65 := HL0.out
              rw [e44x] at O44x F44x ⊢
              obtain ⟨g44x, rfl⟩ := hq44x (fun e => by rw [e] at e44x; simp at e44x)
              have HO44x := kept (show Owns w44x 3 (.slice (some ⟨g44x, 0, none⟩) 65 c44x) (ints .i64 l) from O44x)
              have HB44x : Kept (Below w5.heap.size w5 w44x) := kept (HB42x.out.trans (C44x.below HB42x.out.size (fun b hb h => by have := HG34x.out; simp [Value.ownBlock] at h; omega)))
              have HG44x : Kept (w5.heap.size ≤ g44x) := kept (by have h1 := HG34x.out; have h2 := HB42x.out.size; rcases F44x g44x rfl with h | h; (simp [Value.ownBlock] at h; omega); omega)
              have HZ44x : Kept (Blk w44x g42x #[.int .i64 0] 3) := kept (C44x.keep HZ42x.out (fun h => by have := HN42x.out; simp [Value.ownBlock] at h; omega))
              clear O44x C44x F44x hq44x HNews44x e44x
              go_wp2_with fail
              show T _ _
              rw [← HT.out]
              clear HT T
              unfold wpOrd
              simp only [pick, List.filterMap_cons, List.filterMap_nil, List.getElem?_cons_zero, List.getElem?_cons_succ]
              have HNews45x := kept (show ∀ j u, [Value.int .i64 0][j]? = some u → w44x.cell? ((⟨g42x, 0, none⟩ : Addr).add j) = some u from one_cell HZ44x.out)
              refine wpList_appG rfl _ _ 22 rfl 3 i0 (.int .i64 0) 8 Try.underlying22 hi hz0 hz1 hz2 rfl (.slice (some ⟨g44x, 0, none⟩) 65 c44x) _ rfl HO44x.out ⟨g42x, 0, none⟩ _ _ [.int .i64 0] rfl rfl HNews45x.out ?_ ?_ ?_ ?_
              · intro u hu; simp at hu; subst hu; rfl
              · simp [maxLen, HL65.out]
              · simp [HL65.out]
              intro v45x w45x O45x C45x F45x
              rw [← ints_snoc] at O45x
              obtain ⟨a45x, c45x, rfl, hq45x⟩ := O45x.slice
              rw [HL66.out] at O45x ⊢
              have HB45x : Kept (Below w5.heap.size w5 w45x) := kept (HB44x.out.trans (C45x.below HB44x.out.size (fun b hb h => by have := HG44x.out; simp [Value.ownBlock] at h; omega)))
              have HMq45x := kept (HM66.out a45x c45x w45x (C_of_rd O45x.rd) (own_cap O45x))
              clear O45x C45x F45x hq45x HNews45x
              go_wp2_with fail
              refine HMq45x.out.mono ?_
              rintro e w45y ⟨rfl, hd45y⟩
              have HB45y := kept (HB45x.out.trans (hd45y.below.mono HB45x.out.size))
              clear hd45y
              go_wp2_with fail
              refine (HA.out _).mono ?_
              rintro e w45z ⟨rfl, hb45z⟩
              have HB45z := kept (HB45y.out.trans (hb45z.mono HB45y.out.size))
              clear hb45z
              go_wp2_with fail
              refine hK _ _ ?_
              go_wp2_with fail
              go_ret
              exact ⟨rfl, HB2.out.trans ((HB5.out.trans (HB45z.out.mono HB5.out.size)).mono HB2.out.size)⟩
          · generalize hT : wpOrd _ _ _ K _ = T
            have HT := kept hT
            clear hT
            go_wp2_with fail
            show T _ _
            rw [← HT.out]
            clear HT T
            unfold wpOrd
            simp only [pick, List.filterMap_cons, List.filterMap_nil, List.getElem?_cons_zero, List.getElem?_cons_succ]
            refine ⟨?_, ?_⟩
            · generalize hT : wpOrd _ _ _ K _ = T
              have HT := kept hT
              clear hT
              go_wp2_with fail
              obtain ⟨w47x, hw47x⟩ : ∃ w_, w_ = World.alloc w7 (.cells #[] 3) := ⟨_, rfl⟩
              obtain ⟨g47x, hg47x⟩ : ∃ g, g = w7.heap.size := ⟨_, rfl⟩
              have HB47x : Kept (Below w5.heap.size w5 w47x) := kept (by rw [hw47x]; exact HB57.out.trans (((Below.refl _ _).alloc (Nat.le_refl _) _).mono HB57.out.size))
              have HG47x : Kept (w5.heap.size ≤ g47x) := kept (by rw [hg47x]; exact HB57.out.size)
              have HE47x : Kept (Owns w47x 3 (.slice (some ⟨g47x, 0, none⟩) 0 0) []) := kept (by rw [hw47x, hg47x]; exact Owns.mk (xs := []) (Blk.fresh _ _ _) (Nat.le_refl _) (by simp [maxLen]) rfl rfl)
              rw [← hw47x, ← hg47x]
              clear hw47x hg47x
              show T _ _
              rw [← HT.out]
              clear HT T
              unfold wpOrd
              simp only [pick, List.filterMap_cons, List.filterMap_nil, List.getElem?_cons_zero, List.getElem?_cons_succ]
              refine ⟨?_, ?_⟩
              · generalize hT : wpOrd _ _ _ K _ = T
                have HT := kept hT
                clear hT
                have HNews48x := kept (show ∀ j u, (ints .i64 l)[j]? = some u → w47x.cell? (x0.add j) = some u from fun j u hu => by obtain ⟨x', hxx, hc⟩ := (HR5.out.later HB47x.out).at hu; cases hxx; exact hc)
                refine wpList_appG rfl _ _ 22 rfl 3 i0 (.int .i64 0) 8 Try.underlying22 hi hz0 hz1 hz2 rfl (.slice (some ⟨g47x, 0, none⟩) 0 0) _ rfl HE47x.out x0 _ _ _ rfl HL0.out HNews48x.out ?_ ?_ ?_ ?_
                · intro u hu; obtain ⟨n, _, rfl⟩ := List.mem_map.1 hu; rfl
                · simp [maxLen]
                · simp
                intro v48x w48x O48x C48x F48x
                obtain ⟨a48x, c48x, rfl, hq48x⟩ := O48x.slice
                have e48x : ([] ++ ints .i64 l : List Value).length = 65 := HL0.out
                rw [e48x] at O48x F48x ⊢
                obtain ⟨g48x, rfl⟩ := hq48x (fun e => by rw [e] at e48x; simp at e48x)
                have HO48x := kept (show Owns w48x 3 (.slice (some ⟨g48x, 0, none⟩) 65 c48x) (ints .i64 l) from O48x)
                have HB48x : Kept (Below w5.heap.size w5 w48x) := kept (HB47x.out.trans (C48x.below HB47x.out.size (fun b hb h => by have := HG47x.out; simp [Value.ownBlock] at h; omega)))
                have HG48x : Kept (w5.heap.size ≤ g48x) := kept (by have h1 := HG47x.out; have h2 := HB47x.out.size; rcases F48x g48x rfl with h | h; (simp [Value.ownBlock] at h; omega); omega)
                clear O48x C48x F48x hq48x HNews48x e48x
                go_wp2_with fail
                show T _ _
                rw [← HT.out]
                clear HT T
                unfold wpOrd
                simp only [pick, List.filterMap_cons, List.filterMap_nil, List.getElem?_cons_zero, List.getElem?_cons_succ]
                generalize hT : wpOrd _ _ _ K _ = T
                have HT := kept hT
                clear hT
                go_wp2_with fail
                obtain ⟨w49x, hw49x⟩ : ∃ w_, w_ = World.alloc w48x (.cells #[.int .i64 0] 3) := ⟨_, rfl⟩
                obtain ⟨g49x, hg49x⟩ : ∃ g, g = w48x.heap.size := ⟨_, rfl⟩
                have HB49x : Kept (Below w5.heap.size w5 w49x) := kept (by rw [hw49x]; exact HB48x.out.trans (((Below.refl _ _).alloc (Nat.le_refl _) _).mono HB48x.out.size))
                have HG49x : Kept (w5.heap.size ≤ g49x) := kept (by rw [hg49x]; exact HB48x.out.size)
                have HZ49x : Kept (Blk w49x g49x #[.int .i64 0] 3) := kept (by rw [hw49x, hg49x]; exact Blk.fresh _ _ _)
                have HO49y : Kept (Owns w49x 3 (.slice (some ⟨g48x, 0, none⟩) 65 c48x) (ints .i64 l)) := kept (by rw [hw49x]; exact HO48x.out.alloc _)
                rw [← hw49x, ← hg49x]
                clear hw49x hg49x
                show T _ _
                rw [← HT.out]
                clear HT T
                unfold wpOrd
                simp only [pick, List.filterMap_cons, List.filterMap_nil, List.getElem?_cons_zero, List.getElem?_cons_succ]
                have HNews50x := kept (show ∀ j u, [Value.int .i64 0][j]? = some u → w49x.cell? ((⟨g49x, 0, none⟩ : Addr).add j) = some u from one_cell HZ49x.out)
                refine wpList_appG rfl _ _ 22 rfl 3 i0 (.int .i64 0) 8 Try.underlying22 hi hz0 hz1 hz2 rfl (.slice (some ⟨g48x, 0, none⟩) 65 c48x) _ rfl HO49y.out ⟨g49x, 0, none⟩ _ _ [.int .i64 0] rfl rfl HNews50x.out ?_ ?_ ?_ ?_
                · intro u hu; simp at hu; subst hu; rfl
                · simp [maxLen, HL65.out]
                · simp [HL65.out]
                intro v50x w50x O50x C50x F50x
                rw [← ints_snoc] at O50x
                obtain ⟨a50x, c50x, rfl, hq50x⟩ := O50x.slice
                rw [HL66.out] at O50x ⊢
                have HB50x : Kept (Below w5.heap.size w5 w50x) := kept (HB49x.out.trans (C50x.below HB49x.out.size (fun b hb h => by have := HG48x.out; simp [Value.ownBlock] at h; omega)))
                have HMq50x := kept (HM66.out a50x c50x w50x (C_of_rd O50x.rd) (own_cap O50x))
                clear O50x C50x F50x hq50x HNews50x
                go_wp2_with fail
                refine HMq50x.out.mono ?_
                rintro e w50y ⟨rfl, hd50y⟩
                have HB50y := kept (HB50x.out.trans (hd50y.below.mono HB50x.out.size))
                clear hd50y
                go_wp2_with fail
                refine (HA.out _).mono ?_
                rintro e w50z ⟨rfl, hb50z⟩
                have HB50z := kept (HB50y.out.trans (hb50z.mono HB50y.out.size))
                clear hb50z
                go_wp2_with fail
                refine hK _ _ ?_
                go_wp2_with fail
                go_ret
                exact ⟨rfl, HB2.out.trans ((HB5.out.trans (HB50z.out.mono HB5.out.size)).mono HB2.out.size)⟩
              · generalize hT : wpOrd _ _ _ K _ = T
                have HT := kept hT
                clear hT
                go_wp2_with fail
                obtain ⟨w51x, hw51x⟩ : ∃ w_, w_ = World.alloc w47x (.cells #[.int .i64 0] 3) := ⟨_, rfl⟩
                obtain ⟨g51x, hg51x⟩ : ∃ g, g = w47x.heap.size := ⟨_, rfl⟩
                have HB51x : Kept (Below w5.heap.size w5 w51x) := kept (by rw [hw51x]; exact HB47x.out.trans (((Below.refl _ _).alloc (Nat.le_refl _) _).mono HB47x.out.size))
                have HG51x : Kept (w5.heap.size ≤ g51x) := kept (by rw [hg51x]; exact HB47x.out.size)
                have HZ51x : Kept (Blk w51x g51x #[.int .i64 0] 3) := kept (by rw [hw51x, hg51x]; exact Blk.fresh _ _ _)
                have HN51x : Kept (g51x ≠ g47x) := kept (by rw [hg51x]; have := HE47x.out.lt g47x rfl; omega)
                have HE51y : Kept (Owns w51x 3 (.slice (some ⟨g47x, 0, none⟩) 0 0) []) := kept (by rw [hw51x]; exact HE47x.out.alloc _)
                rw [← hw51x, ← hg51x]
                clear hw51x hg51x
                show T _ _
                rw [← HT.out]
                clear HT T
                unfold wpOrd
                simp only [pick, List.filterMap_cons, List.filterMap_nil, List.getElem?_cons_zero, List.getElem?_cons_succ]
                generalize hT : wpOrd _ _ _ K _ = T
                have HT := kept hT
                clear hT
                have HNews52x := kept (show ∀ j u, (ints .i64 l)[j]? = some u → w51x.cell? (x0.add j) = some u from fun j u hu => by obtain ⟨x', hxx, hc⟩ := (HR5.out.later HB51x.out).at hu; cases hxx; exact hc)
                refine wpList_appG rfl _ _ 22 rfl 3 i0 (.int .i64 0) 8 Try.underlying22 hi hz0 hz1 hz2 rfl (.slice (some ⟨g47x, 0, none⟩) 0 0) _ rfl HE51y.out x0 _ _ _ rfl HL0.out HNews52x.out ?_ ?_ ?_ ?_
                · intro u hu; obtain ⟨n, _, rfl⟩ := List.mem_map.1 hu; rfl
                · simp [maxLen]
                · simp
                intro v52x w52x O52x C52x F52x
                obtain ⟨a52x, c52x, rfl, hq52x⟩ := O52x.slice
                have e52x : ([] ++ ints .i64 l : List Value).length = 65 := HL0.out
                rw [e52x] at O52x F52x ⊢
                obtain ⟨g52x, rfl⟩ := hq52x (fun e => by rw [e] at e52x; simp at e52x)
                have HO52x := kept (show Owns w52x 3 (.slice (some ⟨g52x, 0, none⟩) 65 c52x) (ints .i64 l) from O52x)
                have HB52x : Kept (Below w5.heap.size w5 w52x) := kept (HB51x.out.trans (C52x.below HB51x.out.size (fun b hb h => by have := HG47x.out; simp [Value.ownBlock] at h; omega)))
                have HG52x : Kept (w5.heap.size ≤ g52x) := kept (by have h1 := HG47x.out; have h2 := HB51x.out.size; rcases F52x g52x rfl with h | h; (simp [Value.ownBlock] at h; omega); omega)
                have HZ52x : Kept (Blk w52x g51x #[.int .i64 0] 3) := kept (C52x.keep HZ51x.out (fun h => by have := HN51x.out; simp [Value.ownBlock] at h; omega))
                clear O52x C52x F52x hq52x HNews52x e52x
                go_wp2_with fail
                show T _ _
                rw [← HT.out]
                clear HT T
                unfold wpOrd
                simp only [pick, List.filterMap_cons, List.filterMap_nil, List.getElem?_cons_zero, List.getElem?_cons_succ]
                have HNews53x := kept (show ∀ j u, [Value.int .i64 0][j]? = some u → w52x.cell? ((⟨g51x, 0, none⟩ : Addr).add j) = some u from one_cell HZ52x.out)
                refine wpList_appG rfl _ _ 22 rfl 3 i0 (.int .i64 0) 8 Try.underlying22 hi hz0 hz1 hz2 rfl (.slice (some ⟨g52x, 0, none⟩) 65 c52x) _ rfl HO52x.out ⟨g51x, 0, none⟩ _ _ [.int .i64 0] rfl rfl HNews53x.out ?_ ?_ ?_ ?_
                · intro u hu; simp at hu; subst hu; rfl
                · simp [maxLen, HL65.out]
                · simp [HL65.out]
                intro v53x w53x O53x C53x F53x
                rw [← ints_snoc] at O53x
                obtain ⟨a53x, c53x, rfl, hq53x⟩ := O53x.slice
                rw [HL66.out] at O53x ⊢
                have HB53x : Kept (Below w5.heap.size w5 w53x) := kept (HB52x.out.trans (C53x.below HB52x.out.size (fun b hb h => by have := HG52x.out; simp [Value.ownBlock] at h; omega)))
                have HMq53x := kept (HM66.out a53x c53x w53x (C_of_rd O53x.rd) (own_cap O53x))
                clear O53x C53x F53x hq53x HNews53x
                go_wp2_with fail
                refine HMq53x.out.mono ?_
                rintro e w53y ⟨rfl, hd53y⟩
                have HB53y := kept (HB53x.out.trans (hd53y.below.mono HB53x.out.size))
                clear hd53y
                go_wp2_with fail
                refine (HA.out _).mono ?_
                rintro e w53z ⟨rfl, hb53z⟩
                have HB53z := kept (HB53y.out.trans (hb53z.mono HB53y.out.size))
                clear hb53z
                go_wp2_with fail
                refine hK _ _ ?_
                go_wp2_with fail
                go_ret
                exact ⟨rfl, HB2.out.trans ((HB5.out.trans (HB53z.out.mono HB5.out.size)).mono HB2.out.size)⟩
            · generalize hT : wpOrd _ _ _ K _ = T
              have HT := kept hT
              clear hT
              go_wp2_with fail
              obtain ⟨w54x, hw54x⟩ : ∃ w_, w_ = World.alloc w7 (.cells #[.int .i64 0] 3) := ⟨_, rfl⟩
              obtain ⟨g54x, hg54x⟩ : ∃ g, g = w7.heap.size := ⟨_, rfl⟩
              have HB54x : Kept (Below w5.heap.size w5 w54x) := kept (by rw [hw54x]; exact HB57.out.trans (((Below.refl _ _).alloc (Nat.le_refl _) _).mono HB57.out.size))
              have HG54x : Kept (w5.heap.size ≤ g54x) := kept (by rw [hg54x]; exact HB57.out.size)
              have HZ54x : Kept (Blk w54x g54x #[.int .i64 0] 3) := kept (by rw [hw54x, hg54x]; exact Blk.fresh _ _ _)
              rw [← hw54x, ← hg54x]
              clear hw54x hg54x
              show T _ _
              rw [← HT.out]
              clear HT T
              unfold wpOrd
              simp only [pick, List.filterMap_cons, List.filterMap_nil, List.getElem?_cons_zero, List.getElem?_cons_succ]
              generalize hT : wpOrd _ _ _ K _ = T
              have HT := kept hT
              clear hT
              go_wp2_with fail
              obtain ⟨w55x, hw55x⟩ : ∃ w_, w_ = World.alloc w54x (.cells #[] 3) := ⟨_, rfl⟩
              obtain ⟨g55x, hg55x⟩ : ∃ g, g = w54x.heap.size := ⟨_, rfl⟩
              have HB55x : Kept (Below w5.heap.size w5 w55x) := kept (by rw [hw55x]; exact HB54x.out.trans (((Below.refl _ _).alloc (Nat.le_refl _) _).mono HB54x.out.size))
              have HG55x : Kept (w5.heap.size ≤ g55x) := kept (by rw [hg55x]; exact HB54x.out.size)
              have HE55x : Kept (Owns w55x 3 (.slice (some ⟨g55x, 0, none⟩) 0 0) []) := kept (by rw [hw55x, hg55x]; exact Owns.mk (xs := []) (Blk.fresh _ _ _) (Nat.le_refl _) (by simp [maxLen]) rfl rfl)
              have HN55x : Kept (g54x ≠ g55x) := kept (by rw [hg55x]; have := Blk.lt HZ54x.out; omega)
              have HZ55y : Kept (Blk w55x g54x #[.int .i64 0] 3) := kept (by rw [hw55x]; exact HZ54x.out.alloc _)
              rw [← hw55x, ← hg55x]
              clear hw55x hg55x
              show T _ _
              rw [← HT.out]
              clear HT T
              unfold wpOrd
              simp only [pick, List.filterMap_cons, List.filterMap_nil, List.getElem?_cons_zero, List.getElem?_cons_succ]
              generalize hT : wpOrd _ _ _ K _ = T
              have HT := kept hT
              clear hT
              have HNews56x := kept (show ∀ j u, (ints .i64 l)[j]? = some u → w55x.cell? (x0.add j) = some u from fun j u hu => by obtain ⟨x', hxx, hc⟩ := (HR5.out.later HB55x.out).at hu; cases hxx; exact hc)
              refine wpList_appG rfl _ _ 22 rfl 3 i0 (.int .i64 0) 8 Try.underlying22 hi hz0 hz1 hz2 rfl (.slice (some ⟨g55x, 0, none⟩) 0 0) _ rfl HE55x.out x0 _ _ _ rfl HL0.out HNews56x.out ?_ ?_ ?_ ?_
              · intro u hu; obtain ⟨n, _, rfl⟩ := List.mem_map.1 hu; rfl
              · simp [maxLen]
              · simp
              intro v56x w56x O56x C56x F56x
              obtain ⟨a56x, c56x, rfl, hq56x⟩ := O56x.slice
              have e56x : ([] ++ ints .i64 l : List Value).length = 65 := HL0.out
              rw [e56x] at O56x F56x ⊢
              obtain ⟨g56x, rfl⟩ := hq56x (fun e => by rw [e] at e56x; simp at e56x)
              have HO56x := kept (show Owns w56x 3 (.slice (some ⟨g56x, 0, none⟩) 65 c56x) (ints .i64 l) from O56x)
              have HB56x : Kept (Below w5.heap.size w5 w56x) := kept (HB55x.out.trans (C56x.below HB55x.out.size (fun b hb h => by have := HG55x.out; simp [Value.ownBlock] at h; omega)))
              have HG56x : Kept (w5.heap.size ≤ g56x) := kept (by have h1 := HG55x.out; have h2 := HB55x.out.size; rcases F56x g56x rfl with h | h; (simp [Value.ownBlock] at h; omega); omega)
              have HZ56x : Kept (Blk w56x g54x #[.int .i64 0] 3) := kept (C56x.keep HZ55y.out (fun h => by have := HN55x.out; simp [Value.ownBlock] at h; omega))
              clear O56x C56x F56x hq56x HNews56x e56x
              go_wp2_with fail
              show T _ _
              rw [← HT.out]
              clear HT T
              unfold wpOrd
              simp only [pick, List.filterMap_cons, List.filterMap_nil, List.getElem?_cons_zero, List.getElem?_cons_succ]
              have HNews57x := kept (show ∀ j u, [Value.int .i64 0][j]? = some u → w56x.cell? ((⟨g54x, 0, none⟩ : Addr).add j) = some u from one_cell HZ56x.out)
              refine wpList_appG rfl _ _ 22 rfl 3 i0 (.int .i64 0) 8 Try.underlying22 hi hz0 hz1 hz2 rfl (.slice (some ⟨g56x, 0, none⟩) 65 c56x) _ rfl HO56x.out ⟨g54x, 0, none⟩ _ _ [.int .i64 0] rfl rfl HNews57x.out ?_ ?_ ?_ ?_
              · intro u hu; simp at hu; subst hu; rfl
              · simp [maxLen, HL65.out]
              · simp [HL65.out]
              intro v57x w57x O57x C57x F57x
              rw [← ints_snoc] at O57x
              obtain ⟨a57x, c57x, rfl, hq57x⟩ := O57x.slice
              rw [HL66.out] at O57x ⊢
              have HB57x : Kept (Below w5.heap.size w5 w57x) := kept (HB56x.out.trans (C57x.below HB56x.out.size (fun b hb h => by have := HG56x.out; simp [Value.ownBlock] at h; omega)))
              have HMq57x := kept (HM66.out a57x c57x w57x (C_of_rd O57x.rd) (own_cap O57x))
              clear O57x C57x F57x hq57x HNews57x
              go_wp2_with fail
              refine HMq57x.out.mono ?_
              rintro e w57y ⟨rfl, hd57y⟩
              have HB57y := kept (HB57x.out.trans (hd57y.below.mono HB57x.out.size))
              clear hd57y
              go_wp2_with fail
              refine (HA.out _).mono ?_
              rintro e w57z ⟨rfl, hb57z⟩
              have HB57z := kept (HB57y.out.trans (hb57z.mono HB57y.out.size))
              clear hb57z
              go_wp2_with fail
              refine hK _ _ ?_
              go_wp2_with fail
              go_ret
              exact ⟨rfl, HB2.out.trans ((HB5.out.trans (HB57z.out.mono HB5.out.size)).mono HB2.out.size)⟩
          · generalize hT : wpOrd _ _ _ K _ = T
            have HT := kept hT
            clear hT
            go_wp2_with fail
            obtain ⟨w58x, hw58x⟩ : ∃ w_, w_ = World.alloc w7 (.cells #[.int .i64 0] 3) := ⟨_, rfl⟩
            obtain ⟨g58x, hg58x⟩ : ∃ g, g = w7.heap.size := ⟨_, rfl⟩
            have HB58x : Kept (Below w5.heap.size w5 w58x) := kept (by rw [hw58x]; exact HB57.out.trans (((Below.refl _ _).alloc (Nat.le_refl _) _).mono HB57.out.size))
            have HG58x : Kept (w5.heap.size ≤ g58x) := kept (by rw [hg58x]; exact HB57.out.size)
            have HZ58x : Kept (Blk w58x g58x #[.int .i64 0] 3) := kept (by rw [hw58x, hg58x]; exact Blk.fresh _ _ _)
            rw [← hw58x, ← hg58x]
            clear hw58x hg58x
            show T _ _
            rw [← HT.out]
            clear HT T
            unfold wpOrd
            simp only [pick, List.filterMap_cons, List.filterMap_nil, List.getElem?_cons_zero, List.getElem?_cons_succ]
            refine ⟨?_, ?_⟩
            · generalize hT : wpOrd _ _ _ K _ = T
              have HT := kept hT
              clear hT
              go_wp2_with fail
              obtain ⟨w59x, hw59x⟩ : ∃ w_, w_ = World.alloc w58x (.cells #[] 3) := ⟨_, rfl⟩
              obtain ⟨g59x, hg59x⟩ : ∃ g, g = w58x.heap.size := ⟨_, rfl⟩
              have HB59x : Kept (Below w5.heap.size w5 w59x) := kept (by rw [hw59x]; exact HB58x.out.trans (((Below.refl _ _).alloc (Nat.le_refl _) _).mono HB58x.out.size))
              have HG59x : Kept (w5.heap.size ≤ g59x) := kept (by rw [hg59x]; exact HB58x.out.size)
              have HE59x : Kept (Owns w59x 3 (.slice (some ⟨g59x, 0, none⟩) 0 0) []) := kept (by rw [hw59x, hg59x]; exact Owns.mk (xs := []) (Blk.fresh _ _ _) (Nat.le_refl _) (by simp [maxLen]) rfl rfl)
              have HN59x : Kept (g58x ≠ g59x) := kept (by rw [hg59x]; have := Blk.lt HZ58x.out; omega)
              have HZ59y : Kept (Blk w59x g58x #[.int .i64 0] 3) := kept (by rw [hw59x]; exact HZ58x.out.alloc _)
              rw [← hw59x, ← hg59x]
              clear hw59x hg59x
              show T _ _
              rw [← HT.out]
              clear HT T
              unfold wpOrd
              simp only [pick, List.filterMap_cons, List.filterMap_nil, List.getElem?_cons_zero, List.getElem?_cons_succ]
              generalize hT : wpOrd _ _ _ K _ = T
              have HT := kept hT
              clear hT
              go_wp2_with fail
              show T _ _
              rw [← HT.out]
              clear HT T
              unfold wpOrd
              simp only [pick, List.filterMap_cons, List.filterMap_nil, List.getElem?_cons_zero, List.getElem?_cons_succ]
              generalize hT : wpOrd _ _ _ K _ = T
              have HT := kept hT
              clear hT
              have HNews61x := kept (show ∀ j u, (ints .i64 l)[j]? = some u → w59x.cell? (x0.add j) = some u from fun j u hu => by obtain ⟨x', hxx, hc⟩ := (HR5.out.later HB59x.out).at hu; cases hxx; exact hc)
              refine wpList_appG rfl _ _ 22 rfl 3 i0 (.int .i64 0) 8 Try.underlying22 hi hz0 hz1 hz2 rfl (.slice (some ⟨g59x, 0, none⟩) 0 0) _ rfl HE59x.out x0 _ _ _ rfl HL0.out HNews61x.out ?_ ?_ ?_ ?_
              · intro u hu; obtain ⟨n, _, rfl⟩ := List.mem_map.1 hu; rfl
              · simp [maxLen]
              · simp
              intro v61x w61x O61x C61x F61x
              obtain ⟨a61x, c61x, rfl, hq61x⟩ := O61x.slice
              have e61x : ([] ++ ints .i64 l : List Value).length = 65 := HL0.out
              rw [e61x] at O61x F61x ⊢
              obtain ⟨g61x, rfl⟩ := hq61x (fun e => by rw [e] at e61x; simp at e61x)
              have HO61x := kept (show Owns w61x 3 (.slice (some ⟨g61x, 0, none⟩) 65 c61x) (ints .i64 l) from O61x)
              have HB61x : Kept (Below w5.heap.size w5 w61x) := kept (HB59x.out.trans (C61x.below HB59x.out.size (fun b hb h => by have := HG59x.out; simp [Value.ownBlock] at h; omega)))
              have HG61x : Kept (w5.heap.size ≤ g61x) := kept (by have h1 := HG59x.out; have h2 := HB59x.out.size; rcases F61x g61x rfl with h | h; (simp [Value.ownBlock] at h; omega); omega)
              have HZ61x : Kept (Blk w61x g58x #[.int .i64 0] 3) := kept (C61x.keep HZ59y.out (fun h => by have := HN59x.out; simp [Value.ownBlock] at h; omega))
              clear O61x C61x F61x hq61x HNews61x e61x
              go_wp2_with fail
              show T _ _
              rw [← HT.out]
              clear HT T
              unfold wpOrd
              simp only [pick, List.filterMap_cons, List.filterMap_nil, List.getElem?_cons_zero, List.getElem?_cons_succ]
              have HNews62x := kept (show ∀ j u, [Value.int .i64 0][j]? = some u → w61x.cell? ((⟨g58x, 0, none⟩ : Addr).add j) = some u from one_cell HZ61x.out)
              refine wpList_appG rfl _ _ 22 rfl 3 i0 (.int .i64 0) 8 Try.underlying22 hi hz0 hz1 hz2 rfl (.slice (some ⟨g61x, 0, none⟩) 65 c61x) _ rfl HO61x.out ⟨g58x, 0, none⟩ _ _ [.int .i64 0] rfl rfl HNews62x.out ?_ ?_ ?_ ?_
              · intro u hu; simp at hu; subst hu; rfl
              · simp [maxLen, HL65.out]
              · simp [HL65.out]
              intro v62x w62x O62x C62x F62x
              rw [← ints_snoc] at O62x
              obtain ⟨a62x, c62x, rfl, hq62x⟩ := O62x.slice
              rw [HL66.out] at O62x ⊢
              have HB62x : Kept (Below w5.heap.size w5 w62x) := kept (HB61x.out.trans (C62x.below HB61x.out.size (fun b hb h => by have := HG61x.out; simp [Value.ownBlock] at h; omega)))
              have HMq62x := kept (HM66.out a62x c62x w62x (C_of_rd O62x.rd) (own_cap O62x))
              clear O62x C62x F62x hq62x HNews62x
              go_wp2_with fail
              refine HMq62x.out.mono ?_
              rintro e w62y ⟨rfl, hd62y⟩
              have HB62y := kept (HB62x.out.trans (hd62y.below.mono HB62x.out.size))
              clear hd62y
              go_wp2_with fail
              refine (HA.out _).mono ?_
              rintro e w62z ⟨rfl, hb62z⟩
              have HB62z := kept (HB62y.out.trans (hb62z.mono HB62y.out.size))
              clear hb62z
              go_wp2_with fail
              refine hK _ _ ?_
              go_wp2_with fail
              go_ret
              exact ⟨rfl, HB2.out.trans ((HB5.out.trans (HB62z.out.mono HB5.out.size)).mono HB2.out.size)⟩
            · generalize hT : wpOrd _ _ _ K _ = T
              have HT := kept hT
              clear hT
              go_wp2_with fail
              show T _ _
              rw [← HT.out]
              clear HT T
              unfold wpOrd
              simp only [pick, List.filterMap_cons, List.filterMap_nil, List.getElem?_cons_zero, List.getElem?_cons_succ]
              generalize hT : wpOrd _ _ _ K _ = T
              have HT := kept hT
              clear hT
              go_wp2_with fail
              obtain ⟨w64x, hw64x⟩ : ∃ w_, w_ = World.alloc w58x (.cells #[] 3) := ⟨_, rfl⟩
              obtain ⟨g64x, hg64x⟩ : ∃ g, g = w58x.heap.size := ⟨_, rfl⟩
              have HB64x : Kept (Below w5.heap.size w5 w64x) := kept (by rw [hw64x]; exact HB58x.out.trans (((Below.refl _ _).alloc (Nat.le_refl _) _).mono HB58x.out.size))
              have HG64x : Kept (w5.heap.size ≤ g64x) := kept (by rw [hg64x]; exact HB58x.out.size)
              have HE64x : Kept (Owns w64x 3 (.slice (some ⟨g64x, 0, none⟩) 0 0) []) := kept (by rw [hw64x, hg64x]; exact Owns.mk (xs := []) (Blk.fresh _ _ _) (Nat.le_refl _) (by simp [maxLen]) rfl rfl)
              have HN64x : Kept (g58x ≠ g64x) := kept (by rw [hg64x]; have := Blk.lt HZ58x.out; omega)
              have HZ64y : Kept (Blk w64x g58x #[.int .i64 0] 3) := kept (by rw [hw64x]; exact HZ58x.out.alloc _)
              rw [← hw64x, ← hg64x]
              clear hw64x hg64x
              show T _ _
              rw [← HT.out]
              clear HT T
              unfold wpOrd
              simp only [pick, List.filterMap_cons, List.filterMap_nil, List.getElem?_cons_zero, List.getElem?_cons_succ]
              generalize hT : wpOrd _ _ _ K _ = T
              have HT := kept hT
              clear hT
              have HNews65x := kept (show ∀ j u, (ints .i64 l)[j]? = some u → w64x.cell? (x0.add j) = some u from fun j u hu => by obtain ⟨x', hxx, hc⟩ := (HR5.out.later HB64x.out).at hu; cases hxx; exact hc)
              refine wpList_appG rfl _ _ 22 rfl 3 i0 (.int .i64 0) 8 Try.underlying22 hi hz0 hz1 hz2 rfl (.slice (some ⟨g64x, 0, none⟩) 0 0) _ rfl HE64x.out x0 _ _ _ rfl HL0.out HNews65x.out ?_ ?_ ?_ ?_
              · intro u hu; obtain ⟨n, _, rfl⟩ := List.mem_map.1 hu; rfl
              · simp [maxLen]
              · simp
              intro v65x w65x O65x C65x F65x
              obtain ⟨a65x, c65x, rfl, hq65x⟩ := O65x.slice
              have e65x : ([] ++ ints .i64 l : List Value).length = 65 := HL0.out
              rw [e65x] at O65x F65x ⊢
              obtain ⟨g65x, rfl⟩ := hq65x (fun e => by rw [e] at e65x; simp at e65x)
              have HO65x := kept (show Owns w65x 3 (.slice (some ⟨g65x, 0, none⟩) 65 c65x) (ints .i64 l) from O65x)
              have HB65x : Kept (Below w5.heap.size w5 w65x) := kept (HB64x.out.trans (C65x.below HB64x.out.size (fun b hb h => by have := HG64x.out; simp [Value.ownBlock] at h; omega)))
              have HG65x : Kept (w5.heap.size ≤ g65x) := kept (by have h1 := HG64x.out; have h2 := HB64x.out.size; rcases F65x g65x rfl with h | h; (simp [Value.ownBlock] at h; omega); omega)
              have HZ65x : Kept (Blk w65x g58x #[.int .i64 0] 3) := kept (C65x.keep HZ64y.out (fun h => by have := HN64x.out; simp [Value.ownBlock] at h; omega))
              clear O65x C65x F65x hq65x HNews65x e65x
              go_wp2_with fail
              show T _ _
              rw [← HT.out]
              clear HT T
              unfold wpOrd
              simp only [pick, List.filterMap_cons, List.filterMap_nil, List.getElem?_cons_zero, List.getElem?_cons_succ]
              have HNews66x := kept (show ∀ j u, [Value.int .i64 0][j]? = some u → w65x.cell? ((⟨g58x, 0, none⟩ : Addr).add j) = some u from one_cell HZ65x.out)
              refine wpList_appG rfl _ _ 22 rfl 3 i0 (.int .i64 0) 8 Try.underlying22 hi hz0 hz1 hz2 rfl (.slice (some ⟨g65x, 0, none⟩) 65 c65x) _ rfl HO65x.out ⟨g58x, 0, none⟩ _ _ [.int .i64 0] rfl rfl HNews66x.out ?_ ?_ ?_ ?_
              · intro u hu; simp at hu; subst hu; rfl
              · simp [maxLen, HL65.out]
              · simp [HL65.out]
              intro v66x w66x O66x C66x F66x
              rw [← ints_snoc] at O66x
              obtain ⟨a66x, c66x, rfl, hq66x⟩ := O66x.slice
              rw [HL66.out] at O66x ⊢
              have HB66x : Kept (Below w5.heap.size w5 w66x) := kept (HB65x.out.trans (C66x.below HB65x.out.size (fun b hb h => by have := HG65x.out; simp [Value.ownBlock] at h; omega)))
              have HMq66x := kept (HM66.out a66x c66x w66x (C_of_rd O66x.rd) (own_cap O66x))
              clear O66x C66x F66x hq66x HNews66x
              go_wp2_with fail
              refine HMq66x.out.mono ?_
              rintro e w66y ⟨rfl, hd66y⟩
              have HB66y := kept (HB66x.out.trans (hd66y.below.mono HB66x.out.size))
              clear hd66y
              go_wp2_with fail
              refine (HA.out _).mono ?_
              rintro e w66z ⟨rfl, hb66z⟩
              have HB66z := kept (HB66y.out.trans (hb66z.mono HB66y.out.size))
              clear hb66z
              go_wp2_with fail
              refine hK _ _ ?_
              go_wp2_with fail
              go_ret
              exact ⟨rfl, HB2.out.trans ((HB5.out.trans (HB66z.out.mono HB5.out.size)).mono HB2.out.size)⟩
        -- END b
        · have tf : decide ((cn : Int) ≤ 2) = false := decide_eq_false (by omega)
          have hmf : mayL m = false := by
            have h := may_turned HMAY.out hk65 (v := (v : Int)) ⟨by omega, by omega⟩ (by rw [← HAk.out]; exact hva) (by rw [← HMM.out, ← HCN.out]; omega)
            rw [HMM.out]; exact h
          have hec : ec = 3 := by
            have h := HCD.out
            unfold codesE at h
            rw [if_neg (by rw [hmf]; decide)] at h
            exact (Prod.mk.inj h).2.symm
          subst hec
          obtain ⟨km, hkm⟩ := (PA.may_is m).rounds
          rw [hmf] at hkm
          have HMm := kept (fun wx (hb : Below w5.heap.size w5 wx) => canon_May.calls km (some ⟨g3, 0, none⟩) c3 m false wx (by
            rw [HM65.out]
            exact C_of_rd ((HO4.out.rd.later HB45.out).later hb)) (by rw [HM65.out]; exact HC3.out) hkm)
          rw [HM65.out] at HMm
          clear hmf hkm
        -- CASE c
          refine wp_region_ordL [] [0,1,2,3,4,5,6,7,8,9,10,11,12,13] (.pre [14,15,16,17,18,19,20,21,22,23,24,25,26,27,28] (.fork3 29 (.fork 30 (.fork 31 (.pre [32] (.chain [33,34,35,36,37,38,39,40])) 32 (.pre [31] (.chain [33,34,35,36,37,38,39,40]))) 32 (.pre [30] (.pre [31] (.chain [33,34,35,36,37,38,39,40])))) 30 (.fork 29 (.fork 31 (.pre [32] (.chain [33,34,35,36,37,38,39,40])) 32 (.pre [31] (.chain [33,34,35,36,37,38,39,40]))) 32 (.pre [29] (.pre [31] (.chain [33,34,35,36,37,38,39,40])))) 32 (.fork 29 (.pre [30] (.pre [31] (.chain [33,34,35,36,37,38,39,40]))) 30 (.pre [29] (.pre [31] (.chain [33,34,35,36,37,38,39,40])))))) (by kernel_rfl) (by kernel_rfl) ?_
          intro K hK
          have hmk2 := lat_cell hmk
          have hlk2 := lat_cell hlk
          simp only [pick, List.filterMap_cons, List.filterMap_nil, List.getElem?_cons_zero, List.getElem?_cons_succ]
          iterate 14 (show wpQuiet _ _ _ _ (_ :: _) _; go_big_quiet_step (fail))
          refine wpQuiet_nil ?_
          clear hmk2 hlk2
          have hwd : Below w5.heap.size w5 w5.drew := (Below.refl _ _).drew
          generalize w5.drew = w6 at hwd ⊢
          have HB56 := kept hwd
          clear hwd
          unfold wpOrd
          simp only [pick, List.filterMap_cons, List.filterMap_nil, List.getElem?_cons_zero, List.getElem?_cons_succ]
          generalize hT : wpOrd _ _ _ K (Ord.fork3 _ _ _ _ _ _) = T
          have HT := kept hT
          clear hT
          show wpList _ _ _ [_,_,_,_,_,_,_,_,_,_,_,_,_,_,_] _ _
          go_wp2_with fail
          refine ((HMm.out _ HB56.out).mono ?_)
          rintro e w6a ⟨rfl, hd6⟩
          have HB56a := kept (HB56.out.trans (hd6.below.mono HB56.out.size))
          clear hd6
          go_wp2_with fail
          refine ((HE.out _ _).mono ?_)
          rintro e w6b ⟨rfl, hd6b⟩
          have HB56b := kept (HB56a.out.trans (hd6b.below.mono HB56a.out.size))
          clear hd6b
          repeat go_big_skip
          go_wp2_with fail
          refine ((HM64.out _ HB56b.out).mono ?_)
          rintro e w7 ⟨rfl, hd7⟩
          have HB57 := kept (HB56b.out.trans (hd7.below.mono HB56b.out.size))
          clear hd7
          go_wp2_with fail
          show T _ _
          rw [← HT.out]
          clear HT T
          unfold wpOrd
          simp only [pick, List.filterMap_cons, List.filterMap_nil, List.getElem?_cons_zero, List.getElem?_cons_succ]
          refine ⟨?_, ?_, ?_⟩
          · generalize hT : wpOrd _ _ _ K _ = T
            have HT := kept hT
            clear hT
            go_wp2_with fail
            obtain ⟨w67x, hw67x⟩ : ∃ w_, w_ = World.alloc w7 (.cells #[] 3) := ⟨_, rfl⟩
            obtain ⟨g67x, hg67x⟩ : ∃ g, g = w7.heap.size := ⟨_, rfl⟩
            have HB67x : Kept (Below w5.heap.size w5 w67x) := kept (by rw [hw67x]; exact HB57.out.trans (((Below.refl _ _).alloc (Nat.le_refl _) _).mono HB57.out.size))
            have HG67x : Kept (w5.heap.size ≤ g67x) := kept (by rw [hg67x]; exact HB57.out.size)
            have HE67x : Kept (Owns w67x 3 (.slice (some ⟨g67x, 0, none⟩) 0 0) []) := kept (by rw [hw67x, hg67x]; exact Owns.mk (xs := []) (Blk.fresh _ _ _) (Nat.le_refl _) (by simp [maxLen]) rfl rfl)
            rw [← hw67x, ← hg67x]
            clear hw67x hg67x
            show T _ _
            rw [← HT.out]
            clear HT T
            unfold wpOrd
            simp only [pick, List.filterMap_cons, List.filterMap_nil, List.getElem?_cons_zero, List.getElem?_cons_succ]
            refine ⟨?_, ?_⟩
            · generalize hT : wpOrd _ _ _ K _ = T
              have HT := kept hT
              clear hT
              go_wp2_with fail
              show T _ _
              rw [← HT.out]
              clear HT T
              unfold wpOrd
              simp only [pick, List.filterMap_cons, List.filterMap_nil, List.getElem?_cons_zero, List.getElem?_cons_succ]
              refine ⟨?_, ?_⟩
              · generalize hT : wpOrd _ _ _ K _ = T
                have HT := kept hT
                clear hT
                have HNews69x := kept (show ∀ j u, (ints .i64 l)[j]? = some u → w67x.cell? (x0.add j) = some u from fun j u hu => by obtain ⟨x', hxx, hc⟩ := (HR5.out.later HB67x.out).at hu; cases hxx; exact hc)
                refine wpList_appG rfl _ _ 22 rfl 3 i0 (.int .i64 0) 8 Try.underlying22 hi hz0 hz1 hz2 rfl (.slice (some ⟨g67x, 0, none⟩) 0 0) _ rfl HE67x.out x0 _ _ _ rfl HL0.out HNews69x.out ?_ ?_ ?_ ?_
                · intro u hu; obtain ⟨n, _, rfl⟩ := List.mem_map.1 hu; rfl
                · simp [maxLen]
                · simp
                intro v69x w69x O69x C69x F69x
                obtain ⟨a69x, c69x, rfl, hq69x⟩ := O69x.slice
                have e69x : ([] ++ ints .i64 l : List Value).length = 65 := HL0.out
                rw [e69x] at O69x F69x ⊢
                obtain ⟨g69x, rfl⟩ := hq69x (fun e => by rw [e] at e69x; simp at e69x)
                have HO69x := kept (show Owns w69x 3 (.slice (some ⟨g69x, 0, none⟩) 65 c69x) (ints .i64 l) from O69x)
                have HB69x : Kept (Below w5.heap.size w5 w69x) := kept (HB67x.out.trans (C69x.below HB67x.out.size (fun b hb h => by have := HG67x.out; simp [Value.ownBlock] at h; omega)))
                have HG69x : Kept (w5.heap.size ≤ g69x) := kept (by have h1 := HG67x.out; have h2 := HB67x.out.size; rcases F69x g69x rfl with h | h; (simp [Value.ownBlock] at h; omega); omega)
                clear O69x C69x F69x hq69x HNews69x e69x
                go_wp2_with fail
                show T _ _
                rw [← HT.out]
                clear HT T
                unfold wpOrd
                simp only [pick, List.filterMap_cons, List.filterMap_nil, List.getElem?_cons_zero, List.getElem?_cons_succ]
                generalize hT : wpOrd _ _ _ K _ = T
                have HT := kept hT
                clear hT
                go_wp2_with fail
                obtain ⟨w70x, hw70x⟩ : ∃ w_, w_ = World.alloc w69x (.cells #[.int .i64 0] 3) := ⟨_, rfl⟩
                obtain ⟨g70x, hg70x⟩ : ∃ g, g = w69x.heap.size := ⟨_, rfl⟩
                have HB70x : Kept (Below w5.heap.size w5 w70x) := kept (by rw [hw70x]; exact HB69x.out.trans (((Below.refl _ _).alloc (Nat.le_refl _) _).mono HB69x.out.size))
                have HG70x : Kept (w5.heap.size ≤ g70x) := kept (by rw [hg70x]; exact HB69x.out.size)
                have HZ70x : Kept (Blk w70x g70x #[.int .i64 0] 3) := kept (by rw [hw70x, hg70x]; exact Blk.fresh _ _ _)
                have HO70y : Kept (Owns w70x 3 (.slice (some ⟨g69x, 0, none⟩) 65 c69x) (ints .i64 l)) := kept (by rw [hw70x]; exact HO69x.out.alloc _)
                rw [← hw70x, ← hg70x]
                clear hw70x hg70x
                show T _ _
                rw [← HT.out]
                clear HT T
                unfold wpOrd
                simp only [pick, List.filterMap_cons, List.filterMap_nil, List.getElem?_cons_zero, List.getElem?_cons_succ]
                have HNews71x := kept (show ∀ j u, [Value.int .i64 0][j]? = some u → w70x.cell? ((⟨g70x, 0, none⟩ : Addr).add j) = some u from one_cell HZ70x.out)
                refine wpList_appG rfl _ _ 22 rfl 3 i0 (.int .i64 0) 8 Try.underlying22 hi hz0 hz1 hz2 rfl (.slice (some ⟨g69x, 0, none⟩) 65 c69x) _ rfl HO70y.out ⟨g70x, 0, none⟩ _ _ [.int .i64 0] rfl rfl HNews71x.out ?_ ?_ ?_ ?_
                · intro u hu; simp at hu; subst hu; rfl
                · simp [maxLen, HL65.out]
                · simp [HL65.out]
                intro v71x w71x O71x C71x F71x
                rw [← ints_snoc] at O71x
                obtain ⟨a71x, c71x, rfl, hq71x⟩ := O71x.slice
                rw [HL66.out] at O71x ⊢
                have HB71x : Kept (Below w5.heap.size w5 w71x) := kept (HB70x.out.trans (C71x.below HB70x.out.size (fun b hb h => by have := HG69x.out; simp [Value.ownBlock] at h; omega)))
                have HMq71x := kept (HM66.out a71x c71x w71x (C_of_rd O71x.rd) (own_cap O71x))
                clear O71x C71x F71x hq71x HNews71x
                go_wp2_with fail
                refine HMq71x.out.mono ?_
                rintro e w71y ⟨rfl, hd71y⟩
                have HB71y := kept (HB71x.out.trans (hd71y.below.mono HB71x.out.size))
                clear hd71y
                go_wp2_with fail
                refine (HA.out _).mono ?_
                rintro e w71z ⟨rfl, hb71z⟩
                have HB71z := kept (HB71y.out.trans (hb71z.mono HB71y.out.size))
                clear hb71z
                go_wp2_with fail
                refine hK _ _ ?_
                go_wp2_with fail
                go_ret
                exact ⟨rfl, HB2.out.trans ((HB5.out.trans (HB71z.out.mono HB5.out.size)).mono HB2.out.size)⟩
              · generalize hT : wpOrd _ _ _ K _ = T
                have HT := kept hT
                clear hT
                go_wp2_with fail
                obtain ⟨w72x, hw72x⟩ : ∃ w_, w_ = World.alloc w67x (.cells #[.int .i64 0] 3) := ⟨_, rfl⟩
                obtain ⟨g72x, hg72x⟩ : ∃ g, g = w67x.heap.size := ⟨_, rfl⟩
                have HB72x : Kept (Below w5.heap.size w5 w72x) := kept (by rw [hw72x]; exact HB67x.out.trans (((Below.refl _ _).alloc (Nat.le_refl _) _).mono HB67x.out.size))
                have HG72x : Kept (w5.heap.size ≤ g72x) := kept (by rw [hg72x]; exact HB67x.out.size)
                have HZ72x : Kept (Blk w72x g72x #[.int .i64 0] 3) := kept (by rw [hw72x, hg72x]; exact Blk.fresh _ _ _)
                have HN72x : Kept (g72x ≠ g67x) := kept (by rw [hg72x]; have := HE67x.out.lt g67x rfl; omega)
                have HE72y : Kept (Owns w72x 3 (.slice (some ⟨g67x, 0, none⟩) 0 0) []) := kept (by rw [hw72x]; exact HE67x.out.alloc _)
                rw [← hw72x, ← hg72x]
                clear hw72x hg72x
                show T _ _
                rw [← HT.out]
                clear HT T
                unfold wpOrd
                simp only [pick, List.filterMap_cons, List.filterMap_nil, List.getElem?_cons_zero, List.getElem?_cons_succ]
                generalize hT : wpOrd _ _ _ K _ = T
                have HT := kept hT
                clear hT
                have HNews73x := kept (show ∀ j u, (ints .i64 l)[j]? = some u → w72x.cell? (x0.add j) = some u from fun j u hu => by obtain ⟨x', hxx, hc⟩ := (HR5.out.later HB72x.out).at hu; cases hxx; exact hc)
                refine wpList_appG rfl _ _ 22 rfl 3 i0 (.int .i64 0) 8 Try.underlying22 hi hz0 hz1 hz2 rfl (.slice (some ⟨g67x, 0, none⟩) 0 0) _ rfl HE72y.out x0 _ _ _ rfl HL0.out HNews73x.out ?_ ?_ ?_ ?_
                · intro u hu; obtain ⟨n, _, rfl⟩ := List.mem_map.1 hu; rfl
                · simp [maxLen]
                · simp
                intro v73x w73x O73x C73x F73x
                obtain ⟨a73x, c73x, rfl, hq73x⟩ := O73x.slice
                have e73x : ([] ++ ints .i64 l : List Value).length = 65 := HL0.out
                rw [e73x] at O73x F73x ⊢
                obtain ⟨g73x, rfl⟩ := hq73x (fun e => by rw [e] at e73x; simp at e73x)
                have HO73x := kept (show Owns w73x 3 (.slice (some ⟨g73x, 0, none⟩) 65 c73x) (ints .i64 l) from O73x)
                have HB73x : Kept (Below w5.heap.size w5 w73x) := kept (HB72x.out.trans (C73x.below HB72x.out.size (fun b hb h => by have := HG67x.out; simp [Value.ownBlock] at h; omega)))
                have HG73x : Kept (w5.heap.size ≤ g73x) := kept (by have h1 := HG67x.out; have h2 := HB72x.out.size; rcases F73x g73x rfl with h | h; (simp [Value.ownBlock] at h; omega); omega)
                have HZ73x : Kept (Blk w73x g72x #[.int .i64 0] 3) := kept (C73x.keep HZ72x.out (fun h => by have := HN72x.out; simp [Value.ownBlock] at h; omega))
                clear O73x C73x F73x hq73x HNews73x e73x
                go_wp2_with fail
                show T _ _
                rw [← HT.out]
                clear HT T
                unfold wpOrd
                simp only [pick, List.filterMap_cons, List.filterMap_nil, List.getElem?_cons_zero, List.getElem?_cons_succ]
                have HNews74x := kept (show ∀ j u, [Value.int .i64 0][j]? = some u → w73x.cell? ((⟨g72x, 0, none⟩ : Addr).add j) = some u from one_cell HZ73x.out)
                refine wpList_appG rfl _ _ 22 rfl 3 i0 (.int .i64 0) 8 Try.underlying22 hi hz0 hz1 hz2 rfl (.slice (some ⟨g73x, 0, none⟩) 65 c73x) _ rfl HO73x.out ⟨g72x, 0, none⟩ _ _ [.int .i64 0] rfl rfl HNews74x.out ?_ ?_ ?_ ?_
                · intro u hu; simp at hu; subst hu; rfl
                · simp [maxLen, HL65.out]
                · simp [HL65.out]
                intro v74x w74x O74x C74x F74x
                rw [← ints_snoc] at O74x
                obtain ⟨a74x, c74x, rfl, hq74x⟩ := O74x.slice
                rw [HL66.out] at O74x ⊢
                have HB74x : Kept (Below w5.heap.size w5 w74x) := kept (HB73x.out.trans (C74x.below HB73x.out.size (fun b hb h => by have := HG73x.out; simp [Value.ownBlock] at h; omega)))
                have HMq74x := kept (HM66.out a74x c74x w74x (C_of_rd O74x.rd) (own_cap O74x))
                clear O74x C74x F74x hq74x HNews74x
                go_wp2_with fail
                refine HMq74x.out.mono ?_
                rintro e w74y ⟨rfl, hd74y⟩
                have HB74y := kept (HB74x.out.trans (hd74y.below.mono HB74x.out.size))
                clear hd74y
                go_wp2_with fail
                refine (HA.out _).mono ?_
                rintro e w74z ⟨rfl, hb74z⟩
                have HB74z := kept (HB74y.out.trans (hb74z.mono HB74y.out.size))
                clear hb74z
                go_wp2_with fail
                refine hK _ _ ?_
                go_wp2_with fail
                go_ret
                exact ⟨rfl, HB2.out.trans ((HB5.out.trans (HB74z.out.mono HB5.out.size)).mono HB2.out.size)⟩
            · generalize hT : wpOrd _ _ _ K _ = T
              have HT := kept hT
              clear hT
              go_wp2_with fail
              obtain ⟨w75x, hw75x⟩ : ∃ w_, w_ = World.alloc w67x (.cells #[.int .i64 0] 3) := ⟨_, rfl⟩
              obtain ⟨g75x, hg75x⟩ : ∃ g, g = w67x.heap.size := ⟨_, rfl⟩
              have HB75x : Kept (Below w5.heap.size w5 w75x) := kept (by rw [hw75x]; exact HB67x.out.trans (((Below.refl _ _).alloc (Nat.le_refl _) _).mono HB67x.out.size))
              have HG75x : Kept (w5.heap.size ≤ g75x) := kept (by rw [hg75x]; exact HB67x.out.size)
              have HZ75x : Kept (Blk w75x g75x #[.int .i64 0] 3) := kept (by rw [hw75x, hg75x]; exact Blk.fresh _ _ _)
              have HN75x : Kept (g75x ≠ g67x) := kept (by rw [hg75x]; have := HE67x.out.lt g67x rfl; omega)
              have HE75y : Kept (Owns w75x 3 (.slice (some ⟨g67x, 0, none⟩) 0 0) []) := kept (by rw [hw75x]; exact HE67x.out.alloc _)
              rw [← hw75x, ← hg75x]
              clear hw75x hg75x
              show T _ _
              rw [← HT.out]
              clear HT T
              unfold wpOrd
              simp only [pick, List.filterMap_cons, List.filterMap_nil, List.getElem?_cons_zero, List.getElem?_cons_succ]
              generalize hT : wpOrd _ _ _ K _ = T
              have HT := kept hT
              clear hT
              go_wp2_with fail
              show T _ _
              rw [← HT.out]
              clear HT T
              unfold wpOrd
              simp only [pick, List.filterMap_cons, List.filterMap_nil, List.getElem?_cons_zero, List.getElem?_cons_succ]
              generalize hT : wpOrd _ _ _ K _ = T
              have HT := kept hT
              clear hT
              have HNews77x := kept (show ∀ j u, (ints .i64 l)[j]? = some u → w75x.cell? (x0.add j) = some u from fun j u hu => by obtain ⟨x', hxx, hc⟩ := (HR5.out.later HB75x.out).at hu; cases hxx; exact hc)
              refine wpList_appG rfl _ _ 22 rfl 3 i0 (.int .i64 0) 8 Try.underlying22 hi hz0 hz1 hz2 rfl (.slice (some ⟨g67x, 0, none⟩) 0 0) _ rfl HE75y.out x0 _ _ _ rfl HL0.out HNews77x.out ?_ ?_ ?_ ?_
              · intro u hu; obtain ⟨n, _, rfl⟩ := List.mem_map.1 hu; rfl
              · simp [maxLen]
              · simp
              intro v77x w77x O77x C77x F77x
              obtain ⟨a77x, c77x, rfl, hq77x⟩ := O77x.slice
              have e77x : ([] ++ ints .i64 l : List Value).length = 65 := HL0.out
              rw [e77x] at O77x F77x ⊢
              obtain ⟨g77x, rfl⟩ := hq77x (fun e => by rw [e] at e77x; simp at e77x)
              have HO77x := kept (show Owns w77x 3 (.slice (some ⟨g77x, 0, none⟩) 65 c77x) (ints .i64 l) from O77x)
              have HB77x : Kept (Below w5.heap.size w5 w77x) := kept (HB75x.out.trans (C77x.below HB75x.out.size (fun b hb h => by have := HG67x.out; simp [Value.ownBlock] at h; omega)))
              have HG77x : Kept (w5.heap.size ≤ g77x) := kept (by have h1 := HG67x.out; have h2 := HB75x.out.size; rcases F77x g77x rfl with h | h; (simp [Value.ownBlock] at h; omega); omega)
              have HZ77x : Kept (Blk w77x g75x #[.int .i64 0] 3) := kept (C77x.keep HZ75x.out (fun h => by have := HN75x.out; simp [Value.ownBlock] at h; omega))
              clear O77x C77x F77x hq77x HNews77x e77x
              go_wp2_with fail
              show T _ _
              rw [← HT.out]
              clear HT T
              unfold wpOrd
              simp only [pick, List.filterMap_cons, List.filterMap_nil, List.getElem?_cons_zero, List.getElem?_cons_succ]
              have HNews78x := kept (show ∀ j u, [Value.int .i64 0][j]? = some u → w77x.cell? ((⟨g75x, 0, none⟩ : Addr).add j) = some u from one_cell HZ77x.out)
              refine wpList_appG rfl _ _ 22 rfl 3 i0 (.int .i64 0) 8 Try.underlying22 hi hz0 hz1 hz2 rfl (.slice (some ⟨g77x, 0, none⟩) 65 c77x) _ rfl HO77x.out ⟨g75x, 0, none⟩ _ _ [.int .i64 0] rfl rfl HNews78x.out ?_ ?_ ?_ ?_
              · intro u hu; simp at hu; subst hu; rfl
              · simp [maxLen, HL65.out]
              · simp [HL65.out]
              intro v78x w78x O78x C78x F78x
              rw [← ints_snoc] at O78x
              obtain ⟨a78x, c78x, rfl, hq78x⟩ := O78x.slice
              rw [HL66.out] at O78x ⊢
              have HB78x : Kept (Below w5.heap.size w5 w78x) := kept (HB77x.out.trans (C78x.below HB77x.out.size (fun b hb h => by have := HG77x.out; simp [Value.ownBlock] at h; omega)))
              have HMq78x := kept (HM66.out a78x c78x w78x (C_of_rd O78x.rd) (own_cap O78x))
              clear O78x C78x F78x hq78x HNews78x
              go_wp2_with fail
              refine HMq78x.out.mono ?_
              rintro e w78y ⟨rfl, hd78y⟩
              have HB78y := kept (HB78x.out.trans (hd78y.below.mono HB78x.out.size))
              clear hd78y
              go_wp2_with fail
              refine (HA.out _).mono ?_
              rintro e w78z ⟨rfl, hb78z⟩
              have HB78z := kept (HB78y.out.trans (hb78z.mono HB78y.out.size))
              clear hb78z
              go_wp2_with fail
              refine hK _ _ ?_
              go_wp2_with fail
              go_ret
              exact ⟨rfl, HB2.out.trans ((HB5.out.trans (HB78z.out.mono HB5.out.size)).mono HB2.out.size)⟩
          · generalize hT : wpOrd _ _ _ K _ = T
            have HT := kept hT
            clear hT
            go_wp2_with fail
            show T _ _
            rw [← HT.out]
            clear HT T
            unfold wpOrd
            simp only [pick, List.filterMap_cons, List.filterMap_nil, List.getElem?_cons_zero, List.getElem?_cons_succ]
            refine ⟨?_, ?_⟩
            · generalize hT : wpOrd _ _ _ K _ = T
              have HT := kept hT
              clear hT
              go_wp2_with fail
              obtain ⟨w80x, hw80x⟩ : ∃ w_, w_ = World.alloc w7 (.cells #[] 3) := ⟨_, rfl⟩
              obtain ⟨g80x, hg80x⟩ : ∃ g, g = w7.heap.size := ⟨_, rfl⟩
              have HB80x : Kept (Below w5.heap.size w5 w80x) := kept (by rw [hw80x]; exact HB57.out.trans (((Below.refl _ _).alloc (Nat.le_refl _) _).mono HB57.out.size))
              have HG80x : Kept (w5.heap.size ≤ g80x) := kept (by rw [hg80x]; exact HB57.out.size)
              have HE80x : Kept (Owns w80x 3 (.slice (some ⟨g80x, 0, none⟩) 0 0) []) := kept (by rw [hw80x, hg80x]; exact Owns.mk (xs := []) (Blk.fresh _ _ _) (Nat.le_refl _) (by simp [maxLen]) rfl rfl)
              rw [← hw80x, ← hg80x]
              clear hw80x hg80x
              show T _ _
              rw [← HT.out]
              clear HT T
              unfold wpOrd
              simp only [pick, List.filterMap_cons, List.filterMap_nil, List.getElem?_cons_zero, List.getElem?_cons_succ]
              refine ⟨?_, ?_⟩
              · generalize hT : wpOrd _ _ _ K _ = T
                have HT := kept hT
                clear hT
                have HNews81x := kept (show ∀ j u, (ints .i64 l)[j]? = some u → w80x.cell? (x0.add j) = some u from fun j u hu => by obtain ⟨x', hxx, hc⟩ := (HR5.out.later HB80x.out).at hu; cases hxx; exact hc)
                refine wpList_appG rfl _ _ 22 rfl 3 i0 (.int .i64 0) 8 Try.underlying22 hi hz0 hz1 hz2 rfl (.slice (some ⟨g80x, 0, none⟩) 0 0) _ rfl HE80x.out x0 _ _ _ rfl HL0.out HNews81x.out ?_ ?_ ?_ ?_
                · intro u hu; obtain ⟨n, _, rfl⟩ := List.mem_map.1 hu; rfl
                · simp [maxLen]
                · simp
                intro v81x w81x O81x C81x F81x
                obtain ⟨a81x, c81x, rfl, hq81x⟩ := O81x.slice
                have e81x : ([] ++ ints .i64 l : List Value).length = 65 := HL0.out
                rw [e81x] at O81x F81x ⊢
                obtain ⟨g81x, rfl⟩ := hq81x (fun e => by rw [e] at e81x; simp at e81x)
                have HO81x := kept (show Owns w81x 3 (.slice (some ⟨g81x, 0, none⟩) 65 c81x) (ints .i64 l) from O81x)
                have HB81x : Kept (Below w5.heap.size w5 w81x) := kept (HB80x.out.trans (C81x.below HB80x.out.size (fun b hb h => by have := HG80x.out; simp [Value.ownBlock] at h; omega)))
                have HG81x : Kept (w5.heap.size ≤ g81x) := kept (by have h1 := HG80x.out; have h2 := HB80x.out.size; rcases F81x g81x rfl with h | h; (simp [Value.ownBlock] at h; omega); omega)
                clear O81x C81x F81x hq81x HNews81x e81x
                go_wp2_with fail
                show T _ _
                rw [← HT.out]
                clear HT T
                unfold wpOrd
                simp only [pick, List.filterMap_cons, List.filterMap_nil, List.getElem?_cons_zero, List.getElem?_cons_succ]
                generalize hT : wpOrd _ _ _ K _ = T
                have HT := kept hT
                clear hT
                go_wp2_with fail
                obtain ⟨w82x, hw82x⟩ : ∃ w_, w_ = World.alloc w81x (.cells #[.int .i64 0] 3) := ⟨_, rfl⟩
                obtain ⟨g82x, hg82x⟩ : ∃ g, g = w81x.heap.size := ⟨_, rfl⟩
                have HB82x : Kept (Below w5.heap.size w5 w82x) := kept (by rw [hw82x]; exact HB81x.out.trans (((Below.refl _ _).alloc (Nat.le_refl _) _).mono HB81x.out.size))
                have HG82x : Kept (w5.heap.size ≤ g82x) := kept (by rw [hg82x]; exact HB81x.out.size)
                have HZ82x : Kept (Blk w82x g82x #[.int .i64 0] 3) := kept (by rw [hw82x, hg82x]; exact Blk.fresh _ _ _)
                have HO82y : Kept (Owns w82x 3 (.slice (some ⟨g81x, 0, none⟩) 65 c81x) (ints .i64 l)) := kept (by rw [hw82x]; exact HO81x.out.alloc _)
                rw [← hw82x, ← hg82x]
                clear hw82x hg82x
                show T _ _
                rw [← HT.out]
                clear HT T
                unfold wpOrd
                simp only [pick, List.filterMap_cons, List.filterMap_nil, List.getElem?_cons_zero, List.getElem?_cons_succ]
                have HNews83x := kept (show ∀ j u, [Value.int .i64 0][j]? = some u → w82x.cell? ((⟨g82x, 0, none⟩ : Addr).add j) = some u from one_cell HZ82x.out)
                refine wpList_appG rfl _ _ 22 rfl 3 i0 (.int .i64 0) 8 Try.underlying22 hi hz0 hz1 hz2 rfl (.slice (some ⟨g81x, 0, none⟩) 65 c81x) _ rfl HO82y.out ⟨g82x, 0, none⟩ _ _ [.int .i64 0] rfl rfl HNews83x.out ?_ ?_ ?_ ?_
                · intro u hu; simp at hu; subst hu; rfl
                · simp [maxLen, HL65.out]
                · simp [HL65.out]
                intro v83x w83x O83x C83x F83x
                rw [← ints_snoc] at O83x
                obtain ⟨a83x, c83x, rfl, hq83x⟩ := O83x.slice
                rw [HL66.out] at O83x ⊢
                have HB83x : Kept (Below w5.heap.size w5 w83x) := kept (HB82x.out.trans (C83x.below HB82x.out.size (fun b hb h => by have := HG81x.out; simp [Value.ownBlock] at h; omega)))
                have HMq83x := kept (HM66.out a83x c83x w83x (C_of_rd O83x.rd) (own_cap O83x))
                clear O83x C83x F83x hq83x HNews83x
                go_wp2_with fail
                refine HMq83x.out.mono ?_
                rintro e w83y ⟨rfl, hd83y⟩
                have HB83y := kept (HB83x.out.trans (hd83y.below.mono HB83x.out.size))
                clear hd83y
                go_wp2_with fail
                refine (HA.out _).mono ?_
                rintro e w83z ⟨rfl, hb83z⟩
                have HB83z := kept (HB83y.out.trans (hb83z.mono HB83y.out.size))
                clear hb83z
                go_wp2_with fail
                refine hK _ _ ?_
                go_wp2_with fail
                go_ret
                exact ⟨rfl, HB2.out.trans ((HB5.out.trans (HB83z.out.mono HB5.out.size)).mono HB2.out.size)⟩
              · generalize hT : wpOrd _ _ _ K _ = T
                have HT := kept hT
                clear hT
                go_wp2_with fail
                obtain ⟨w84x, hw84x⟩ : ∃ w_, w_ = World.alloc w80x (.cells #[.int .i64 0] 3) := ⟨_, rfl⟩
                obtain ⟨g84x, hg84x⟩ : ∃ g, g = w80x.heap.size := ⟨_, rfl⟩
                have HB84x : Kept (Below w5.heap.size w5 w84x) := kept (by rw [hw84x]; exact HB80x.out.trans (((Below.refl _ _).alloc (Nat.le_refl _) _).mono HB80x.out.size))
                have HG84x : Kept (w5.heap.size ≤ g84x) := kept (by rw [hg84x]; exact HB80x.out.size)
                have HZ84x : Kept (Blk w84x g84x #[.int .i64 0] 3) := kept (by rw [hw84x, hg84x]; exact Blk.fresh _ _ _)
                have HN84x : Kept (g84x ≠ g80x) := kept (by rw [hg84x]; have := HE80x.out.lt g80x rfl; omega)
                have HE84y : Kept (Owns w84x 3 (.slice (some ⟨g80x, 0, none⟩) 0 0) []) := kept (by rw [hw84x]; exact HE80x.out.alloc _)
                rw [← hw84x, ← hg84x]
                clear hw84x hg84x
                show T _ _
                rw [← HT.out]
                clear HT T
                unfold wpOrd
                simp only [pick, List.filterMap_cons, List.filterMap_nil, List.getElem?_cons_zero, List.getElem?_cons_succ]
                generalize hT : wpOrd _ _ _ K _ = T
                have HT := kept hT
                clear hT
                have HNews85x := kept (show ∀ j u, (ints .i64 l)[j]? = some u → w84x.cell? (x0.add j) = some u from fun j u hu => by obtain ⟨x', hxx, hc⟩ := (HR5.out.later HB84x.out).at hu; cases hxx; exact hc)
                refine wpList_appG rfl _ _ 22 rfl 3 i0 (.int .i64 0) 8 Try.underlying22 hi hz0 hz1 hz2 rfl (.slice (some ⟨g80x, 0, none⟩) 0 0) _ rfl HE84y.out x0 _ _ _ rfl HL0.out HNews85x.out ?_ ?_ ?_ ?_
                · intro u hu; obtain ⟨n, _, rfl⟩ := List.mem_map.1 hu; rfl
                · simp [maxLen]
                · simp
                intro v85x w85x O85x C85x F85x
                obtain ⟨a85x, c85x, rfl, hq85x⟩ := O85x.slice
                have e85x : ([] ++ ints .i64 l : List Value).length = 65 := HL0.out
                rw [e85x] at O85x F85x ⊢
                obtain ⟨g85x, rfl⟩ := hq85x (fun e => by rw [e] at e85x; simp at e85x)
                have HO85x := kept (show Owns w85x 3 (.slice (some ⟨g85x, 0, none⟩) 65 c85x) (ints .i64 l) from O85x)
                have HB85x : Kept (Below w5.heap.size w5 w85x) := kept (HB84x.out.trans (C85x.below HB84x.out.size (fun b hb h => by have := HG80x.out; simp [Value.ownBlock] at h; omega)))
                have HG85x : Kept (w5.heap.size ≤ g85x) := kept (by have h1 := HG80x.out; have h2 := HB84x.out.size; rcases F85x g85x rfl with h | h; (simp [Value.ownBlock] at h; omega); omega)
                have HZ85x : Kept (Blk w85x g84x #[.int .i64 0] 3) := kept (C85x.keep HZ84x.out (fun h => by have := HN84x.out; simp [Value.ownBlock] at h; omega))
                clear O85x C85x F85x hq85x HNews85x e85x
                go_wp2_with fail
                show T _ _
                rw [← HT.out]
                clear HT T
                unfold wpOrd
                simp only [pick, List.filterMap_cons, List.filterMap_nil, List.getElem?_cons_zero, List.getElem?_cons_succ]
                have HNews86x := kept (show ∀ j u, [Value.int .i64 0][j]? = some u → w85x.cell? ((⟨g84x, 0, none⟩ : Addr).add j) = some u from one_cell HZ85x.out)
                refine wpList_appG rfl _ _ 22 rfl 3 i0 (.int .i64 0) 8 Try.underlying22 hi hz0 hz1 hz2 rfl (.slice (some ⟨g85x, 0, none⟩) 65 c85x) _ rfl HO85x.out ⟨g84x, 0, none⟩ _ _ [.int .i64 0] rfl rfl HNews86x.out ?_ ?_ ?_ ?_
                · intro u hu; simp at hu; subst hu; rfl
                · simp [maxLen, HL65.out]
                · simp [HL65.out]
                intro v86x w86x O86x C86x F86x
                rw [← ints_snoc] at O86x
                obtain ⟨a86x, c86x, rfl, hq86x⟩ := O86x.slice
                rw [HL66.out] at O86x ⊢
                have HB86x : Kept (Below w5.heap.size w5 w86x) := kept (HB85x.out.trans (C86x.below HB85x.out.size (fun b hb h => by have := HG85x.out; simp [Value.ownBlock] at h; omega)))
                have HMq86x := kept (HM66.out a86x c86x w86x (C_of_rd O86x.rd) (own_cap O86x))
                clear O86x C86x F86x hq86x HNews86x
                go_wp2_with fail
                refine HMq86x.out.mono ?_
                rintro e w86y ⟨rfl, hd86y⟩
                have HB86y := kept (HB86x.out.trans (hd86y.below.mono HB86x.out.size))
                clear hd86y
                go_wp2_with fail
                refine (HA.out _).mono ?_
                rintro e w86z ⟨rfl, hb86z⟩
                have HB86z := kept (HB86y.out.trans (hb86z.mono HB86y.out.size))
                clear hb86z
                go_wp2_with fail
                refine hK _ _ ?_
                go_wp2_with fail
                go_ret
                exact ⟨rfl, HB2.out.trans ((HB5.out.trans (HB86z.out.mono HB5.out.size)).mono HB2.out.size)⟩
            · generalize hT : wpOrd _ _ _ K _ = T
              have HT := kept hT
              clear hT
              go_wp2_with fail
              obtain ⟨w87x, hw87x⟩ : ∃ w_, w_ = World.alloc w7 (.cells #[.int .i64 0] 3) := ⟨_, rfl⟩
              obtain ⟨g87x, hg87x⟩ : ∃ g, g = w7.heap.size := ⟨_, rfl⟩
              have HB87x : Kept (Below w5.heap.size w5 w87x) := kept (by rw [hw87x]; exact HB57.out.trans (((Below.refl _ _).alloc (Nat.le_refl _) _).mono HB57.out.size))
              have HG87x : Kept (w5.heap.size ≤ g87x) := kept (by rw [hg87x]; exact HB57.out.size)
              have HZ87x : Kept (Blk w87x g87x #[.int .i64 0] 3) := kept (by rw [hw87x, hg87x]; exact Blk.fresh _ _ _)
              rw [← hw87x, ← hg87x]
              clear hw87x hg87x
              show T _ _
              rw [← HT.out]
              clear HT T
              unfold wpOrd
              simp only [pick, List.filterMap_cons, List.filterMap_nil, List.getElem?_cons_zero, List.getElem?_cons_succ]
              generalize hT : wpOrd _ _ _ K _ = T
              have HT := kept hT
              clear hT
              go_wp2_with fail
              obtain ⟨w88x, hw88x⟩ : ∃ w_, w_ = World.alloc w87x (.cells #[] 3) := ⟨_, rfl⟩
              obtain ⟨g88x, hg88x⟩ : ∃ g, g = w87x.heap.size := ⟨_, rfl⟩
              have HB88x : Kept (Below w5.heap.size w5 w88x) := kept (by rw [hw88x]; exact HB87x.out.trans (((Below.refl _ _).alloc (Nat.le_refl _) _).mono HB87x.out.size))
              have HG88x : Kept (w5.heap.size ≤ g88x) := kept (by rw [hg88x]; exact HB87x.out.size)
              have HE88x : Kept (Owns w88x 3 (.slice (some ⟨g88x, 0, none⟩) 0 0) []) := kept (by rw [hw88x, hg88x]; exact Owns.mk (xs := []) (Blk.fresh _ _ _) (Nat.le_refl _) (by simp [maxLen]) rfl rfl)
              have HN88x : Kept (g87x ≠ g88x) := kept (by rw [hg88x]; have := Blk.lt HZ87x.out; omega)
              have HZ88y : Kept (Blk w88x g87x #[.int .i64 0] 3) := kept (by rw [hw88x]; exact HZ87x.out.alloc _)
              rw [← hw88x, ← hg88x]
              clear hw88x hg88x
              show T _ _
              rw [← HT.out]
              clear HT T
              unfold wpOrd
              simp only [pick, List.filterMap_cons, List.filterMap_nil, List.getElem?_cons_zero, List.getElem?_cons_succ]
              generalize hT : wpOrd _ _ _ K _ = T
              have HT := kept hT
              clear hT
              have HNews89x := kept (show ∀ j u, (ints .i64 l)[j]? = some u → w88x.cell? (x0.add j) = some u from fun j u hu => by obtain ⟨x', hxx, hc⟩ := (HR5.out.later HB88x.out).at hu; cases hxx; exact hc)
              refine wpList_appG rfl _ _ 22 rfl 3 i0 (.int .i64 0) 8 Try.underlying22 hi hz0 hz1 hz2 rfl (.slice (some ⟨g88x, 0, none⟩) 0 0) _ rfl HE88x.out x0 _ _ _ rfl HL0.out HNews89x.out ?_ ?_ ?_ ?_
              · intro u hu; obtain ⟨n, _, rfl⟩ := List.mem_map.1 hu; rfl
              · simp [maxLen]
              · simp
              intro v89x w89x O89x C89x F89x
              obtain ⟨a89x, c89x, rfl, hq89x⟩ := O89x.slice
              have e89x : ([] ++ ints .i64 l : List Value).length = 65 := HL0.out
              rw [e89x] at O89x F89x ⊢
              obtain ⟨g89x, rfl⟩ := hq89x (fun e => by rw [e] at e89x; simp at e89x)
              have HO89x := kept (show Owns w89x 3 (.slice (some ⟨g89x, 0, none⟩) 65 c89x) (ints .i64 l) from O89x)
              have HB89x : Kept (Below w5.heap.size w5 w89x) := kept (HB88x.out.trans (C89x.below HB88x.out.size (fun b hb h => by have := HG88x.out; simp [Value.ownBlock] at h; omega)))
              have HG89x : Kept (w5.heap.size ≤ g89x) := kept (by have h1 := HG88x.out; have h2 := HB88x.out.size; rcases F89x g89x rfl with h | h; (simp [Value.ownBlock] at h; omega); omega)
              have HZ89x : Kept (Blk w89x g87x #[.int .i64 0] 3) := kept (C89x.keep HZ88y.out (fun h => by have := HN88x.out; simp [Value.ownBlock] at h; omega))
              clear O89x C89x F89x hq89x HNews89x e89x
              go_wp2_with fail
              show T _ _
              rw [← HT.out]
              clear HT T
              unfold wpOrd
              simp only [pick, List.filterMap_cons, List.filterMap_nil, List.getElem?_cons_zero, List.getElem?_cons_succ]
              have HNews90x := kept (show ∀ j u, [Value.int .i64 0][j]? = some u → w89x.cell? ((⟨g87x, 0, none⟩ : Addr).add j) = some u from one_cell HZ89x.out)
              refine wpList_appG rfl _ _ 22 rfl 3 i0 (.int .i64 0) 8 Try.underlying22 hi hz0 hz1 hz2 rfl (.slice (some ⟨g89x, 0, none⟩) 65 c89x) _ rfl HO89x.out ⟨g87x, 0, none⟩ _ _ [.int .i64 0] rfl rfl HNews90x.out ?_ ?_ ?_ ?_
              · intro u hu; simp at hu; subst hu; rfl
              · simp [maxLen, HL65.out]
              · simp [HL65.out]
              intro v90x w90x O90x C90x F90x
              rw [← ints_snoc] at O90x
              obtain ⟨a90x, c90x, rfl, hq90x⟩ := O90x.slice
              rw [HL66.out] at O90x ⊢
              have HB90x : Kept (Below w5.heap.size w5 w90x) := kept (HB89x.out.trans (C90x.below HB89x.out.size (fun b hb h => by have := HG89x.out; simp [Value.ownBlock] at h; omega)))
              have HMq90x := kept (HM66.out a90x c90x w90x (C_of_rd O90x.rd) (own_cap O90x))
              clear O90x C90x F90x hq90x HNews90x
              go_wp2_with fail
              refine HMq90x.out.mono ?_
              rintro e w90y ⟨rfl, hd90y⟩
              have HB90y := kept (HB90x.out.trans (hd90y.below.mono HB90x.out.size))
              clear hd90y
              go_wp2_with fail
              refine (HA.out _).mono ?_
              rintro e w90z ⟨rfl, hb90z⟩
              have HB90z := kept (HB90y.out.trans (hb90z.mono HB90y.out.size))
              clear hb90z
              go_wp2_with fail
              refine hK _ _ ?_
              go_wp2_with fail
              go_ret
              exact ⟨rfl, HB2.out.trans ((HB5.out.trans (HB90z.out.mono HB5.out.size)).mono HB2.out.size)⟩
          · generalize hT : wpOrd _ _ _ K _ = T
            have HT := kept hT
            clear hT
            go_wp2_with fail
            obtain ⟨w91x, hw91x⟩ : ∃ w_, w_ = World.alloc w7 (.cells #[.int .i64 0] 3) := ⟨_, rfl⟩
            obtain ⟨g91x, hg91x⟩ : ∃ g, g = w7.heap.size := ⟨_, rfl⟩
            have HB91x : Kept (Below w5.heap.size w5 w91x) := kept (by rw [hw91x]; exact HB57.out.trans (((Below.refl _ _).alloc (Nat.le_refl _) _).mono HB57.out.size))
            have HG91x : Kept (w5.heap.size ≤ g91x) := kept (by rw [hg91x]; exact HB57.out.size)
            have HZ91x : Kept (Blk w91x g91x #[.int .i64 0] 3) := kept (by rw [hw91x, hg91x]; exact Blk.fresh _ _ _)
            rw [← hw91x, ← hg91x]
            clear hw91x hg91x
            show T _ _
            rw [← HT.out]
            clear HT T
            unfold wpOrd
            simp only [pick, List.filterMap_cons, List.filterMap_nil, List.getElem?_cons_zero, List.getElem?_cons_succ]
            refine ⟨?_, ?_⟩
            · generalize hT : wpOrd _ _ _ K _ = T
              have HT := kept hT
              clear hT
              go_wp2_with fail
              obtain ⟨w92x, hw92x⟩ : ∃ w_, w_ = World.alloc w91x (.cells #[] 3) := ⟨_, rfl⟩
              obtain ⟨g92x, hg92x⟩ : ∃ g, g = w91x.heap.size := ⟨_, rfl⟩
              have HB92x : Kept (Below w5.heap.size w5 w92x) := kept (by rw [hw92x]; exact HB91x.out.trans (((Below.refl _ _).alloc (Nat.le_refl _) _).mono HB91x.out.size))
              have HG92x : Kept (w5.heap.size ≤ g92x) := kept (by rw [hg92x]; exact HB91x.out.size)
              have HE92x : Kept (Owns w92x 3 (.slice (some ⟨g92x, 0, none⟩) 0 0) []) := kept (by rw [hw92x, hg92x]; exact Owns.mk (xs := []) (Blk.fresh _ _ _) (Nat.le_refl _) (by simp [maxLen]) rfl rfl)
              have HN92x : Kept (g91x ≠ g92x) := kept (by rw [hg92x]; have := Blk.lt HZ91x.out; omega)
              have HZ92y : Kept (Blk w92x g91x #[.int .i64 0] 3) := kept (by rw [hw92x]; exact HZ91x.out.alloc _)
              rw [← hw92x, ← hg92x]
              clear hw92x hg92x
              show T _ _
              rw [← HT.out]
              clear HT T
              unfold wpOrd
              simp only [pick, List.filterMap_cons, List.filterMap_nil, List.getElem?_cons_zero, List.getElem?_cons_succ]
              generalize hT : wpOrd _ _ _ K _ = T
              have HT := kept hT
              clear hT
              go_wp2_with fail
              show T _ _
              rw [← HT.out]
              clear HT T
              unfold wpOrd
              simp only [pick, List.filterMap_cons, List.filterMap_nil, List.getElem?_cons_zero, List.getElem?_cons_succ]
              generalize hT : wpOrd _ _ _ K _ = T
              have HT := kept hT
              clear hT
              have HNews94x := kept (show ∀ j u, (ints .i64 l)[j]? = some u → w92x.cell? (x0.add j) = some u from fun j u hu => by obtain ⟨x', hxx, hc⟩ := (HR5.out.later HB92x.out).at hu; cases hxx; exact hc)
              refine wpList_appG rfl _ _ 22 rfl 3 i0 (.int .i64 0) 8 Try.underlying22 hi hz0 hz1 hz2 rfl (.slice (some ⟨g92x, 0, none⟩) 0 0) _ rfl HE92x.out x0 _ _ _ rfl HL0.out HNews94x.out ?_ ?_ ?_ ?_
              · intro u hu; obtain ⟨n, _, rfl⟩ := List.mem_map.1 hu; rfl
              · simp [maxLen]
              · simp
              intro v94x w94x O94x C94x F94x
              obtain ⟨a94x, c94x, rfl, hq94x⟩ := O94x.slice
              have e94x : ([] ++ ints .i64 l : List Value).length = 65 := HL0.out
              rw [e94x] at O94x F94x ⊢
              obtain ⟨g94x, rfl⟩ := hq94x (fun e => by rw [e] at e94x; simp at e94x)
              have HO94x := kept (show Owns w94x 3 (.slice (some ⟨g94x, 0, none⟩) 65 c94x) (ints .i64 l) from O94x)
              have HB94x : Kept (Below w5.heap.size w5 w94x) := kept (HB92x.out.trans (C94x.below HB92x.out.size (fun b hb h => by have := HG92x.out; simp [Value.ownBlock] at h; omega)))
              have HG94x : Kept (w5.heap.size ≤ g94x) := kept (by have h1 := HG92x.out; have h2 := HB92x.out.size; rcases F94x g94x rfl with h | h; (simp [Value.ownBlock] at h; omega); omega)
              have HZ94x : Kept (Blk w94x g91x #[.int .i64 0] 3) := kept (C94x.keep HZ92y.out (fun h => by have := HN92x.out; simp [Value.ownBlock] at h; omega))
              clear O94x C94x F94x hq94x HNews94x e94x
              go_wp2_with fail
              show T _ _
              rw [← HT.out]
              clear HT T
              unfold wpOrd
              simp only [pick, List.filterMap_cons, List.filterMap_nil, List.getElem?_cons_zero, List.getElem?_cons_succ]
              have HNews95x := kept (show ∀ j u, [Value.int .i64 0][j]? = some u → w94x.cell? ((⟨g91x, 0, none⟩ : Addr).add j) = some u from one_cell HZ94x.out)
              refine wpList_appG rfl _ _ 22 rfl 3 i0 (.int .i64 0) 8 Try.underlying22 hi hz0 hz1 hz2 rfl (.slice (some ⟨g94x, 0, none⟩) 65 c94x) _ rfl HO94x.out ⟨g91x, 0, none⟩ _ _ [.int .i64 0] rfl rfl HNews95x.out ?_ ?_ ?_ ?_
              · intro u hu; simp at hu; subst hu; rfl
              · simp [maxLen, HL65.out]
              · simp [HL65.out]
              intro v95x w95x O95x C95x F95x
              rw [← ints_snoc] at O95x
              obtain ⟨a95x, c95x, rfl, hq95x⟩ := O95x.slice
              rw [HL66.out] at O95x ⊢
              have HB95x : Kept (Below w5.heap.size w5 w95x) := kept (HB94x.out.trans (C95x.below HB94x.out.size (fun b hb h => by have := HG94x.out; simp [Value.ownBlock] at h; omega)))
              have HMq95x := kept (HM66.out a95x c95x w95x (C_of_rd O95x.rd) (own_cap O95x))
              clear O95x C95x F95x hq95x HNews95x
              go_wp2_with fail
              refine HMq95x.out.mono ?_
              rintro e w95y ⟨rfl, hd95y⟩
              have HB95y := kept (HB95x.out.trans (hd95y.below.mono HB95x.out.size))
              clear hd95y
              go_wp2_with fail
              refine (HA.out _).mono ?_
              rintro e w95z ⟨rfl, hb95z⟩
              have HB95z := kept (HB95y.out.trans (hb95z.mono HB95y.out.size))
              clear hb95z
              go_wp2_with fail
              refine hK _ _ ?_
              go_wp2_with fail
              go_ret
              exact ⟨rfl, HB2.out.trans ((HB5.out.trans (HB95z.out.mono HB5.out.size)).mono HB2.out.size)⟩
            · generalize hT : wpOrd _ _ _ K _ = T
              have HT := kept hT
              clear hT
              go_wp2_with fail
              show T _ _
              rw [← HT.out]
              clear HT T
              unfold wpOrd
              simp only [pick, List.filterMap_cons, List.filterMap_nil, List.getElem?_cons_zero, List.getElem?_cons_succ]
              generalize hT : wpOrd _ _ _ K _ = T
              have HT := kept hT
              clear hT
              go_wp2_with fail
              obtain ⟨w97x, hw97x⟩ : ∃ w_, w_ = World.alloc w91x (.cells #[] 3) := ⟨_, rfl⟩
              obtain ⟨g97x, hg97x⟩ : ∃ g, g = w91x.heap.size := ⟨_, rfl⟩
              have HB97x : Kept (Below w5.heap.size w5 w97x) := kept (by rw [hw97x]; exact HB91x.out.trans (((Below.refl _ _).alloc (Nat.le_refl _) _).mono HB91x.out.size))
              have HG97x : Kept (w5.heap.size ≤ g97x) := kept (by rw [hg97x]; exact HB91x.out.size)
              have HE97x : Kept (Owns w97x 3 (.slice (some ⟨g97x, 0, none⟩) 0 0) []) := kept (by rw [hw97x, hg97x]; exact Owns.mk (xs := []) (Blk.fresh _ _ _) (Nat.le_refl _) (by simp [maxLen]) rfl rfl)
              have HN97x : Kept (g91x ≠ g97x) := kept (by rw [hg97x]; have := Blk.lt HZ91x.out; omega)
              have HZ97y : Kept (Blk w97x g91x #[.int .i64 0] 3) := kept (by rw [hw97x]; exact HZ91x.out.alloc _)
              rw [← hw97x, ← hg97x]
              clear hw97x hg97x
              show T _ _
              rw [← HT.out]
              clear HT T
              unfold wpOrd
              simp only [pick, List.filterMap_cons, List.filterMap_nil, List.getElem?_cons_zero, List.getElem?_cons_succ]
              generalize hT : wpOrd _ _ _ K _ = T
              have HT := kept hT
              clear hT
              have HNews98x := kept (show ∀ j u, (ints .i64 l)[j]? = some u → w97x.cell? (x0.add j) = some u from fun j u hu => by obtain ⟨x', hxx, hc⟩ := (HR5.out.later HB97x.out).at hu; cases hxx; exact hc)
              refine wpList_appG rfl _ _ 22 rfl 3 i0 (.int .i64 0) 8 Try.underlying22 hi hz0 hz1 hz2 rfl (.slice (some ⟨g97x, 0, none⟩) 0 0) _ rfl HE97x.out x0 _ _ _ rfl HL0.out HNews98x.out ?_ ?_ ?_ ?_
              · intro u hu; obtain ⟨n, _, rfl⟩ := List.mem_map.1 hu; rfl
              · simp [maxLen]
              · simp
              intro v98x w98x O98x C98x F98x
              obtain ⟨a98x, c98x, rfl, hq98x⟩ := O98x.slice
              have e98x : ([] ++ ints .i64 l : List Value).length = 65 := HL0.out
              rw [e98x] at O98x F98x ⊢
              obtain ⟨g98x, rfl⟩ := hq98x (fun e => by rw [e] at e98x; simp at e98x)
              have HO98x := kept (show Owns w98x 3 (.slice (some ⟨g98x, 0, none⟩) 65 c98x) (ints .i64 l) from O98x)
              have HB98x : Kept (Below w5.heap.size w5 w98x) := kept (HB97x.out.trans (C98x.below HB97x.out.size (fun b hb h => by have := HG97x.out; simp [Value.ownBlock] at h; omega)))
              have HG98x : Kept (w5.heap.size ≤ g98x) := kept (by have h1 := HG97x.out; have h2 := HB97x.out.size; rcases F98x g98x rfl with h | h; (simp [Value.ownBlock] at h; omega); omega)
              have HZ98x : Kept (Blk w98x g91x #[.int .i64 0] 3) := kept (C98x.keep HZ97y.out (fun h => by have := HN97x.out; simp [Value.ownBlock] at h; omega))
              clear O98x C98x F98x hq98x HNews98x e98x
              go_wp2_with fail
              show T _ _
              rw [← HT.out]
              clear HT T
              unfold wpOrd
              simp only [pick, List.filterMap_cons, List.filterMap_nil, List.getElem?_cons_zero, List.getElem?_cons_succ]
              have HNews99x := kept (show ∀ j u, [Value.int .i64 0][j]? = some u → w98x.cell? ((⟨g91x, 0, none⟩ : Addr).add j) = some u from one_cell HZ98x.out)
              refine wpList_appG rfl _ _ 22 rfl 3 i0 (.int .i64 0) 8 Try.underlying22 hi hz0 hz1 hz2 rfl (.slice (some ⟨g98x, 0, none⟩) 65 c98x) _ rfl HO98x.out ⟨g91x, 0, none⟩ _ _ [.int .i64 0] rfl rfl HNews99x.out ?_ ?_ ?_ ?_
              · intro u hu; simp at hu; subst hu; rfl
              · simp [maxLen, HL65.out]
              · simp [HL65.out]
              intro v99x w99x O99x C99x F99x
              rw [← ints_snoc] at O99x
              obtain ⟨a99x, c99x, rfl, hq99x⟩ := O99x.slice
              rw [HL66.out] at O99x ⊢
              have HB99x : Kept (Below w5.heap.size w5 w99x) := kept (HB98x.out.trans (C99x.below HB98x.out.size (fun b hb h => by have := HG98x.out; simp [Value.ownBlock] at h; omega)))
              have HMq99x := kept (HM66.out a99x c99x w99x (C_of_rd O99x.rd) (own_cap O99x))
              clear O99x C99x F99x hq99x HNews99x
              go_wp2_with fail
              refine HMq99x.out.mono ?_
              rintro e w99y ⟨rfl, hd99y⟩
              have HB99y := kept (HB99x.out.trans (hd99y.below.mono HB99x.out.size))
              clear hd99y
              go_wp2_with fail
              refine (HA.out _).mono ?_
              rintro e w99z ⟨rfl, hb99z⟩
              have HB99z := kept (HB99y.out.trans (hb99z.mono HB99y.out.size))
              clear hb99z
              go_wp2_with fail
              refine hK _ _ ?_
              go_wp2_with fail
              go_ret
              exact ⟨rfl, HB2.out.trans ((HB5.out.trans (HB99z.out.mono HB5.out.size)).mono HB2.out.size)⟩
        -- END c

set_option maxHeartbeats 4000000 in
theorem big_calls (a0 : Option Addr) (c0 n : Nat) (a1 a2 : Int) (w : World) (hn : 140 < n) :
    Calls Try.prog 5 #[.slice a0 n c0, .int .u8 a1, .int .u8 a2] w fun e w' => e = .returned (.bool true) ∧ Below w.heap.size w w' := by
  obtain ⟨ka, hka⟩ := awake9.rounds
  have HA := kept (fun wx => wringerlaw9_awake.calls ka true wx hka)
  have t1 : decide ((140 : Int) < (n : Int)) = true := decide_eq_true (by omega)
  clear hka hn
  go_enter Try.func5, Try.ntmps5
  go_wp2_with fail
  refine (HA.out _).mono ?_
  rintro e w1 ⟨rfl, hb⟩
  have HB := kept hb
  clear hb
  go_wp2_with fail
  go_ret
  exact ⟨rfl, HB.out⟩
theorem CanonTurned_walk (a0 : Option Addr) (len0 cap0 : Nat) (z0 : List Int) (a1 a2 : Int) (w : World)
    (w0 : _root_.Go.Proofs.Ytkdmamffbhlbgaa.Own.Arg .u16 w a0 len0 cap0 z0) (y0 : len0 * 2 ≤ 140737488351232) (w1 : (Lit.int .u8 a1).wf = true) (w2 : (Lit.int .u8 a2).wf = true) :
    Calls Try.prog 5 #[.slice a0 len0 cap0, .int .u8 a1, .int .u8 a2] w fun e w' => e = .returned (.bool true) ∧ Below w.heap.size w w' := by
  obtain ⟨l0, rfl, hr0, hm0, hw0, hc0⟩ := ReadsInt.ofRowC w0
  by_cases hbig : 140 < l0.length
  · exact big_calls a0 cap0 l0.length a1 a2 w hbig
  · obtain ⟨u, rfl, hu⟩ := u8_atT w1
    obtain ⟨v, rfl, hv⟩ := u8_atT w2
    exact turned_calls a0 cap0 l0 u v w (Kd.C_of_reads (d := (0 : Int)) (h1 := fun _ => rfl) hr0) hc0 hw0 hu hv (by omega)
end Go.Proofs.Ytkdmamffbhlbgaa

-- ---- LawCanonTurned
/- The law CanonTurned holds of the program, for every input; each argument reads behind the call as it read before. Conditions: none. -/
namespace Go.Proofs.Ytkdmamffbhlbgaa.canonTurned
open Go.ChangeShapes Go.WideShapes Go.ChangeAt Go.RowKit
open Go.ChangeMaps (open_string shut_string)
set_option linter.unusedVariables false
theorem own : ownKnob Try.prog.godebug = none := by kernel_rfl
theorem laidOut : laidOutB Try.prog = true := by kernel_rfl
set_option maxRecDepth 100000 in
theorem lifted (os : Os) (started : os.Started) (H : Type) (enc : TypeId × Value → H) :
    ReturnsInHanded {} Try.checked os 5 .any (Rows.canonTurnedSpec.pre6 enc Try.prog Try.f5 Rows.canonTurnedRow.domain false) (Rows.canonTurnedSpec.post enc Try.prog Try.f5 false true false false) := by
  refine returnsInHanded_of_change_sized (C := Try.checked) own started (by kernel_rfl) Try.func5
    (ChangeSpec.witness6 (enc := enc) (C := Try.checked) false ⟨#[], #[.slice none 0 0, .int .u8 0, .int .u8 0], []⟩ 8 (by kernel_rfl) (by kernel_rfl) (by kernel_rfl) (by kernel_rfl)) ?_
  intro W base args ds gs before hval0 hW hcnd hsz0 _
  have hsz : (DataW.weightsEach Try.prog (Try.f5.params.toList ++ Rows.canonTurnedSpec.plain.varTypes Try.prog) (ds ++ gs)).all (· ≤ reachBytes) = true := hsz0
  have hval : ∀ (j : Nat) t v, Try.f5.params[j]? = some t → args[j]? = some v → Value.okWide Try.prog W .any base t v := hval0
  have hW' := hW
  obtain ⟨p, q, hA0, hV, rfl, hfz, hnd⟩ := hW
  have hA : DataW.TrodAll enc Try.prog W 0 (fun _ => true) true Try.f5.params.toList args.toList ds p := hA0
  rw [Try.params5] at hA hval hsz
  obtain ⟨v0, vs0, d0, ds0, p0, q0, hargs, rfl, rfl, h0, r0⟩ := trodAll_cons hA
  obtain ⟨v1, vs1, d1, ds1, p1, q1, rfl, rfl, rfl, h1, r1⟩ := trodAll_cons r0
  obtain ⟨v2, vs2, d2, ds2, p2, q2, rfl, rfl, rfl, h2, r2⟩ := trodAll_cons r1
  obtain ⟨rfl, rfl, rfl⟩ := trodAll_nil r2
  obtain rfl : args = #[v0, v1, v2] := by cases args; simp_all
  obtain ⟨rfl, rfl⟩ := trodVars_none hV
  obtain ⟨a0, len0, cap0, rfl⟩ := okWide_slice Try.underlying34 (hval 0 34 v0 rfl rfl)
  have k0 := h0
  have lt0 : ∀ x ∈ p0, x.block < W.heap.size := by obtain ⟨m, hm⟩ := k0; exact DataW.trod_lt m _ _ _ hm
  obtain ⟨z0, w0⟩ : ∃ zs, Own.Arg .u16 W a0 len0 cap0 zs := by
    obtain ⟨fuel, hf⟩ := h0
    rcases open_ints Try.underlying34 Try.underlying60 (by kernel_rfl) hf with ⟨hcs, _⟩ | ⟨x, l, c, zs, hcs, _, hl, hm, hz, _, hcell, hwz⟩
    · simp [Value.cells] at hcs
      obtain ⟨rfl, rfl, rfl⟩ := hcs
      exact ⟨[], .inl ⟨rfl, rfl, rfl, rfl⟩⟩
    · simp [Value.cells] at hcs
      obtain ⟨rfl, rfl, rfl⟩ := hcs
      exact ⟨zs, .inr ⟨_, rfl, hl, hm, by simpa using hz, hcell, hwz⟩⟩
  have y0 : len0 * 2 ≤ 140737488351232 := Own.sized_ints hsz (j := 0) (t := 34) rfl rfl Try.underlying34 Try.underlying60 (by kernel_rfl) (by kernel_rfl) h0
  obtain ⟨a1, rfl, rfl, rfl, w1⟩ := open_int Try.underlying5 (hval 1 5 v1 rfl rfl) h1
  obtain ⟨a2, rfl, rfl, rfl, w2⟩ := open_int Try.underlying5 (hval 2 5 v2 rfl rfl) h2
  clear hA0 hval0 hsz0 hsz
  refine (CanonTurned_walk a0 len0 cap0 z0 a1 a2 W w0 y0 w1 w2).mono fun e W' ⟨he, bel⟩ => ?_
  subst he
  exact ⟨_, rfl, _, _, _, [], _, [], hW', trodAll_mk1 (shut_bool Try.underlying4 _), (trodAll_cons_mk (Below.trod laidOut (by kernel_rfl) (of_decide_eq_true (by kernel_rfl)) k0 bel lt0) (trodAll_cons_mk (shut_int Try.underlying5 w1) (trodAll_cons_mk (shut_int Try.underlying5 w2) trodAll_mk0))), rfl, bel.frame _, fun h => by cases h⟩
theorem over : Rows.canonTurnedRow.holds Try.pinned (OpenSpec.ofChange Rows.canonTurnedSpec) :=
  OpenClaim.holds_of_wide 5 Try.f5 rfl rfl rfl rfl rfl rfl rfl ⟨rfl, rfl, rfl, rfl, rfl⟩ rfl rfl rfl rfl rfl (by kernel_rfl) Try.func5 (by kernel_rfl)
    (of_decide_eq_true (by kernel_rfl)) (by unfold Func.isWrapper; first | (rw [if_pos (by decide +kernel)]; kernel_rfl) | (rw [if_neg (by decide +kernel)]; exact ⟨rfl, rfl⟩))
    (fun os started H enc _ => lifted os started H enc)
theorem proved : Rows.CanonTurnedSaid := over
#print axioms proved
end Go.Proofs.Ytkdmamffbhlbgaa.canonTurned
namespace Go.Proofs.Ytkdmamffbhlbgaa
/-- The row, under a short name. -/
theorem canonTurned_holds : Rows.CanonTurnedSaid := canonTurned.proved
end Go.Proofs.Ytkdmamffbhlbgaa
