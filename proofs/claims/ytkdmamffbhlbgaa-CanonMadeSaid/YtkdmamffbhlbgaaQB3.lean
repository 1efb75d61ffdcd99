/- Part B3 of what the layer's laws stand on: PureCanonOrder. Written by a program (merge.py) out of this session's own texts and of what the kit's print wrote over stand-ins (sp.py). Conditions: those that each theorem names. -/
import Derived.Test.YtkdmamffbhlbgaaQB2
-- ---- PureCanonOrder
/- Codes, filled up to one length, rise by lengths, and by classes; the last one is all ones: the plain statement of CanonOrder holds for every input. Conditions: none. -/
namespace Go.Proofs.Ytkdmamffbhlbgaa.Pure
open Go.RowKit Go.Proofs.Ytkdmamffbhlbgaa.PA Go.Proofs.YtkdmamffbhlbgaaW.PrintWords Go.Proofs.YtkdmamffbhlbgaaW.PrintLast Go.Proofs.YtkdmamffbhlbgaaW.PrintMore Dp Cd
set_option linter.unusedVariables false
set_option linter.unusedSimpArgs false

theorem rdC_nat (xs : List CodeS) (i : Nat) : rd_T40 xs (i : Int) = xs.getD i zC := by unfold rd_T40; rw [Int.toNat_natCast]
/-- A place's code is what it was when it came. -/
theorem code_keep (l : List Int) (c : Nat) : ∀ (rest done : List Nat), c ∉ rest → ((cst l (done ++ rest)).1).getD c (0, 0) = ((cst l done).1).getD c (0, 0) := by
  intro rest
  induction rest with
  | nil => intro done _; rw [List.append_nil]
  | cons a t ih =>
    intro done hc
    have e : done ++ a :: t = (done ++ [a]) ++ t := by simp
    rw [e, ih (done ++ [a]) (fun h => hc (List.mem_cons_of_mem _ h)), cst_snoc]
    have : a ≠ c := fun e => hc (by rw [e]; simp)
    simp only [cstep, List.getD_eq_getElem?_getD, List.getElem?_set_ne this]
theorem code_at (l : List Int) {done rest : List Nat} {c : Nat} (h : ordS l = done ++ c :: rest) (hc : c < 65) : (codeL l).getD c (0, 0) = (((nx (cst l done).2 (l.getD c 0).toNat).1 : Int), ((nx (cst l done).2 (l.getD c 0).toNat).2 : Int)) := by
  have hnd := nodup_ordS l
  rw [h] at hnd
  have hcr : c ∉ rest := (List.nodup_cons.1 (List.nodup_append.1 hnd).2.1).1
  unfold codeL
  rw [h, show done ++ c :: rest = (done ++ [c]) ++ rest by simp, code_keep l c rest _ hcr, cst_snoc]
  have hl : c < (cst l done).1.length := by rw [length_cst]; exact hc
  simp [cstep, List.getD_eq_getElem?_getD, List.getElem?_set_self hl]
theorem dn_prefix (l : List Int) (n i : Nat) (h1 : 1 ≤ n) (h2 : n ≤ 15) (hi : i < l.length) (hn : l.getD i 0 = (n : Int)) : ∃ rest, ordS l = dn l n i ++ i :: rest := by
  have e : List.range' 1 15 = List.range' 1 (n - 1) ++ (n :: List.range' (n + 1) (15 - n)) := by
    have h3 := List.range'_append_1 (s := 1) (m := n - 1) (n := 15 - (n - 1))
    rw [show n - 1 + (15 - (n - 1)) = 15 by omega] at h3
    rw [← h3, show 15 - (n - 1) = (15 - n) + 1 by omega, List.range'_succ, show 1 + (n - 1) = n by omega]
  have e2 : List.range l.length = List.range i ++ i :: List.range' (i + 1) (l.length - i - 1) := by
    rw [List.range_eq_range', List.range_eq_range']
    have h3 := List.range'_append_1 (s := 0) (m := i) (n := l.length - i)
    rw [show i + (l.length - i) = l.length by omega, Nat.zero_add] at h3
    rw [← h3, show l.length - i = (l.length - i - 1) + 1 by omega, List.range'_succ]
    simp
  refine ⟨(List.range' (i + 1) (l.length - i - 1)).filter (fun j => l.getD j 0 == (n : Int)) ++ (List.range' (n + 1) (15 - n)).flatMap fun m : Nat => (List.range l.length).filter fun j => l.getD j 0 == (m : Int), ?_⟩
  unfold ordS dn
  rw [e, List.flatMap_append, List.flatMap_cons]
  have e3 : (List.range l.length).filter (fun j => l.getD j 0 == (n : Int)) = (List.range i).filter (fun j => l.getD j 0 == (n : Int)) ++ i :: (List.range' (i + 1) (l.length - i - 1)).filter (fun j => l.getD j 0 == (n : Int)) := by
    conv => lhs; rw [e2]
    rw [List.filter_append, List.filter_cons, if_pos (by rw [beq_iff_eq]; exact hn)]
  rw [e3]
  simp [List.append_assoc]

/-- What is known where a place's turn comes. -/
theorem turn_at {l : List Int} (hm : mayL l = true) {n i : Nat} (h1 : 1 ≤ n) (h15 : n ≤ 15) (hi : i < 65) (hn : l.getD i 0 = (n : Int)) :
    ∃ b : Nat, (codeL l).getD i (0, 0) = ((b : Int), (n : Int)) ∧ b * 2 ^ (15 - n) = kd l (dn l n i) ∧ kd l (dn l n i) + 2 ^ (15 - n) ≤ ks l := by
  obtain ⟨h65, hr⟩ := may_range hm
  have hx15 : ∀ x ∈ l, x ≤ 15 := fun x hx => (hr x hx).2
  obtain ⟨rest, ho⟩ := dn_prefix l n i h1 h15 (by omega) hn
  have hso := sorted_ordS l
  rw [ho] at hso
  have hso2 := List.pairwise_append.1 hso
  have hmem : ∀ a ∈ dn l n i, 1 ≤ l.getD a 0 ∧ l.getD a 0 ≤ 15 := fun a ha => (mem_ordS.1 (by rw [ho]; exact List.mem_append_left _ ha)).2
  have hinv := cst_inv l (dn l n i) (hso2.1.imp fun {a b} h => by omega) hmem
  have hle := hinv.2 (n : Int) (fun a ha => by have := hso2.2.2 a ha i (by simp); omega)
  have hinv2 := inv_nx (n := n) hinv.1 h1 h15 (by omega)
  have hn2 : (nx (cst l (dn l n i)).2 n).2 = n := by unfold nx; split <;> rfl
  have hc := code_at l ho hi
  rw [hn, Int.toNat_natCast, hn2] at hc
  refine ⟨_, hc, ?_, ?_⟩
  · rcases hinv2 with ⟨h0, _⟩ | ⟨_, _, h2⟩
    · omega
    · rw [hn2, Nat.add_mul, Nat.one_mul] at h2
      omega
  · have h := kd_all l hx15
    rw [← h, ho, kd_append]
    have h3 : kd l (i :: rest) = 2 ^ (15 - n) + kd l rest := by unfold kd; rw [List.map_cons, List.sum_cons, hn, Int.toNat_natCast]
    omega

/-- Lengths by cutting. -/
def q15 (l : List Int) : Nat := (l.map fun x => 2 ^ (15 - x.toNat)).sum
structure Cut (l : List Int) : Prop where
  each : ∀ x ∈ l, 0 ≤ x ∧ x ≤ 15
  sum : q15 l = 32768
  lo : 1 ≤ l.length
  hi : l.length ≤ 60
  pos : 2 ≤ l.length → ∀ x ∈ l, 1 ≤ x
theorem q15_set : ∀ (l : List Int) (i : Nat) (v : Int), i < l.length → q15 (l.set i v) + 2 ^ (15 - (l.getD i 0).toNat) = q15 l + 2 ^ (15 - v.toNat) := by
  intro l
  induction l with
  | nil => intro i v h; simp at h
  | cons a t ih =>
    intro i v h
    cases i with
    | zero => simp only [q15, List.set_cons_zero, List.map_cons, List.sum_cons, List.getD_cons_zero]; omega
    | succ i =>
      have := ih i v (by simpa using h)
      simp only [q15, List.set_cons_succ, List.map_cons, List.sum_cons, List.getD_cons_succ] at this ⊢
      omega
theorem Cut.step {l : List Int} (h : Cut l) (q : Nat) (hq : q < l.length) (h15 : l.getD q 0 < 15) (h60 : l.length < 60) : Cut (l.set q (l.getD q 0 + 1) ++ [l.getD q 0 + 1]) := by
  have hm : l.getD q 0 ∈ l := by simp [List.getD_eq_getElem?_getD, hq]
  have he := h.each _ hm
  obtain ⟨x, hx⟩ : ∃ x : Nat, l.getD q 0 = (x : Int) := ⟨(l.getD q 0).toNat, by omega⟩
  rw [hx] at he h15 ⊢
  refine ⟨fun y hy => ?_, ?_, by simp, by simp; omega, fun _ y hy => ?_⟩
  · rcases List.mem_append.1 hy with hy | hy
    · rcases List.mem_or_eq_of_mem_set hy with hy | hy
      · exact h.each y hy
      · omega
    · simp at hy; omega
  · have h1 := q15_set l q ((x : Int) + 1) hq
    rw [hx, h.sum, Int.toNat_natCast] at h1
    have e : 2 ^ (15 - x) = 2 * 2 ^ (15 - (x + 1)) := by rw [show 15 - x = (15 - (x + 1)) + 1 by omega, Nat.pow_succ]; omega
    have e2 : ((x : Int) + 1).toNat = x + 1 := by omega
    rw [e2, e] at h1
    have h2 : q15 (l.set q ((x : Int) + 1) ++ [(x : Int) + 1]) = q15 (l.set q ((x : Int) + 1)) + 2 ^ (15 - (x + 1)) := by unfold q15; rw [List.map_append, List.sum_append, List.map_cons, List.map_nil, List.sum_cons, List.sum_nil, e2, Nat.add_zero]
    rw [h2]
    generalize 2 ^ (15 - (x + 1)) = P at h1
    omega
  · rcases List.mem_append.1 hy with hy | hy
    · rcases List.mem_or_eq_of_mem_set hy with hy2 | hy2
      · by_cases hl : 2 ≤ l.length
        · exact h.pos hl y hy2
        · obtain ⟨a, ha⟩ : ∃ a, l = [a] := List.length_eq_one_iff.1 (by have := h.lo; omega)
          have hq0 : q = 0 := by rw [ha] at hq; simpa using hq
          rw [ha, hq0] at hy
          simp at hy; omega
      · omega
    · simp at hy; omega
theorem Cut.lens {l : List Int} (h : Cut l) (h2 : 2 ≤ l.length) : mayL (l ++ List.replicate (65 - l.length) 0) = true ∧ ks (l ++ List.replicate (65 - l.length) 0) = 32768 := by
  have hk : ks (l ++ List.replicate (65 - l.length) 0) = 32768 := by
    unfold ks
    rw [List.map_append, List.sum_append, List.map_replicate, if_neg (by omega), List.sum_replicate_nat, Nat.mul_zero, Nat.add_zero, ← h.sum]
    unfold q15
    congr 1
    exact List.map_congr_left fun x hx => by rw [if_pos (by have := h.pos h2 x hx; omega)]
  refine ⟨?_, hk⟩
  unfold mayL
  rw [decide_eq_true_eq]
  refine ⟨by simp; have := h.hi; omega, fun x hx => ?_, .inr (.inl hk)⟩
  rcases List.mem_append.1 hx with hx | hx
  · exact h.each x hx
  · have := (List.mem_replicate.1 hx).2; omega

section
variable {l0 : List Int} (hC : Cut l0) (h2 : 2 ≤ l0.length)
include hC h2
theorem order_l2 (n : Nat) (h1 : 1 ≤ n) (h15 : n ≤ 15) (L : List Int) (hL : L = l0 ++ List.replicate (65 - l0.length) 0)
    (hnext : Ev (fun k => wringerlaw9_CanonOrder.l1 k l0 ((codeL L).map codeS) ((kd L (dn L (n + 1) 0) : Int) - 1) ((n + 1 : Nat) : Int)) true) :
    ∀ (d i : Nat), i + d = l0.length → Ev (fun k => wringerlaw9_CanonOrder.l2 k l0 ((codeL L).map codeS) ((kd L (dn L n i) : Int) - 1) (n : Int) (i : Int)) true := by
  obtain ⟨hm, hk⟩ := hC.lens h2
  rw [← hL] at hm hk
  obtain ⟨h65, hr⟩ := may_range hm
  have hcl : (codeL L).length = 65 := length_cst L _
  intro d
  induction d with
  | zero =>
    intro i hi
    have e : i = l0.length := by omega
    subst e
    have hskip : dn L n l0.length = dn L (n + 1) 0 := by
      rw [dn_next L n h1, h65]
      have : ∀ j, l0.length + j ≤ 65 → dn L n (l0.length + j) = dn L n l0.length := by
        intro j
        induction j with
        | zero => intro _; rfl
        | succ j ihj =>
          intro hj
          have hz : L.getD (l0.length + j) 0 = 0 := by
            rw [hL, List.getD_eq_getElem?_getD, List.getElem?_append_right (by omega)]
            simp only [List.getElem?_replicate]; split <;> rfl
          rw [show l0.length + (j + 1) = (l0.length + j) + 1 by omega, dn_step, if_neg (by rw [hz]; omega), List.append_nil]
          exact ihj (by omega)
      have := this (65 - l0.length) (by have := hC.hi; omega)
      rw [show l0.length + (65 - l0.length) = 65 by have := hC.hi; omega] at this
      exact this.symm
    rw [hskip]
    refine Ev.step (f := fun k => wringerlaw9_CanonOrder.l1 k l0 ((codeL L).map codeS) ((kd L (dn L (n + 1) 0) : Int) - 1) ((n + 1 : Nat) : Int)) (fun k => ?_) hnext
    simp only [wringerlaw9_CanonOrder.l2]
    rw [if_neg (by omega), w64 (x := (n : Int) + 1) (by omega) (by omega)]; rfl
  | succ d ih =>
    intro i hi
    have hil : i < l0.length := by omega
    have hi65 : i < 65 := by have := hC.hi; omega
    have hLi : L.getD i 0 = l0.getD i 0 := by rw [hL, List.getD_eq_getElem?_getD, List.getElem?_append_left hil, List.getD_eq_getElem?_getD]
    have ih2 := ih (i + 1) (by omega)
    rw [dn_step, hLi] at ih2
    have ew : wrap64 ((i : Int) + 1) = ((i + 1 : Nat) : Int) := by rw [w64 (by omega) (by omega)]; rfl
    by_cases hn : l0.getD i 0 = (n : Int)
    · rw [if_pos hn] at ih2
      obtain ⟨b, hb1, hb2, hb3⟩ := turn_at hm h1 h15 hi65 (by rw [hLi]; exact hn)
      have hk1 : kd L (dn L n i ++ [i]) = kd L (dn L n i) + 2 ^ (15 - n) := by
        rw [kd_append]
        congr 1
        unfold kd; rw [List.map_cons, List.map_nil, List.sum_cons, List.sum_nil, hLi, hn, Int.toNat_natCast, Nat.add_zero]
      rw [hk1] at ih2
      rw [hk] at hb3
      obtain ⟨K, hK⟩ : ∃ K, K = kd L (dn L n i) := ⟨_, rfl⟩
      rw [← hK] at hb2 hb3 ih2 ⊢
      have hrd : rd_T40 ((codeL L).map codeS) (i : Int) = codeS ((b : Int), (n : Int)) := by
        rw [rdC_nat, List.getD_eq_getElem?_getD, List.getElem?_map]
        have : (codeL L)[i]? = some ((b : Int), (n : Int)) := by
          rw [List.getD_eq_getElem?_getD] at hb1
          have hl2 : i < (codeL L).length := by omega
          rw [List.getElem?_eq_getElem hl2] at hb1 ⊢
          simpa using hb1
        rw [this]; rfl
      have hp : 1 ≤ 2 ^ (15 - n) := Nat.pow_pos (by decide)
      have e15 : wrap64 (15 - (n : Int)) = ((15 - n : Nat) : Int) := by rw [w64 (by omega) (by omega)]; omega
      have es1 : shl .i64 (b : Int) ((15 - n : Nat) : Int) = (K : Int) := by rw [shl_nat b (15 - n) (by omega) (by rw [hb2]; omega), hb2]
      have es2 : shl .i64 1 ((15 - n : Nat) : Int) = ((2 ^ (15 - n) : Nat) : Int) := shl_1 (15 - n) (by omega)
      obtain ⟨P, hP⟩ : ∃ P, P = 2 ^ (15 - n) := ⟨_, rfl⟩
      rw [← hP] at es2 hb3 hp ih2
      have e6 : wrap64 (wrap64 ((K : Int) + (P : Int)) - 1) = ((K + P : Nat) : Int) - 1 := by rw [w64 (x := (K : Int) + (P : Int)) (by omega) (by omega), w64 (by omega) (by omega)]; omega
      refine Ev.step (f := fun k => wringerlaw9_CanonOrder.l2 k l0 ((codeL L).map codeS) (((K + P : Nat) : Int) - 1) (n : Int) ((i + 1 : Nat) : Int)) (fun k => ?_) ih2
      simp only [wringerlaw9_CanonOrder.l2, rd_nat, hrd, codeS, e15, es1, es2, e6, ew, List.length_map]
      clear ih ih2 hnext hrd es1 es2 e6 e15 ew hK hP hk1 hb1
      rw [if_pos (by omega), if_pos (by omega), if_pos hn, if_pos (by omega), if_pos (by omega), if_neg (by omega)]
      rfl
    · rw [if_neg hn, List.append_nil] at ih2
      refine Ev.step (f := fun k => wringerlaw9_CanonOrder.l2 k l0 ((codeL L).map codeS) ((kd L (dn L n i) : Int) - 1) (n : Int) ((i + 1 : Nat) : Int)) (fun k => ?_) ih2
      simp only [wringerlaw9_CanonOrder.l2, rd_nat, ew]
      rw [if_pos (by omega), if_pos (by omega), if_neg hn]
theorem order_l1 (L : List Int) (hL : L = l0 ++ List.replicate (65 - l0.length) 0) : ∀ (d n : Nat), n + d = 16 → 1 ≤ n →
    Ev (fun k => wringerlaw9_CanonOrder.l1 k l0 ((codeL L).map codeS) ((kd L (dn L n 0) : Int) - 1) (n : Int)) true := by
  obtain ⟨hm, hk⟩ := hC.lens h2
  rw [← hL] at hm hk
  have hx15 : ∀ x ∈ L, x ≤ 15 := fun x hx => ((may_range hm).2 x hx).2
  intro d
  induction d with
  | zero =>
    intro n hn _
    have e : n = 16 := by omega
    subst e
    rw [dn_last, kd_all L hx15, hk]
    refine Ev.step (f := fun k => (wringerlaw9_awake.f k).bind fun t253 => (some t253)) (fun k => ?_) (Ev.bind awake9 (Ev.now _))
    simp only [wringerlaw9_CanonOrder.l1]
    rw [if_neg (by omega), if_pos (by omega)]
  | succ d ih =>
    intro n hn h1
    refine Ev.step (f := fun k => wringerlaw9_CanonOrder.l2 k l0 ((codeL L).map codeS) ((kd L (dn L n 0) : Int) - 1) (n : Int) ((0 : Nat) : Int)) (fun k => ?_)
      (order_l2 hC h2 n h1 (by omega) L hL (ih (n + 1) (by omega) (by omega)) l0.length 0 (by omega))
    simp only [wringerlaw9_CanonOrder.l1]
    rw [if_pos (by omega)]; rfl
end

theorem order_end (l : List Int) (hC : Cut l) (x0 : List Int) (i : Int) : Ev (fun k => wringerlaw9_CanonOrder.j1 k x0 l i false) true := by
  have hhi := hC.hi
  by_cases h2 : 2 ≤ l.length
  · obtain ⟨hm, hk⟩ := hC.lens h2
    obtain ⟨L, hL⟩ : ∃ L, L = l ++ List.replicate (65 - l.length) 0 := ⟨_, rfl⟩
    rw [← hL] at hm hk
    have hce : codesE L = ((codeL L).map codeS, 0) := by unfold codesE; rw [if_pos hm]
    have hcl : ((codeL L).map codeS).length = 65 := by rw [List.length_map]; exact length_cst L _
    have ew : wrap64 (65 - (l.length : Int)) = ((65 - l.length : Nat) : Int) := by rw [w64 (by omega) (by omega)]; omega
    refine Ev.step (f := fun k => (canon_May.f k L).bind fun t252 => (wringerlaw9_CanonOrder.j2 k l ((codeL L).map codeS) (!t252))) (fun k => ?_) ?_
    · simp only [wringerlaw9_CanonOrder.j1, ew, Int.toNat_natCast, Option.bind_some, List.nil_append, List.length_nil]
      rw [if_neg (by simp), if_neg (by omega), if_pos (by omega), if_pos (by omega), if_pos (by omega), ← hL]
      show ((canon_Codes.f L).bind _) = _
      unfold canon_Codes.f
      rw [hce]
      simp only [Option.bind_some]
      show ((wringerlaw1_Err.f 0).bind _) = _
      unfold wringerlaw1_Err.f
      simp only [Option.bind_some]
      rw [if_pos trivial, if_pos (by rw [hcl]; rfl)]
    · refine Ev.bind (may_is L) ?_
      rw [hm]
      refine Ev.step (f := fun k => wringerlaw9_CanonOrder.l1 k l ((codeL L).map codeS) ((kd L (dn L 1 0) : Int) - 1) ((1 : Nat) : Int)) (fun k => ?_) (order_l1 hC h2 L hL 15 1 (by omega) (by omega))
      simp only [wringerlaw9_CanonOrder.j2]
      rw [if_neg (by simp), dn_first]; rfl
  · refine Ev.step (f := fun k => (wringerlaw9_awake.f k).bind fun t237 => (some t237)) (fun k => ?_) (Ev.bind awake9 (Ev.now _))
    simp only [wringerlaw9_CanonOrder.j1]
    rw [if_neg (by simp), if_pos (by omega)]
theorem order_l0 (x0 : List Int) (hx : ∀ x ∈ x0, 0 ≤ x ∧ x ≤ 255) (hb : x0.length < 1000000000000000) : ∀ (d i : Nat) (l : List Int), i + d = x0.length → Cut l → Ev (fun k => wringerlaw9_CanonOrder.l0 k x0 l (i : Int)) true := by
  intro d
  induction d with
  | zero =>
    intro i l hi hC
    refine Ev.step (f := fun k => wringerlaw9_CanonOrder.j1 k x0 l (i : Int) false) (fun k => ?_) (order_end l hC x0 _)
    simp only [wringerlaw9_CanonOrder.l0]
    rw [if_neg (by omega)]
  | succ d ih =>
    intro i l hi hC
    have hil : i < x0.length := by omega
    have hlo := hC.lo
    have hhi := hC.hi
    by_cases h60 : l.length < 60
    · have hy := hx (x0.getD i 0) (by simp [List.getD_eq_getElem?_getD, hil])
      obtain ⟨y, hye⟩ : ∃ y : Nat, x0.getD i 0 = (y : Int) := ⟨(x0.getD i 0).toNat, by omega⟩
      rw [hye] at hy
      have eq1 : Int.tmod (wrap64 (y : Int)) (l.length : Int) = ((y % l.length : Nat) : Int) := by rw [w64 (by omega) (by omega)]; exact tmod_nat y l.length
      have hq : y % l.length < l.length := Nat.mod_lt _ (by omega)
      obtain ⟨q, hqe⟩ : ∃ q, q = y % l.length := ⟨_, rfl⟩
      rw [← hqe] at eq1 hq
      have ew : wrap64 ((i : Int) + 1) = ((i + 1 : Nat) : Int) := by rw [w64 (by omega) (by omega)]; rfl
      have hm : l.getD q 0 ∈ l := by simp [List.getD_eq_getElem?_getD, hq]
      have he := hC.each _ hm
      have eq2 : wrap64 (l.getD q 0 + 1) = l.getD q 0 + 1 := w64 (by omega) (by omega)
      by_cases h15 : l.getD q 0 < 15
      · have hset : (l.set q (l.getD q 0 + 1)).getD q 0 = l.getD q 0 + 1 := by simp [List.getD_eq_getElem?_getD, List.getElem?_set_self hq]
        refine Ev.step (f := fun k => wringerlaw9_CanonOrder.j1 k x0 l (i : Int) true) (fun k => ?_) (Ev.step (f := fun k => wringerlaw9_CanonOrder.l0 k x0 (l.set q (l.getD q 0 + 1) ++ [l.getD q 0 + 1]) ((i + 1 : Nat) : Int)) (fun k => ?_) (ih (i + 1) _ (by omega) (hC.step q hq h15 h60)))
        · simp only [wringerlaw9_CanonOrder.l0]
          rw [if_pos (by omega), decide_eq_true (by omega)]
        · simp only [wringerlaw9_CanonOrder.j1, rd_nat, hye, eq1, eq2, ew, Int.toNat_natCast, Option.bind_some, hset, List.length_set]
          clear ih eq1 ew hset hye eq2
          rw [if_pos (by trivial), if_pos (by omega), if_pos (by omega), if_neg (by omega), if_pos (by omega), if_pos (by omega), if_pos h15, if_pos (by omega)]
      · refine Ev.step (f := fun k => wringerlaw9_CanonOrder.j1 k x0 l (i : Int) true) (fun k => ?_) (Ev.step (f := fun k => wringerlaw9_CanonOrder.l0 k x0 l ((i + 1 : Nat) : Int)) (fun k => ?_) (ih (i + 1) l (by omega) hC))
        · simp only [wringerlaw9_CanonOrder.l0]
          rw [if_pos (by omega), decide_eq_true (by omega)]
        · simp only [wringerlaw9_CanonOrder.j1, rd_nat, hye, eq1, ew, Int.toNat_natCast]
          clear ih eq1 ew hye
          rw [if_pos (by trivial), if_pos (by omega), if_pos (by omega), if_neg (by omega), if_pos (by omega), if_pos (by omega), if_neg h15]
    · refine Ev.step (f := fun k => wringerlaw9_CanonOrder.j1 k x0 l (i : Int) false) (fun k => ?_) (order_end l hC x0 _)
      simp only [wringerlaw9_CanonOrder.l0]
      rw [if_pos (by omega), decide_eq_false (by omega)]
theorem CanonOrder : wringerlaw9_CanonOrder.Pure := by
  intro l0 _ hs hw
  apply Ev.rounds
  unfold wringerlaw9_CanonOrder.f
  have hx : ∀ x ∈ l0, 0 ≤ x ∧ x ≤ 255 := fun x hx => by
    have h := hw x hx
    simp only [Lit.wf, Bool.and_eq_true, decide_eq_true_eq] at h
    have h1 : IntKind.u8.min = 0 := rfl
    have h2 : IntKind.u8.max = 255 := rfl
    omega
  exact order_l0 l0 hx (by omega) l0.length 0 [0] (by omega) ⟨fun x hx => by simp at hx; omega, by decide, by simp, by simp, fun h => by simp at h⟩
end Go.Proofs.Ytkdmamffbhlbgaa.Pure
