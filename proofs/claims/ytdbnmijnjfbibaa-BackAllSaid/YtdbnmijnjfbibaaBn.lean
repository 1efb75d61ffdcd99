/- A Writer of the call's own. -/
import Derived.Test.YtdbnmijnjfbibaaBp
namespace Go.Proofs.Ytdbnmijnjfbibaa
set_option linter.unusedSimpArgs false
set_option linter.unusedVariables false
open Go.RowKit Mix Own Bits

/-- A Writer all of whose memory lies from block B on. -/
structure NewW (B : Nat) (w : World) (p : Nat) (v : Value) (l : List Bool) : Prop where
  is : IsW w p v l
  at_ : B ≤ p
  row : ∀ g, v.ownBlock = some g → B ≤ g

theorem NewW.keep {B : Nat} {w w' : World} {S : Nat → Prop} {p : Nat} {v : Value} {l : List Bool} (h : NewW B w p v l) (hc : Chg S w w') (hp : ¬ S p) (hv : ∀ g, v.ownBlock = some g → ¬ S g) : NewW B w' p v l :=
  ⟨h.is.keep hc hp hv, h.at_, h.row⟩
theorem NewW.later {B : Nat} {w w' : World} {p : Nat} {v : Value} {l : List Bool} (h : NewW B w p v l) (hc : Below w.heap.size w w') : NewW B w' p v l :=
  h.keep (Chg.of_below (S := fun _ => False) hc) id (fun _ _ => id)

theorem new_new (B : Nat) (w : World) (hB : B ≤ w.heap.size) : Calls Try.prog 16 #[] w fun e w' => ∃ p, e = .returned (.pointer (some ⟨p, 0, none⟩)) ∧ NewW B w' p (.slice none 0 0) [] ∧ Below w.heap.size w w' ∧ w.heap.size ≤ p :=
  (new_calls w).mono fun e w' ⟨p, he, hW, hb, hp⟩ => ⟨p, he, ⟨hW, Nat.le_trans hB hp, fun g hg => by simp [Value.ownBlock] at hg⟩, hb, hp⟩

theorem put_new (B p : Nat) (v : Value) (l : List Bool) (x : Nat) (n : Int) (w : World) (hB : B ≤ w.heap.size) (hW : NewW B w p v l) (hl : l.length < 1000000000000) (hx : x < 18446744073709551616) (hn0 : -9223372036854775808 ≤ n) (hn1 : n ≤ 9223372036854775807) :
    Calls Try.prog 17 #[.pointer (some ⟨p, 0, none⟩), .int .u64 (x : Int), .int .i64 n] w fun e w' => e = .returned (.tuple #[]) ∧
      ∃ v', NewW B w' p v' (l ++ bitsOf x (clamp n)) ∧ Below B w w' ∧ Chg (fun k => k = p ∨ some k = v.ownBlock) w w' ∧ ∀ g, v'.ownBlock = some g → some g = v.ownBlock ∨ w.heap.size ≤ g :=
  (put_calls p v l x n w hW.is hl hx hn0 hn1).mono fun e w' ⟨he, v', h1, h2, h3⟩ => ⟨he, v', ⟨h1, hW.at_, fun g hg => by
      rcases h3 g hg with h | h
      · exact hW.row g h.symm
      · omega⟩, h2.below hB (fun k hk h => by
      rcases h with h | h
      · have := hW.at_; omega
      · have := hW.row k h.symm; omega), h2, h3⟩
end Go.Proofs.Ytdbnmijnjfbibaa
