/-
  Plain facts of ranks and of the reference's rank. No walk is here.
-/
import Derived.Test.YtdlhfihddipjaabRank4
namespace Go.Proofs.Ytdlhfihddipjaab
open Go.RowKit

theorem rkSets_lit0 (n : Int) (r : List Int) (s : Nat) : rkSets n r [s, 0] = rkSets n r [s] := by
  unfold rkSets
  simp [List.any_cons]

theorem rkTo_inf {r : List Int} (h : ∀ i, i < r.length → 0 ≤ nth r i ∧ nth r i ≤ 1000) {s : Nat} (j : Nat) (hj : j ≤ r.length) : rkTo r s j = 1099511627776 ↔ ∀ i, i < j → s.testBit i = false := by
  induction j with
  | zero => exact ⟨fun _ i hi => absurd hi (by omega), fun _ => rfl⟩
  | succ j ih =>
    have ih := ih (by omega)
    have hb := h j (by omega)
    rw [rkTo]
    cases e : s.testBit j with
    | true =>
      rw [if_pos rfl]
      constructor
      · intro k; omega
      · intro k; rw [k j (by omega)] at e; cases e
    | false =>
      rw [if_neg (by simp), ih]
      constructor
      · intro k i hi
        by_cases q : i = j
        · rw [q]; exact e
        · exact k i (by omega)
      · intro k i hi; exact k i (by omega)
theorem rank_inf {m : Nat} {r : List Int} (h : RkV m r) {s : Nat} (hs : s < 2 ^ r.length) : rankOf r s = 1099511627776 ↔ s = 0 := by
  unfold rankOf
  rw [rkTo_inf h.1.2 _ (Nat.le_refl _)]
  constructor
  · intro k
    apply Nat.eq_of_testBit_eq
    intro i
    rw [Nat.zero_testBit]
    by_cases hi : i < r.length
    · exact k i hi
    · exact Nat.testBit_lt_two_pow (Nat.lt_of_lt_of_le hs (Nat.pow_le_pow_right (by omega) (by omega)))
  · rintro rfl i _; simp
theorem rref_eq {m : Nat} {r : List Int} (h : RkV m r) {s : Nat} (hs : s < 2 ^ r.length) : rref r s r.length = if s = 0 then -1 else rankOf r s := by
  unfold rref
  have := rank_inf h hs
  unfold rankOf at this ⊢
  by_cases e : s = 0
  · rw [if_pos e, if_pos (this.2 e)]
  · rw [if_neg e, if_neg (fun k => e (this.1 k))]
theorem sdiff_ne_inf (r : List Int) (s : Nat) : sdiff (full r.length) s < 2 ^ r.length := sdiff_lt (full_lt _)

end Go.Proofs.Ytdlhfihddipjaab
