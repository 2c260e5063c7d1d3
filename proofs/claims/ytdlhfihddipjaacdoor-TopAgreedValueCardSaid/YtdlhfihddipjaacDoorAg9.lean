/-
  The agreement texts: whether all agents have the same posterior, of the program and of its reference.
-/
import Derived.Test.YtdlhfihddipjaacDoorAg8
namespace Go.Proofs.YtdlhfihddipjaacDoor
open Go.RowKit

def agreeB (W : List Int) (C : List (List Int)) (k e : Nat) : Bool := (List.range C.length).all fun a => decide (post W C a k e = post W C 0 k e)
theorem agreeB_iff {W : List Int} {C : List (List Int)} {k e : Nat} : agreeB W C k e = true ↔ ∀ a, a < C.length → post W C a k e = post W C 0 k e := by
  unfold agreeB
  rw [List.all_eq_true]
  exact ⟨fun h a ha => by have := h a (List.mem_range.2 ha); rwa [decide_eq_true_eq] at this, fun h a ha => by rw [decide_eq_true_eq]; exact h a (List.mem_range.1 ha)⟩
def agrR (W : List Int) (C : List (List Int)) (k : Int) (e : Nat) : Bool × Int := if anyErr W C k e ≠ 0 then (false, anyErr W C k e) else (agreeB W C k.toNat e, 0)
theorem anyErr_zero {W : List Int} {C : List (List Int)} {k : Int} {e : Nat} (h : anyErr W C k e = 0) : PrOk W C ∧ ∃ k' : Nat, k = k' ∧ k' < W.length ∧ e < 2 ^ W.length := by
  unfold anyErr at h
  by_cases h0 : agErr W C = 0
  · rw [if_neg (by simpa using h0)] at h
    by_cases h1 : (k < 0 ∨ (W.length : Int) ≤ k) ∨ 2 ^ W.length ≤ e
    · rw [if_pos h1] at h; cases h
    · obtain ⟨k', rfl⟩ := Int.eq_ofNat_of_zero_le (show 0 ≤ k by omega)
      exact ⟨agErr_zero h0, k', rfl, by omega, by omega⟩
  · rw [if_pos (by simpa using h0)] at h; exact absurd h h0
theorem any_ev (W : List Int) (C : List (List Int)) (k : Int) (e : Nat) : anyErr W C k e = if evErr W C e ≠ 0 then evErr W C e else if k < 0 ∨ (W.length : Int) ≤ k then 2 else 0 := by
  by_cases h0 : agErr W C = 0
  · have ev : evErr W C e = if 2 ^ W.length ≤ e then 2 else 0 := by unfold evErr; rw [if_neg (by simpa using h0)]
    have ck : anyErr W C k e = if (k < 0 ∨ (W.length : Int) ≤ k) ∨ 2 ^ W.length ≤ e then 2 else 0 := by unfold anyErr; rw [if_neg (by simpa using h0)]
    rw [ev, ck]
    by_cases h1 : 2 ^ W.length ≤ e
    · rw [if_pos h1, if_pos (.inr h1), if_pos (by decide)]
    · rw [if_neg h1, if_neg (show ¬ ((0 : Int) ≠ 0) by decide)]
      by_cases h2 : k < 0 ∨ (W.length : Int) ≤ k
      · rw [if_pos h2, if_pos (by omega)]
      · rw [if_neg h2, if_neg (by omega)]
  · have ev : evErr W C e = agErr W C := by unfold evErr; rw [if_pos (by simpa using h0)]
    have ck : anyErr W C k e = agErr W C := by unfold anyErr; rw [if_pos (by simpa using h0)]
    rw [ev, ck, if_pos (by simpa using h0)]

end Go.Proofs.YtdlhfihddipjaacDoor
