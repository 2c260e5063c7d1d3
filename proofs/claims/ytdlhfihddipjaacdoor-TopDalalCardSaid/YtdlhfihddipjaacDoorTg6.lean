/-
  Contracts of the package postulates: Order.
-/
import Derived.Test.YtdlhfihddipjaacDoorTg5
namespace Go.Proofs.YtdlhfihddipjaacDoor
open Go.RowKit

/-- What is asked of a pair, in the order's innermost loop. -/
def lowP (N : Nat) (t : Nat → Nat) (L v : Nat) : Bool := L.testBit v && (List.range N).all fun w => !L.testBit w || (t (2 ^ v ||| 2 ^ w)).testBit v
def lowTo (t : Nat → Nat) (L v u : Nat) : Bool := (List.range u).all fun w => !L.testBit w || (t (2 ^ v ||| 2 ^ w)).testBit v
theorem lowTo_succ (t : Nat → Nat) (L v u : Nat) : lowTo t L v (u + 1) = (lowTo t L v u && (!L.testBit u || (t (2 ^ v ||| 2 ^ u)).testBit v)) := by
  unfold lowTo; rw [List.range_succ, List.all_append]; simp
theorem lowOf4_mask (N : Nat) (t : Nat → Nat) (L : Nat) : lowOf4 N t L = maskTo (lowP N t L) N := rfl
/-- The ranks under construction. -/
def rkTo (N : Nat) (t : Nat → Nat) (L : Nat) (d : List Int) (r : Nat) (v i : Nat) : Int := if i < v ∧ lowP N t L i = true then (r : Int) else nth d i

end Go.Proofs.YtdlhfihddipjaacDoor
