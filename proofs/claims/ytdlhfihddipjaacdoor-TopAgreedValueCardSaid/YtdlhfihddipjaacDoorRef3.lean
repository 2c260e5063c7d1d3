/-
  Contracts of the package wittingref03: Check, Discrete, Trivial, Block.
-/
import Derived.Test.YtdlhfihddipjaacDoorPart4
namespace Go.Proofs.YtdlhfihddipjaacDoor
open Go.RowKit

theorem or_add {s k : Nat} (h : s < 2 ^ k) : s + 2 ^ k = s ||| 2 ^ k := by
  have e := Nat.two_pow_add_eq_or_of_lt h 1
  rw [Nat.mul_one] at e
  rw [Nat.add_comm, e, Nat.or_comm]

end Go.Proofs.YtdlhfihddipjaacDoor
