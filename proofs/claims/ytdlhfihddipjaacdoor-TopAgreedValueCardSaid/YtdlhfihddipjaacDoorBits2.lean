/-
  Plain facts: the full set, differences of sets, and how the walk spells them. No program is in sight.
-/
import Derived.Test.YtdlhfihddipjaacDoorBits
namespace Go.Proofs.YtdlhfihddipjaacDoor
open Go.RowKit

/-- The set of the numbers below 'N'. -/
def full (N : Nat) : Nat := 2 ^ N - 1
theorem full_bit (N j : Nat) : (full N).testBit j = decide (j < N) := Nat.testBit_two_pow_sub_one N j
theorem full_lt (N : Nat) : full N < 2 ^ N := by unfold full; have := Nat.two_pow_pos N; omega
theorem full_lt64 {N : Nat} (h : N ≤ 64) : full N < 18446744073709551616 := Nat.lt_of_lt_of_le (full_lt N) (Nat.pow_le_pow_right (n := 2) (by omega) h)
theorem lt_pow_iff {x N : Nat} : x < 2 ^ N ↔ ∀ j, N ≤ j → x.testBit j = false :=
  ⟨fun h j hj => Nat.testBit_lt_two_pow (Nat.lt_of_lt_of_le h (Nat.pow_le_pow_right (by omega) hj)), fun h => Nat.lt_pow_two_of_testBit _ fun j hj => by simpa using h j hj⟩

/-- What is in 'x' and not in 'y'. -/
def sdiff (x y : Nat) : Nat := x ^^^ (x &&& y)
theorem sdiff_bit (x y j : Nat) : (sdiff x y).testBit j = (x.testBit j && !y.testBit j) := by
  unfold sdiff
  rw [Nat.testBit_xor, Nat.testBit_and]
  cases x.testBit j <;> cases y.testBit j <;> rfl
theorem sdiff_lt {x y N : Nat} (h : x < 2 ^ N) : sdiff x y < 2 ^ N := by
  rw [lt_pow_iff] at h ⊢
  intro j hj
  rw [sdiff_bit, h j hj]; rfl
theorem and_lt {x y N : Nat} (h : x < 2 ^ N) : x &&& y < 2 ^ N := by
  rw [lt_pow_iff] at h ⊢
  intro j hj
  rw [Nat.testBit_and, h j hj]; rfl

theorem u64_andNot (a b : Nat) (ha : a < 18446744073709551616) (hb : b < 18446744073709551616) : bits .andNot .u64 (a : Int) (b : Int) = ((sdiff a b : Nat) : Int) := by
  have hx : sdiff a b < 2 ^ 64 := sdiff_lt (N := 64) ha
  show IntKind.u64.wrap ((BitVec.ofInt 64 (a : Int) &&& ~~~ BitVec.ofInt 64 (b : Int)).toNat : Int) = _
  have e : (BitVec.ofInt 64 (a : Int) &&& ~~~ BitVec.ofInt 64 (b : Int)).toNat = sdiff a b := by
    refine Nat.eq_of_testBit_eq fun j => ?_
    rw [BitVec.toNat_and, Nat.testBit_and, ofInt_u64 a ha, sdiff_bit, BitVec.testBit_toNat, BitVec.getLsbD_not]
    rw [← BitVec.testBit_toNat, ofInt_u64 b hb]
    by_cases h : j < 64
    · simp [h]
    · have : a.testBit j = false := (lt_pow_iff (N := 64)).1 ha j (by omega)
      simp [this]
  rw [e, IntKind.wrap_u64]
  omega

theorem wrap64_pow (n : Nat) (hn : n ≤ 60) : wrap64 (2 ^ n) = ((2 ^ n : Nat) : Int) := by
  have h : 2 ^ n ≤ 2 ^ 60 := Nat.pow_le_pow_right (by omega) hn
  have e : (2 : Int) ^ n = ((2 ^ n : Nat) : Int) := by simp
  rw [e]
  generalize (2 ^ n : Nat) = m at *
  exact IntWalk.wrap64_in _ ⟨by omega, by omega⟩
/-- '1<<N - 1', as the walk spells it. -/
theorem u64_full (N : Nat) (h : N < 64) : IntKind.u64.wrap (IntKind.u64.wrap (2 ^ N) - 1) = ((full N : Nat) : Int) := by
  rw [u64_wrap_pow N h, IntKind.wrap_u64]
  have h1 := pow_lt64 h
  have h2 := Nat.two_pow_pos N
  unfold full
  generalize (2 ^ N : Nat) = m at *
  omega
/-- 's & ^all', of a set of numbers below 'N'. -/
theorem sdiff_full {x N : Nat} : sdiff x (full N) = 0 ↔ x < 2 ^ N := by
  rw [lt_pow_iff]
  constructor
  · intro h j hj
    have : (sdiff x (full N)).testBit j = false := by rw [h, Nat.zero_testBit]
    rw [sdiff_bit, full_bit] at this
    simpa [show ¬ j < N by omega] using this
  · intro h
    refine Nat.eq_of_testBit_eq fun j => ?_
    rw [sdiff_bit, full_bit, Nat.zero_testBit]
    by_cases hj : j < N
    · simp [hj]
    · simp [h j (by omega)]

end Go.Proofs.YtdlhfihddipjaacDoor
