/-
  Plain facts about sets as numbers, and how the walk spells bit operations on uint64. No program is in sight.
-/
import Derived.Test.YtdlhfihddipjaacDoorWords
import Derived.Laws.BitsAllLaws
import Derived.Laws.BitsLemmas
namespace Go.Proofs.YtdlhfihddipjaacDoor

/-- The set of the numbers below 'k' at which 'P' holds. -/
def maskTo (P : Nat → Bool) : Nat → Nat
  | 0 => 0
  | k + 1 => maskTo P k ||| (if P k then 2 ^ k else 0)

theorem maskTo_succ (P : Nat → Bool) (k : Nat) : maskTo P (k + 1) = maskTo P k ||| (if P k then 2 ^ k else 0) := rfl

theorem maskTo_bit (P : Nat → Bool) (k j : Nat) : (maskTo P k).testBit j = (decide (j < k) && P j) := by
  induction k with
  | zero => simp [maskTo]
  | succ k ih =>
    unfold maskTo
    rw [Nat.testBit_or, ih]
    by_cases h : P k = true
    · rw [if_pos h, Nat.testBit_two_pow]
      by_cases e : k = j
      · subst e; simp [h]
      · by_cases l : j < k
        · simp [l, show j < k + 1 by omega, e]
        · simp [l, show ¬ j < k + 1 by omega, e]
    · rw [if_neg h]
      by_cases e : j = k
      · subst e; simp at h; simp [h]
      · by_cases l : j < k
        · simp [l, show j < k + 1 by omega]
        · simp [l, show ¬ j < k + 1 by omega]
theorem maskTo_lt (P : Nat → Bool) (k : Nat) : maskTo P k < 2 ^ k := by
  induction k with
  | zero => simp [maskTo]
  | succ k ih =>
    unfold maskTo
    refine Nat.or_lt_two_pow (Nat.lt_trans ih (Nat.pow_lt_pow_right (by omega) (by omega))) ?_
    split
    · exact Nat.pow_lt_pow_right (by omega) (by omega)
    · exact Nat.two_pow_pos _
theorem maskTo_lt64 (P : Nat → Bool) {k : Nat} (h : k ≤ 64) : maskTo P k < 18446744073709551616 :=
  Nat.lt_of_lt_of_le (maskTo_lt P k) (by have := Nat.pow_le_pow_right (n := 2) (by omega) h; exact this)
theorem maskTo_congr {P Q : Nat → Bool} {k : Nat} (h : ∀ j, j < k → P j = Q j) : maskTo P k = maskTo Q k := by
  induction k with
  | zero => rfl
  | succ k ih =>
    unfold maskTo
    rw [ih (fun j hj => h j (by omega)), h k (by omega)]

theorem pow_lt64 {k : Nat} (h : k < 64) : 2 ^ k < 18446744073709551616 := by
  have := Nat.pow_lt_pow_right (a := 2) (by omega) h
  exact this

theorem ofInt_u64 (a : Nat) (ha : a < 18446744073709551616) : (BitVec.ofInt 64 (a : Int)).toNat = a := by
  rw [BitVec.ofInt_natCast, BitVec.toNat_ofNat]; exact Nat.mod_eq_of_lt ha
theorem u64_or (a b : Nat) (ha : a < 18446744073709551616) (hb : b < 18446744073709551616) : bits .or .u64 (a : Int) (b : Int) = ((a ||| b : Nat) : Int) := by
  have hx : a ||| b < 2 ^ 64 := Nat.or_lt_two_pow (by omega) (by omega)
  show IntKind.u64.wrap ((BitVec.ofInt 64 (a : Int) ||| BitVec.ofInt 64 (b : Int)).toNat : Int) = _
  rw [BitVec.toNat_or, ofInt_u64 a ha, ofInt_u64 b hb, IntKind.wrap_u64]
  omega
theorem u64_and (a b : Nat) (ha : a < 18446744073709551616) (hb : b < 18446744073709551616) : bits .and .u64 (a : Int) (b : Int) = ((a &&& b : Nat) : Int) := by
  have hx : a &&& b < 2 ^ 64 := Nat.and_lt_two_pow _ (by omega)
  show IntKind.u64.wrap ((BitVec.ofInt 64 (a : Int) &&& BitVec.ofInt 64 (b : Int)).toNat : Int) = _
  rw [BitVec.toNat_and, ofInt_u64 a ha, ofInt_u64 b hb, IntKind.wrap_u64]
  omega
/-- 's>>k&1', as the walk spells it. -/
theorem u64_bit (s k : Nat) (hs : s < 18446744073709551616) : bits .and .u64 ((s : Int) / 2 ^ k) 1 = if s.testBit k then 1 else 0 := by
  have e : (s : Int) / 2 ^ k = ((s / 2 ^ k : Nat) : Int) := by simp
  have h1 : s / 2 ^ k < 18446744073709551616 := Nat.lt_of_le_of_lt (Nat.div_le_self _ _) hs
  rw [e, show (1 : Int) = ((1 : Nat) : Int) from rfl, u64_and (s / 2 ^ k) 1 h1 (by omega)]
  rw [Nat.testBit_eq_decide_div_mod_eq, Nat.and_one_is_mod]
  have := Nat.mod_two_eq_zero_or_one (s / 2 ^ k)
  rcases this with h | h <;> simp [h]
theorem u64_bit1 (s k : Nat) (hs : s < 18446744073709551616) : (bits .and .u64 ((s : Int) / 2 ^ k) 1 == 1) = s.testBit k := by
  rw [u64_bit s k hs]; cases s.testBit k <;> simp
theorem u64_bit0 (s k : Nat) (hs : s < 18446744073709551616) : (bits .and .u64 ((s : Int) / 2 ^ k) 1 == 0) = !s.testBit k := by
  rw [u64_bit s k hs]; cases s.testBit k <;> simp

theorem u64_wrap_pow (k : Nat) (hk : k < 64) : IntKind.u64.wrap (2 ^ k) = ((2 ^ k : Nat) : Int) := by
  have := pow_lt64 hk
  rw [IntKind.wrap_u64]
  have e : (2 : Int) ^ k = ((2 ^ k : Nat) : Int) := by simp
  rw [e]
  generalize (2 ^ k : Nat) = m at *
  omega
/-- 's | 1<<k', as the walk spells it. -/
theorem u64_or_pow (s k : Nat) (hs : s < 18446744073709551616) (hk : k < 64) : bits .or .u64 (s : Int) (IntKind.u64.wrap (2 ^ k)) = ((s ||| 2 ^ k : Nat) : Int) := by
  rw [u64_wrap_pow k hk, u64_or s (2 ^ k) hs (pow_lt64 hk)]

end Go.Proofs.YtdlhfihddipjaacDoor
