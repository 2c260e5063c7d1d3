/-
  Plain: the lowest bit of a number; sets as numbers; what is reached.
-/
import Derived.Test.YtdlhfihddipjaacDoorAgE
import Derived.Test.YtdlhfihddipjaacDoorAgM
namespace Go.Proofs.YtdlhfihddipjaacDoor
open Go.RowKit

theorem bit_ex {x N : Nat} (hx : x < 2 ^ N) (h : x ≠ 0) : ∃ v, v < N ∧ x.testBit v = true := by
  refine Classical.byContradiction fun hn => h ?_
  refine Nat.eq_of_testBit_eq fun v => ?_
  rw [Nat.zero_testBit]
  cases hb : x.testBit v with
  | false => rfl
  | true =>
    by_cases hv : v < N
    · exact absurd ⟨v, hv, hb⟩ hn
    · rw [lt_pow_iff.1 hx v (by omega)] at hb; exact absurd hb (by decide)
theorem low_ex {x N : Nat} (hx : x < 2 ^ N) (h : x ≠ 0) : ∃ v, v < N ∧ x.testBit v = true ∧ ∀ j, j < v → x.testBit j = false := by
  obtain ⟨v, hv, hb⟩ := bit_ex hx h
  refine ⟨lowest x.testBit v, by have := lowest_le x.testBit v; omega, lowest_holds (P := x.testBit) hb, fun j hj => lowest_least (P := x.testBit) hj⟩
theorem low_mod {x v : Nat} (hb : x.testBit v = true) (hl : ∀ j, j < v → x.testBit j = false) : x % 2 ^ (v + 1) = 2 ^ v := by
  refine Nat.eq_of_testBit_eq fun i => ?_
  rw [Nat.testBit_mod_two_pow, Nat.testBit_two_pow]
  by_cases h1 : i < v
  · rw [hl i h1]; simp; omega
  · by_cases h2 : i = v
    · subst h2; rw [hb]; simp
    · have h3 : ¬ i < v + 1 := by omega
      have h4 : ¬ v = i := by omega
      simp [h3, h4]
theorem low_pred {x v : Nat} (hb : x.testBit v = true) (hl : ∀ j, j < v → x.testBit j = false) (i : Nat) : (x - 1).testBit i = if i < v then true else if i = v then false else x.testBit i := by
  have hm := low_mod hb hl
  have hd := Nat.div_add_mod x (2 ^ (v + 1))
  rw [hm] at hd
  have hp := Nat.two_pow_pos v
  have hp2 : 2 ^ v < 2 ^ (v + 1) := by rw [Nat.pow_succ]; omega
  obtain ⟨q, hq⟩ : ∃ q, q = x / 2 ^ (v + 1) := ⟨_, rfl⟩
  rw [← hq] at hd
  have hx1 : x - 1 = 2 ^ (v + 1) * q + (2 ^ v - 1) := by omega
  rw [hx1, Nat.testBit_two_pow_mul_add _ (by omega)]
  by_cases h1 : i < v
  · rw [if_pos (by omega), if_pos h1, Nat.testBit_two_pow_sub_one]; simp [h1]
  · rw [if_neg h1]
    by_cases h2 : i = v
    · subst h2; rw [if_pos (by omega), if_pos rfl, Nat.testBit_two_pow_sub_one]; simp
    · rw [if_neg (by omega), if_neg h2]
      conv => rhs; rw [← hd]
      rw [Nat.testBit_two_pow_mul_add _ hp2, if_neg (by omega)]
/-- The lowest bit, as the program finds it. -/
theorem low_and {x v : Nat} (hx : x < 2 ^ 64) (h0 : x ≠ 0) (hb : x.testBit v = true) (hl : ∀ j, j < v → x.testBit j = false) : x &&& (2 ^ 64 - x) = 2 ^ v := by
  refine Nat.eq_of_testBit_eq fun i => ?_
  have hv : v < 64 := Classical.byContradiction fun hn => by rw [lt_pow_iff.1 hx v (by omega)] at hb; exact absurd hb (by decide)
  rw [Nat.testBit_and, show 2 ^ 64 - x = 2 ^ 64 - ((x - 1) + 1) by omega, Nat.testBit_two_pow_sub_succ (by omega), low_pred hb hl, Nat.testBit_two_pow]
  by_cases h1 : i < v
  · rw [hl i h1]; simp; omega
  · rw [if_neg h1]
    by_cases h2 : i = v
    · subst h2; rw [if_pos rfl, hb]; simp [hv]
    · rw [if_neg h2]
      have h4 : ¬ v = i := by omega
      cases x.testBit i <;> simp [h4]
/-- The lowest bit struck. -/
theorem low_strike {x v : Nat} (hb : x.testBit v = true) (hl : ∀ j, j < v → x.testBit j = false) (i : Nat) : (x &&& (x - 1)).testBit i = (x.testBit i && !decide (i = v)) := by
  rw [Nat.testBit_and, low_pred hb hl]
  by_cases h1 : i < v
  · rw [hl i h1]; simp
  · rw [if_neg h1]
    by_cases h2 : i = v
    · subst h2; simp
    · rw [if_neg h2]; simp [h2]
theorem sub_le {a b : Nat} (h : ∀ i, a.testBit i = true → b.testBit i = true) : a ≤ b := by
  have : a &&& b = a := by
    refine Nat.eq_of_testBit_eq fun i => ?_
    rw [Nat.testBit_and]
    cases h1 : a.testBit i with
    | false => rfl
    | true => rw [h i h1]; rfl
  rw [← this]; exact Nat.and_le_right
theorem sub_lt {a b v : Nat} (h : ∀ i, a.testBit i = true → b.testBit i = true) (h1 : a.testBit v = false) (h2 : b.testBit v = true) : a < b := by
  have := sub_le h
  have hne : a ≠ b := fun q => by rw [q, h2] at h1; exact absurd h1 (by decide)
  omega

/-- What is reached: O was met, T of it is still to be followed. -/
structure Rch (n k : Nat) (C : List (List Int)) (B O T : Nat) : Prop where
  sub : ∀ i, T.testBit i = true → O.testBit i = true
  inB : ∀ i, O.testBit i = true → B.testBit i = true
  has : O.testBit k = true
  cl : ∀ v, O.testBit v = true → T.testBit v = false → ∀ a, a < C.length → ∀ u, u < n → nth (nthL C a) u = nth (nthL C a) v → O.testBit u = true
/-- The same within a round, at world v: the first a agents are followed. -/
structure RchV (n k : Nat) (C : List (List Int)) (B O T v a : Nat) : Prop where
  sub : ∀ i, T.testBit i = true → O.testBit i = true
  inB : ∀ i, O.testBit i = true → B.testBit i = true
  has : O.testBit k = true
  hv : O.testBit v = true
  nv : T.testBit v = false
  cl : ∀ u, O.testBit u = true → T.testBit u = false → u ≠ v → ∀ b, b < C.length → ∀ i, i < n → nth (nthL C b) i = nth (nthL C b) u → O.testBit i = true
  clv : ∀ b, b < a → ∀ i, i < n → nth (nthL C b) i = nth (nthL C b) v → O.testBit i = true
theorem Rch.start {n k : Nat} {C : List (List Int)} {B : Nat} (hB : B.testBit k = true) : Rch n k C B (2 ^ k) (2 ^ k) := by
  have h : ∀ i, (2 ^ k).testBit i = true → i = k := fun i hi => by
    rw [Nat.testBit_two_pow] at hi; simpa using Eq.symm (of_decide_eq_true hi)
  refine ⟨fun i hi => hi, fun i hi => by rw [h i hi]; exact hB, by rw [Nat.testBit_two_pow]; simp, fun v h1 h2 => by rw [h1] at h2; exact absurd h2 (by decide)⟩
theorem Rch.enter {n k : Nat} {C : List (List Int)} {B O T v : Nat} (h : Rch n k C B O T) (hb : T.testBit v = true) (hl : ∀ j, j < v → T.testBit j = false) : RchV n k C B O (T &&& (T - 1)) v 0 := by
  have hs := low_strike hb hl
  refine ⟨fun i hi => h.sub i ?_, h.inB, h.has, h.sub v hb, by rw [hs]; simp, fun u h1 h2 hne => h.cl u h1 ?_, fun b hb' => absurd hb' (by omega)⟩
  · rw [hs] at hi; simp at hi; exact hi.1
  · rw [hs] at h2
    cases hq : T.testBit u with
    | false => rfl
    | true => rw [hq] at h2; simp at h2; exact absurd h2 hne
theorem RchV.step {n k : Nat} {C : List (List Int)} {B O T v a : Nat} (h : RchV n k C B O T v a) (ha : a < C.length) (hvn : v < n) (hc : (nthL C a).length = n)
    (hsat : ∀ i u, i < n → u < n → nth (nthL C a) i = nth (nthL C a) u → B.testBit i = B.testBit u) : RchV n k C B (O ||| blockOf (nthL C a) v) (T ||| sdiff (blockOf (nthL C a) v) O) v (a + 1) := by
  have hblk : ∀ i, (blockOf (nthL C a) v).testBit i = true ↔ i < n ∧ nth (nthL C a) i = nth (nthL C a) v := fun i => by
    rw [blockOf_bit, hc]; simp
  have mono : ∀ i, O.testBit i = true → (O ||| blockOf (nthL C a) v).testBit i = true := fun i hi => by rw [Nat.testBit_or, hi]; rfl
  have old : ∀ u, (O ||| blockOf (nthL C a) v).testBit u = true → (T ||| sdiff (blockOf (nthL C a) v) O).testBit u = false → O.testBit u = true ∧ T.testBit u = false := fun u h1 h2 => by
    rw [Nat.testBit_or, sdiff_bit] at h2
    rw [Nat.testBit_or] at h1
    cases hO : O.testBit u <;> cases hT : T.testBit u <;> cases hB : (blockOf (nthL C a) v).testBit u <;> simp_all
  refine ⟨fun i hi => ?_, fun i hi => ?_, mono k h.has, mono v h.hv, ?_, fun u h1 h2 hne b hb i hi hij => ?_, fun b hb i hi hij => ?_⟩
  · rw [Nat.testBit_or, sdiff_bit] at hi
    rw [Nat.testBit_or]
    cases hT : T.testBit i with
    | true => rw [h.sub i hT]; rfl
    | false => rw [hT] at hi; simp at hi; rw [hi.1]; simp
  · rw [Nat.testBit_or] at hi
    cases hO : O.testBit i with
    | true => exact h.inB i hO
    | false =>
      rw [hO, Bool.false_or] at hi
      obtain ⟨h1, h2⟩ := (hblk i).1 hi
      rw [hsat i v h1 hvn h2]; exact h.inB v h.hv
  · rw [Nat.testBit_or, sdiff_bit, h.nv, h.hv]; simp
  · obtain ⟨h3, h4⟩ := old u h1 h2
    exact mono i (h.cl u h3 h4 hne b hb i hi hij)
  · by_cases hba : b = a
    · subst hba
      rw [Nat.testBit_or, (hblk i).2 ⟨hi, hij⟩]; simp
    · exact mono i (h.clv b (by omega) i hi hij)
theorem RchV.leave {n k : Nat} {C : List (List Int)} {B O T v : Nat} (h : RchV n k C B O T v C.length) : Rch n k C B O T :=
  ⟨h.sub, h.inB, h.has, fun u h1 h2 a ha i hi hij => by
    by_cases q : u = v
    · subst q; exact h.clv a ha i hi hij
    · exact h.cl u h1 h2 q a ha i hi hij⟩
/-- Nothing is left to follow: what is reached is the block of the common partition. -/
theorem Rch.done {n k : Nat} {C : List (List Int)} {j : List Int} {O : Nat} (hC : ∀ a, a < C.length → Prt n (nthL C a)) (hj : IsComm n C j) (hk : k < n) (h : Rch n k C (blockOf j k) O 0) : O = blockOf j k := by
  have hcl : ∀ a, a < C.length → ∀ u v, u < n → v < n → nth (nthL C a) u = nth (nthL C a) v → O.testBit u = O.testBit v := fun a ha u v hu hv huv => by
    cases h1 : O.testBit u <;> cases h2 : O.testBit v <;> try rfl
    · rw [h.cl v h2 (Nat.zero_testBit v) a ha u hu huv] at h1; exact absurd h1 (by decide)
    · rw [h.cl u h1 (Nat.zero_testBit u) a ha v hv huv.symm] at h2; exact absurd h2 (by decide)
  have hall : ∀ u v, u < n → v < n → nth j u = nth j v → O.testBit u = O.testBit v := by
    intro u v hu hv huv
    have := comm_const hj hC (fun i => ((if O.testBit i then 1 else 0 : Nat), 0)) (fun a ha i i' hi hi' hii => by rw [hcl a ha i i' hi hi' hii]) hu hv huv
    have h1 := congrArg Prod.fst this
    dsimp only at h1
    cases h2 : O.testBit u <;> cases h3 : O.testBit v <;> simp_all
  refine Nat.eq_of_testBit_eq fun i => ?_
  cases hb : (blockOf j k).testBit i with
  | false =>
    cases ho : O.testBit i with
    | false => rfl
    | true => rw [h.inB i ho] at hb; exact absurd hb (by decide)
  | true =>
    rw [blockOf_bit, hj.prt.1] at hb
    simp at hb
    rw [hall i k hb.1 hk hb.2]; exact h.has

end Go.Proofs.YtdlhfihddipjaacDoor
