/-
  Contract of the reference of the package ranking: Believes.
-/
import Derived.Test.YtdlhfihddipjaabRk11p
namespace Go.Proofs.Ytdlhfihddipjaab
open Go.RowKit

theorem and_sdiff_zero {q s : Nat} (h1 : q &&& s = 0) (h2 : sdiff q s = 0) : q = 0 := by
  apply Nat.eq_of_testBit_eq
  intro i
  have e1 : (q &&& s).testBit i = false := by rw [h1]; simp
  have e2 : (sdiff q s).testBit i = false := by rw [h2]; simp
  rw [Nat.testBit_and] at e1
  rw [sdiff_bit] at e2
  rw [Nat.zero_testBit]
  cases hq : q.testBit i <;> cases hs : s.testBit i <;> simp [hq, hs] at e1 e2 ⊢

set_option maxRecDepth 100000 in
set_option maxHeartbeats 2000000 in
theorem refBelieves_any (w : World) (v : Value) (n : Int) (r : List Int) (q s : Nat) (h : Ints .i64 w v r) (hq64 : q < 18446744073709551616) (hs64 : s < 18446744073709551616) :
    Calls Try.prog 19 #[.int .i64 n, v, .int .u64 q, .int .u64 s] w fun e w' => e = .returned (.tuple #[.bool (belvR n r q s).1, .int .i64 (belvR n r q s).2]) ∧ w = w' := by
  have C1 := Lib.hid (sets37_any w v n r q s h hq64 hs64)
  unfold belvR belvB
  by_cases h0 : rkSets n r [q, s] = 0
  · obtain ⟨m, rfl, hm, hr, hl, hx⟩ := rkSets_zero h0
    have hqN := hx q (by simp)
    have hN := pow_lt64 (show r.length < 64 by omega)
    have h1 := u64_andNot q s hq64 hs64
    have h2 := u64_and q s hq64 hs64
    have hdN := sdiff_lt (y := s) hqN
    have haN := and_lt (y := s) hqN
    have hz := @and_sdiff_zero q s
    have hz2 : q = 0 → q &&& s = 0 ∧ sdiff q s = 0 := by rintro rfl; exact ⟨by simp, by apply Nat.eq_of_testBit_eq; intro i; rw [sdiff_bit]; simp⟩
    obtain ⟨d, hd⟩ : ∃ d, d = sdiff q s := ⟨_, rfl⟩
    obtain ⟨a, ha⟩ : ∃ a, a = q &&& s := ⟨_, rfl⟩
    rw [← hd] at h1 hdN hz hz2 ⊢
    rw [← ha] at h2 haN hz hz2 ⊢
    have C2 := rank37_any w v r a h hl hr.1.2 (Nat.lt_trans haN hN)
    have C3 := rank37_any w v r d h hl hr.1.2 (Nat.lt_trans hdN hN)
    rw [rref_eq hr haN] at C2
    rw [rref_eq hr hdN] at C3
    have i1 := rank_inf hr haN
    have i2 := rank_inf hr hdN
    have g1 := rankOf_le r a
    have g2 := rankOf_ge hr a
    have g3 := rankOf_le r d
    have g4 := rankOf_ge hr d
    rw [if_neg (by simpa using h0)]
    rw [h0] at C1
    obtain ⟨x, hx⟩ : ∃ x, x = rankOf r d := ⟨_, rfl⟩
    obtain ⟨y, hy⟩ : ∃ y, y = rankOf r a := ⟨_, rfl⟩
    rw [← hx] at C3 i2 g3 g4 ⊢
    rw [← hy] at C2 i1 g1 g2 ⊢
    clear h0 hx hy hd ha hr hs64 hq64 hqN hN h hdN haN
    by_cases e2 : d = 0
    · rw [if_pos e2] at C3
      have t : (decide (q = 0) || decide (y < x)) = true := by
        by_cases e : q = 0
        · simp [e]
        · have : a ≠ 0 := fun k => e (hz k e2)
          have := i2.2 e2
          have : y ≠ 1099511627776 := fun k => by have := i1.1 k; omega
          simp; omega
      rw [t]
      obtain ⟨yy, hyy⟩ : ∃ yy : Int, yy = if a = 0 then -1 else y := ⟨_, rfl⟩
      rw [← hyy] at C2
      have C2 := Lib.hid C2
      have C3 := Lib.hid C3
      clear t i1 i2 hz hz2 e2 hyy
      go_enter Try.func19, Try.ntmps19
      go_wp2_with fail
      refine C1.out.mono ?_
      rintro e w1 ⟨rfl, rfl⟩
      go_wp2_with fail
      refine C2.out.mono ?_
      rintro e w1 ⟨rfl, rfl⟩
      go_wp2_with fail
      refine C3.out.mono ?_
      rintro e w1 ⟨rfl, rfl⟩
      go_wp2_with fail
      go_ret2
      exact ⟨rfl, rfl⟩
    rw [if_neg e2] at C3
    have hq0 : q ≠ 0 := fun k => e2 (hz2 k).2
    have hne : x ≠ 1099511627776 := fun k => e2 (i2.1 k)
    have hx0 : decide (x < 0) = false := by rw [decide_eq_false_iff_not]; omega
    have hy0 : decide (0 ≤ y) = true := by rw [decide_eq_true_eq]; omega
    by_cases e1 : a = 0
    · rw [if_pos e1] at C2
      have hy1 := i1.2 e1
      have t : (decide (q = 0) || decide (y < x)) = false := by simp [hq0]; omega
      rw [t]
      have C2 := Lib.hid C2
      have C3 := Lib.hid C3
      clear t i1 i2 hz hz2 e2 e1 hq0 hne hy1
      go_enter Try.func19, Try.ntmps19
      go_wp2_with fail
      refine C1.out.mono ?_
      rintro e w1 ⟨rfl, rfl⟩
      go_wp2_with fail
      refine C2.out.mono ?_
      rintro e w1 ⟨rfl, rfl⟩
      go_wp2_with fail
      refine C3.out.mono ?_
      rintro e w1 ⟨rfl, rfl⟩
      go_wp2_with fail
      go_ret2
      exact ⟨rfl, rfl⟩
    · rw [if_neg e1] at C2
      have t : (decide (q = 0) || decide (y < x)) = decide (y < x) := by simp [hq0]
      rw [t]
      have C2 := Lib.hid C2
      have C3 := Lib.hid C3
      clear t i1 i2 hz hz2 e2 e1 hq0 hne
      go_enter Try.func19, Try.ntmps19
      go_wp2_with fail
      refine C1.out.mono ?_
      rintro e w1 ⟨rfl, rfl⟩
      go_wp2_with fail
      refine C2.out.mono ?_
      rintro e w1 ⟨rfl, rfl⟩
      go_wp2_with fail
      refine C3.out.mono ?_
      rintro e w1 ⟨rfl, rfl⟩
      go_wp2_with fail
      go_ret2
      exact ⟨rfl, rfl⟩
  · rw [if_pos (by simpa using h0)]
    have t : (rkSets n r [q, s] != 0) = true := by rw [bne_iff_ne]; exact h0
    obtain ⟨z, hz⟩ : ∃ z, z = rkSets n r [q, s] := ⟨_, rfl⟩
    rw [← hz] at t C1 ⊢
    clear h0 hz hs64 hq64 h
    go_enter Try.func19, Try.ntmps19
    go_wp2_with fail
    refine C1.out.mono ?_
    rintro e w1 ⟨rfl, rfl⟩
    go_wp2_with fail
    go_ret2
    exact ⟨rfl, rfl⟩

end Go.Proofs.Ytdlhfihddipjaab
