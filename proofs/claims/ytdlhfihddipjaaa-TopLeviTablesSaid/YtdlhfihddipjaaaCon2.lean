/-
  The law TopLevi.
-/
import Derived.Test.YtdlhfihddipjaaaCon
namespace Go.Proofs.Ytdlhfihddipjaaa
open Go.RowKit

theorem bestOf_lt2 {m : Nat} {r : List Int} (hr : Ranks m r) (s : Nat) : bestOf r s < 2 ^ 2 ^ m := by have := bestOf_lt r s; rwa [hr.1] at this
theorem pow64 {m : Nat} (hm : m ≤ 4) : 2 ^ 2 ^ m ≤ 18446744073709551616 := by
  have := pow_small hm
  exact Nat.pow_le_pow_right (n := 2) (by omega) (show 2 ^ m ≤ 64 by omega)
theorem brOf_lt {m : Nat} {r : List Int} (hr : Ranks m r) {k : Nat} (hk : k < 2 ^ 2 ^ m) (x : Nat) : brOf m k r x < 2 ^ 2 ^ m := by
  unfold brOf
  split
  · exact hk
  · exact Nat.or_lt_two_pow hk (bestOf_lt2 hr _)

set_option maxHeartbeats 1000000 in
theorem conByRanks_ok (w : World) (v : Value) (m x : Nat) (r : List Int) (h : Ints .i64 w v r) (hm : m ≤ 4) (hr : Ranks m r) (hx : x < 2 ^ 2 ^ m) :
    Calls Try.prog 37 #[.int .i64 m, v, .int .u64 x] w fun e w' => e = .returned (.tuple #[.int .u64 (brOf m (bestOf r (full (2 ^ m))) r x : Nat), .int .i64 0]) ∧ Ext w w' := by
  have C1 := Lib.hid (belief_ok w v m r h hm hr)
  have C2 := Lib.hid (conAll_ok w m hm)
  have C3 := Lib.hid (byRanks_ok w v m (bestOf r (full (2 ^ m))) x r h hm hr (bestOf_lt2 hr _) hx)
  have hp := pow64 hm
  have ha := u64_andNot x (full (2 ^ m)) (by omega) (full_lt64 (by have := pow_small hm; omega))
  rw [sdiff_full.2 hx] at ha
  obtain ⟨f, hf⟩ : ∃ f, f = full (2 ^ m) := ⟨_, rfl⟩
  rw [← hf] at C1 C2 C3 ha ⊢
  clear hf hr h hx hp
  go_enter Try.func37, Try.ntmps37
  go_wp2_with fail
  refine C1.out.mono ?_
  rintro e w1 ⟨rfl, rfl⟩
  go_wp2_with fail
  refine C2.out.mono ?_
  rintro e w1 ⟨rfl, rfl⟩
  go_wp2_with fail
  refine C3.out.mono ?_
  rintro e w1 ⟨rfl, hx⟩
  go_wp2
  go_ret2
  exact ⟨rfl, hx⟩

/-! ### the identities -/
theorem nat_bits {x y : Nat} (h : ∀ j, x.testBit j = true ↔ y.testBit j = true) : x = y :=
  Nat.eq_of_testBit_eq fun j => Bool.eq_iff_iff.2 (h j)
theorem and_bit {x y j : Nat} : (x &&& y).testBit j = true ↔ x.testBit j = true ∧ y.testBit j = true := by rw [Nat.testBit_and, Bool.and_eq_true]
theorem or_bit {x y j : Nat} : (x ||| y).testBit j = true ↔ x.testBit j = true ∨ y.testBit j = true := by rw [Nat.testBit_or, Bool.or_eq_true]
theorem sdiff_bit' {x y j : Nat} : (sdiff x y).testBit j = true ↔ x.testBit j = true ∧ ¬ y.testBit j = true := by rw [sdiff_bit]; simp
theorem full_bit' {N j : Nat} : (full N).testBit j = true ↔ j < N := by rw [full_bit]; simp
theorem bit_lt {x N j : Nat} (h : x < 2 ^ N) (hb : x.testBit j = true) : j < N := by
  rcases Nat.lt_or_ge j N with h1 | h1
  · exact h1
  · rw [lt_pow_iff.1 h j h1] at hb; cases hb
theorem sdiff_zero {x y : Nat} : sdiff x y = 0 ↔ ∀ j, x.testBit j = true → y.testBit j = true := by
  constructor
  · intro h j hj
    apply Classical.byContradiction
    intro hn
    have := sdiff_bit'.2 ⟨hj, hn⟩
    rw [h, Nat.zero_testBit] at this; cases this
  · intro h
    refine nat_bits fun j => ?_
    rw [Nat.zero_testBit, sdiff_bit']
    constructor
    · rintro ⟨h1, h2⟩; exact absurd (h j h1) h2
    · intro h; cases h
theorem idleB_iff {m k x : Nat} : idleB m k x = true ↔ ¬ (∀ j, k.testBit j = true → x.testBit j = true) ∨ x = full (2 ^ m) := by
  unfold idleB
  rw [Bool.or_eq_true, decide_eq_true_eq, decide_eq_true_eq, Ne, sdiff_zero]

section
variable {m : Nat} {r : List Int} (hr : Ranks m r) {x : Nat}
include hr
/-- the least of all, met with a set that meets it, are the least of that set -/
theorem best_meets (h : ∃ j, (bestOf r (full (2 ^ m))).testBit j = true ∧ x.testBit j = true) : bestOf r x = bestOf r (full (2 ^ m)) &&& x := by
  obtain ⟨j0, h0, h1⟩ := h
  rw [bestOf_bit, hr.1] at h0
  refine nat_bits fun j => ?_
  rw [and_bit, bestOf_bit, bestOf_bit, hr.1]
  simp only [full_bit'] at *
  constructor
  · rintro ⟨a, b, c⟩
    exact ⟨⟨a, a, fun u hu _ => by have := c j0 h0.1 h1; have := h0.2.2 u hu hu; omega⟩, b⟩
  · rintro ⟨⟨a, _, c⟩, b⟩
    exact ⟨a, b, fun u hu _ => c u hu hu⟩
theorem levi_eq (hx : x < 2 ^ 2 ^ m) : bestOf r x = brOf m (bestOf r (full (2 ^ m))) r (sdiff (full (2 ^ m)) x) &&& x := by
  unfold brOf
  have hdd : sdiff (full (2 ^ m)) (sdiff (full (2 ^ m)) x) = x := nat_bits fun j => by
    simp only [sdiff_bit', full_bit']
    constructor
    · rintro ⟨a, b⟩; exact Classical.byContradiction fun h => b ⟨a, h⟩
    · intro h; exact ⟨bit_lt hx h, fun ⟨_, b⟩ => b h⟩
  rw [hdd]
  by_cases hm : ∃ j, (bestOf r (full (2 ^ m))).testBit j = true ∧ x.testBit j = true
  · have hid : idleB m (bestOf r (full (2 ^ m))) (sdiff (full (2 ^ m)) x) = true := by
      rw [idleB_iff]
      left
      obtain ⟨j, h1, h2⟩ := hm
      intro h
      exact (sdiff_bit'.1 (h j h1)).2 h2
    rw [if_pos hid]
    exact best_meets hr hm
  · have hno : bestOf r (full (2 ^ m)) &&& x = 0 := nat_bits fun j => by
      rw [and_bit, Nat.zero_testBit]
      exact ⟨fun h => absurd ⟨j, h⟩ hm, fun h => by cases h⟩
    by_cases hid : idleB m (bestOf r (full (2 ^ m))) (sdiff (full (2 ^ m)) x) = true
    · rw [if_pos hid, hno]
      rw [idleB_iff] at hid
      rcases hid with hid | hid
      · refine absurd (fun j hj => ?_) hid
        rw [sdiff_bit', full_bit']
        exact ⟨bit_lt (bestOf_lt2 hr _) hj, fun h => hm ⟨j, hj, h⟩⟩
      · have hx0 : ∀ j, ¬ x.testBit j = true := fun j h => by
          have := full_bit'.2 (bit_lt hx h)
          rw [← hid] at this
          exact (sdiff_bit'.1 this).2 h
        refine nat_bits fun j => ?_
        rw [bestOf_bit, Nat.zero_testBit]
        exact ⟨fun h => absurd h.2.1 (hx0 j), fun h => by cases h⟩
    · rw [if_neg hid]
      refine nat_bits fun j => ?_
      rw [and_bit, or_bit]
      constructor
      · intro h; exact ⟨.inr h, ((bestOf_bit r x j).1 h).2.1⟩
      · rintro ⟨h | h, hx'⟩
        · exact absurd ⟨j, h, hx'⟩ hm
        · exact h
theorem harper_eq : brOf m (bestOf r (full (2 ^ m))) r x = bestOf r (full (2 ^ m)) ||| bestOf r (sdiff (full (2 ^ m)) x) := by
  unfold brOf
  by_cases hid : idleB m (bestOf r (full (2 ^ m))) x = true
  · rw [if_pos hid]
    rw [idleB_iff] at hid
    refine nat_bits fun j => ?_
    rw [or_bit]
    refine ⟨.inl, fun h => h.elim id fun h => ?_⟩
    rcases hid with hid | hid
    · have hm : ∃ j, (bestOf r (full (2 ^ m))).testBit j = true ∧ (sdiff (full (2 ^ m)) x).testBit j = true := by
        apply Classical.byContradiction
        intro hn
        refine hid fun j hj => Classical.byContradiction fun hx' => hn ⟨j, hj, sdiff_bit'.2 ⟨full_bit'.2 (bit_lt (bestOf_lt2 hr _) hj), hx'⟩⟩
      rw [best_meets hr hm, and_bit] at h
      exact h.1
    · have := ((bestOf_bit r _ j).1 h).2.1
      rw [hid] at this
      exact absurd (sdiff_bit'.1 this).1 (sdiff_bit'.1 this).2
  · rw [if_neg hid]
end

set_option maxRecDepth 100000 in
set_option maxHeartbeats 1000000 in
theorem cAwake20_any (w : World) : Calls Try.prog 33 #[] w fun e w' => e = .returned (.bool true) ∧ Ext w w' := by
  have hr : Ranks 2 [2, 1, 1, 0] := by constructor <;> decide
  go_enter Try.func33, Try.ntmps33
  go_wp2_with fail
  refine (conByRanks_ok _ _ 2 10 [2, 1, 1, 0] ?h1 (by decide) hr (by decide)).mono ?_
  case h1 => exact Ints.lit w [2, 1, 1, 0] _ rfl (by decide) (by decide)
  rintro e w1 ⟨rfl, hx⟩
  have hX := ((Ext.refl w).alloc (.cells #[.int .i64 2, .int .i64 1, .int .i64 1, .int .i64 0] 3)).trans hx
  have hp := (Ints.lit (k := .i64) w [2, 1, 1, 0] 3 rfl (by decide) (by decide)).ext hx
  have e1 : ((brOf 2 (bestOf [2, 1, 1, 0] (full (2 ^ 2))) [2, 1, 1, 0] 10 : Nat) : Int) = 12 := by decide
  rw [e1]
  clear hx e1
  go_wp2_with fail
  refine (revise_ok _ _ 2 5 [2, 1, 1, 0] hp (by decide) hr (by decide)).mono ?_
  rintro e w2 ⟨rfl, rfl⟩
  have e1 : ((bestOf [2, 1, 1, 0] 5 : Nat) : Int) = 4 := by decide
  rw [e1]
  clear e1
  go_wp2_with fail
  go_ret
  exact ⟨rfl, hX⟩

set_option maxRecDepth 100000 in
set_option maxHeartbeats 4000000 in
theorem levi_any (w : World) (v : Value) (n : Int) (r : List Int) (x0 : Nat) (h : Ints .i64 w v r) (hx0 : x0 < 18446744073709551616) :
    Calls Try.prog 8 #[.int .i64 n, v, .int .u64 x0] w fun e w' => e = .returned (.bool true) ∧ Ext w w' := by
  have H := Lib.hid h
  obtain ⟨A, c, rfl, hs, hf⟩ := h
  have hle := hs.le
  have hcap := hs.cap
  clear hs hf
  by_cases hbig : 16 < r.length
  · clear hx0
    go_enter Try.func8, Try.ntmps8
    go_wp2_with fail
    refine (cAwake20_any _).mono ?_
    rintro e w1 ⟨rfl, hX⟩
    go_wp2_with fail
    refine (cAwake20_any _).mono ?_
    rintro e w2 ⟨rfl, hy⟩
    go_wp2_with fail
    go_ret
    exact ⟨rfl, hX.trans hy⟩
  · by_cases hok : RevOk n r
    · obtain ⟨m, rfl, hm, hr⟩ := hok
      have h64 := pow64 hm
      obtain ⟨f, hf⟩ : ∃ f, f = full (2 ^ m) := ⟨_, rfl⟩
      have hflt : f < 2 ^ 2 ^ m := by rw [hf]; exact full_lt _
      obtain ⟨x, hx⟩ : ∃ x, x = x0 &&& f := ⟨_, rfl⟩
      have hxlt : x < 2 ^ 2 ^ m := by rw [hx, Nat.and_comm]; exact and_lt hflt
      obtain ⟨d, hd⟩ : ∃ d, d = sdiff f x := ⟨_, rfl⟩
      have hdlt : d < 2 ^ 2 ^ m := by rw [hd]; exact sdiff_lt hflt
      have hand := u64_and x0 f hx0 (by omega)
      rw [← hx] at hand
      have hsd := u64_andNot f x (by omega) (by omega)
      rw [← hd] at hsd
      have hl := levi_eq hr hxlt
      have hh := harper_eq hr (x := x)
      rw [← hf, ← hd] at hl hh
      have b1 := brOf_lt hr (bestOf_lt2 hr f) d
      have b2 := bestOf_lt2 hr d
      have b3 := bestOf_lt2 hr f
      have b4 := brOf_lt hr (bestOf_lt2 hr f) x
      obtain ⟨less, hless⟩ : ∃ z, z = brOf m (bestOf r f) r d := ⟨_, rfl⟩
      obtain ⟨more, hmore⟩ : ∃ z, z = bestOf r x := ⟨_, rfl⟩
      obtain ⟨back, hback⟩ : ∃ z, z = bestOf r d := ⟨_, rfl⟩
      obtain ⟨k, hk⟩ : ∃ z, z = bestOf r f := ⟨_, rfl⟩
      obtain ⟨given, hgiven⟩ : ∃ z, z = brOf m (bestOf r f) r x := ⟨_, rfl⟩
      rw [← hless, ← hmore] at hl
      rw [← hgiven, ← hk, ← hback] at hh
      have e1 := u64_and less x (by rw [hless]; omega) (by omega)
      rw [← hl] at e1
      have e2 := u64_or k back (by rw [hk]; omega) (by rw [hback]; omega)
      rw [← hh] at e2
      have Hm := Lib.hid hmore
      have Hb := Lib.hid hback
      have Hk := Lib.hid hk
      have Hl := Lib.hid hless
      have Hg := Lib.hid hgiven
      have Hf := Lib.hid hf
      have Hr := Lib.hid hr
      have Hxlt := Lib.hid hxlt
      have Hdlt := Lib.hid hdlt
      have H64 := Lib.hid h64
      clear hmore hback hk hless hgiven hf hr hx hd hl hh b1 b2 b3 b4 hxlt hdlt hflt h64 hx0
      go_enter Try.func8, Try.ntmps8
      go_wp2_with fail
      refine (cAwake20_any _).mono ?_
      rintro e w1 ⟨rfl, hX⟩
      go_wp2_with fail
      refine (revCheck_ok _ _ m r (H.out.ext hX) hm Hr.out).mono ?_
      rintro e w2 ⟨rfl, rfl⟩
      go_wp2_with fail
      refine (refAll40_ok _ m hm).mono ?_
      rintro e w2 ⟨rfl, rfl⟩
      rw [← Hf.out]
      go_wp2_with fail
      refine (belief_ok _ _ m r (H.out.ext hX) hm Hr.out).mono ?_
      rintro e w2 ⟨rfl, rfl⟩
      rw [← Hf.out, ← Hk.out]
      go_wp2_with fail
      refine (conByRanks_ok _ _ m d r (H.out.ext hX) hm Hr.out Hdlt.out).mono ?_
      rintro e w2 ⟨rfl, hy⟩
      have hX := hX.trans hy
      rw [← Hf.out, ← Hl.out]
      clear hy
      go_wp2_with fail
      refine (revise_ok _ _ m x r (H.out.ext hX) hm Hr.out Hxlt.out).mono ?_
      rintro e w3 ⟨rfl, rfl⟩
      rw [← Hm.out]
      go_wp2_with fail
      refine (revise_ok _ _ m d r (H.out.ext hX) hm Hr.out Hdlt.out).mono ?_
      rintro e w3 ⟨rfl, rfl⟩
      rw [← Hb.out]
      go_wp2_with fail
      refine (conByRanks_ok _ _ m x r (H.out.ext hX) hm Hr.out Hxlt.out).mono ?_
      rintro e w3 ⟨rfl, hy⟩
      have hX := hX.trans hy
      rw [← Hf.out, ← Hg.out]
      clear hy
      have t1 : ((more : Int) == (more : Int)) = true := by simp
      have t2 : ((given : Int) == (given : Int)) = true := by simp
      go_wp2_with fail
      go_ret
      exact ⟨rfl, hX⟩
    · clear hx0
      go_enter Try.func8, Try.ntmps8
      go_wp2_with fail
      refine (cAwake20_any _).mono ?_
      rintro e w1 ⟨rfl, hX⟩
      go_wp2_with fail
      refine (revCheck_bad _ _ n r (H.out.ext hX) hok).mono ?_
      rintro e w2 ⟨cc, hcc, rfl, rfl⟩
      have t : (cc != 0) = true := by rw [bne_iff_ne]; exact hcc
      clear hcc
      go_wp2_with fail
      refine (cAwake20_any _).mono ?_
      rintro e w2 ⟨rfl, hy⟩
      go_wp2_with fail
      go_ret
      exact ⟨rfl, hX.trans hy⟩

end Go.Proofs.Ytdlhfihddipjaaa
