/-
  Contracts of the reference of the package ranking: Revise, Condition, Natural, Contract.
-/
import Derived.Test.YtdlhfihddipjaaaRank10
import Derived.Test.YtdlhfihddipjaaaRank12
namespace Go.Proofs.Ytdlhfihddipjaaa
open Go.RowKit

set_option maxRecDepth 100000 in
set_option maxHeartbeats 2000000 in
theorem refRevise_any (w : World) (v : Value) (n : Int) (r : List Int) (s : Nat) (h : Ints .i64 w v r) (hs64 : s < 18446744073709551616) :
    Calls Try.prog 44 #[.int .i64 n, v, .int .u64 s] w fun e w' => ∃ v', e = .returned (.tuple #[v', .int .i64 (revR n r s).2]) ∧ Ints .i64 w' v' (revR n r s).1 ∧ Ext w w' := by
  have C1 := sets37_any w v n r s 0 h hs64 (by omega)
  rw [rkSets_lit0] at C1
  have C1 := Lib.hid C1
  unfold revR
  by_cases h0 : rkSets n r [s] = 0
  · obtain ⟨m, rfl, hm, hr, hl, hx⟩ := rkSets_zero h0
    have C2 := rank37_any w v r s h hl hr.1.2 hs64
    rw [rref_eq hr (hx s (by simp))] at C2
    have g1 := rankOf_le r s
    have g2 := rankOf_ge hr s
    have C3 := Lib.hid (shift_any w v r s (-rankOf r s) 1 h hl hr.1.2 hs64 (by omega) (by omega))
    rw [if_neg (by simpa using h0)]
    rw [h0] at C1
    obtain ⟨q, hq⟩ : ∃ q, q = shL r (fun i => if s.testBit i then -rankOf r s else 1) r.length := ⟨_, rfl⟩
    rw [← hq] at C3 ⊢
    have hC4 : ∀ w1 v1, Ints .i64 w1 v1 q → Calls Try.prog 92 #[v1] w1 fun e w' => ∃ v', e = .returned (.tuple #[v', .int .i64 (limR q).2]) ∧ Ints .i64 w' v' (limR q).1 ∧ w1 = w' := fun w1 v1 h => limited_any w1 v1 q h
    have C4 := Lib.hid hC4
    obtain ⟨L, hL⟩ : ∃ L, L = limR q := ⟨_, rfl⟩
    rw [← hL] at C4 ⊢
    clear hL hq hC4
    by_cases e : s = 0
    · rw [if_pos e]
      have t : ((s : Int) == 0) = true := by rw [beq_iff_eq]; omega
      clear e h0 hr hx h hs64 C2
      go_enter Try.func44, Try.ntmps44
      go_wp2_with fail
      refine C1.out.mono ?_
      rintro e w1 ⟨rfl, rfl⟩
      go_wp2_with fail
      go_ret2
      exact ⟨.slice none 0 0, rfl, Ints.nil _ _, Ext.refl _⟩
    · rw [if_neg e]
      rw [if_neg e] at C2
      have C2 := Lib.hid C2
      have t : ((s : Int) == 0) = false := by rw [beq_eq_false_iff_ne]; omega
      obtain ⟨x, hxx⟩ : ∃ x, x = rankOf r s := ⟨_, rfl⟩
      rw [← hxx] at C2 C3 g1 g2
      clear hxx e h0 hr hx h hs64
      go_enter Try.func44, Try.ntmps44
      go_wp2_with fail
      refine C1.out.mono ?_
      rintro e w1 ⟨rfl, rfl⟩
      go_wp2_with fail
      refine C2.out.mono ?_
      rintro e w1 ⟨rfl, rfl⟩
      go_wp2_with fail
      refine C3.out.mono ?_
      rintro e w1 ⟨v1, rfl, hI, hy⟩
      go_wp2_with fail
      refine (C4.out w1 v1 hI).mono ?_
      rintro e w2 ⟨v2, rfl, hJ, rfl⟩
      go_wp2_with fail
      go_ret2
      exact ⟨_, rfl, hJ, hy⟩
  · rw [if_pos (by simpa using h0)]
    have t : (rkSets n r [s] != 0) = true := by rw [bne_iff_ne]; exact h0
    obtain ⟨z, hz⟩ : ∃ z, z = rkSets n r [s] := ⟨_, rfl⟩
    rw [← hz] at t C1 ⊢
    clear h0 hz hs64 h
    go_enter Try.func44, Try.ntmps44
    go_wp2_with fail
    refine C1.out.mono ?_
    rintro e w1 ⟨rfl, rfl⟩
    go_wp2_with fail
    go_ret2
    exact ⟨.slice none 0 0, rfl, Ints.nil _ _, Ext.refl _⟩

/-! more -/
theorem con_shift {m : Nat} {r : List Int} (hr : RkV m r) (s : Nat) : limR (shL r (fun i => if (sdiff (full r.length) s).testBit i then -rankOf r (sdiff (full r.length) s) else 0) r.length) = (shL r (fun i => if s.testBit i then 0 else -rankOf r (sdiff (full r.length) s)) r.length, 0) := by
  have e : shL r (fun i => if (sdiff (full r.length) s).testBit i then -rankOf r (sdiff (full r.length) s) else 0) r.length = shL r (fun i => if s.testBit i then 0 else -rankOf r (sdiff (full r.length) s)) r.length := by
    refine ext_nth (by rw [shL_len, shL_len]) fun i hi => ?_
    rw [shL_len] at hi
    rw [shL_nth hi, shL_nth hi, sdiff_bit, full_bit]
    cases s.testBit i <;> simp [hi]
  have g := rankOf_ge hr (sdiff (full r.length) s)
  rw [e]
  unfold limR
  rw [if_neg]
  rw [any_nth]
  rintro ⟨i, hi, hq⟩
  rw [shL_len] at hi
  rw [decide_eq_true_eq, shL_nth hi] at hq
  have := hr.1.2 i hi
  split at hq <;> omega

set_option maxRecDepth 100000 in
set_option maxHeartbeats 2000000 in
theorem refContract_any (w : World) (v : Value) (n : Int) (r : List Int) (s : Nat) (h : Ints .i64 w v r) (hs64 : s < 18446744073709551616) :
    Calls Try.prog 48 #[.int .i64 n, v, .int .u64 s] w fun e w' => ∃ v', e = .returned (.tuple #[v', .int .i64 (conR n r s).2]) ∧ Ints .i64 w' v' (conR n r s).1 ∧ Ext w w' := by
  have C1 := sets37_any w v n r s 0 h hs64 (by omega)
  rw [rkSets_lit0] at C1
  have C1 := Lib.hid C1
  unfold conR
  by_cases h0 : rkSets n r [s] = 0
  · obtain ⟨m, rfl, hm, hr, hl, hx⟩ := rkSets_zero h0
    have hd64 : sdiff (full r.length) s < 18446744073709551616 := Nat.lt_trans (sdiff_lt (full_lt _)) (pow_lt64 (by omega))
    have hsd := u64_andNot (full r.length) s (full_lt64 (by omega)) hs64
    have C3 := rank37_any w v r (sdiff (full r.length) s) h hl hr.1.2 hd64
    rw [rref_eq hr (sdiff_ne_inf r s)] at C3
    have C0 := refAll37_ok w m hm
    rw [← hr.1.1] at C0
    have C0 := Lib.hid C0
    have g3 := rankOf_le r (sdiff (full r.length) s)
    have g4 := rankOf_ge hr (sdiff (full r.length) s)
    have C4 := Lib.hid (shift_any w v r s 0 (-rankOf r (sdiff (full r.length) s)) h hl hr.1.2 hs64 (by omega) (by omega))
    rw [if_neg (by simpa using h0), con_shift hr]
    rw [h0] at C1
    obtain ⟨L, hL⟩ : ∃ L, L = shL r (fun i => if s.testBit i then 0 else -rankOf r (sdiff (full r.length) s)) r.length := ⟨_, rfl⟩
    rw [← hL] at C4 ⊢
    obtain ⟨d, hd⟩ : ∃ d, d = sdiff (full r.length) s := ⟨_, rfl⟩
    rw [← hd] at C3 C4 g3 g4 hsd ⊢
    obtain ⟨f, hf⟩ : ∃ f, f = full r.length := ⟨_, rfl⟩
    rw [← hf] at C0 hsd
    obtain ⟨y, hy⟩ : ∃ y, y = rankOf r d := ⟨_, rfl⟩
    rw [← hy] at C3 C4 g3 g4
    clear h0 hy hd hf hL hr hs64 hd64 h hx
    by_cases e2 : d = 0
    · rw [if_pos e2]
      rw [if_pos e2] at C3
      have C3 := Lib.hid C3
      clear e2 C4
      go_enter Try.func48, Try.ntmps48
      go_wp2_with fail
      refine C1.out.mono ?_
      rintro e w1 ⟨rfl, rfl⟩
      go_wp2_with fail
      refine C0.out.mono ?_
      rintro e w1 ⟨rfl, rfl⟩
      go_wp2_with fail
      refine C3.out.mono ?_
      rintro e w1 ⟨rfl, rfl⟩
      go_wp2_with fail
      go_ret2
      exact ⟨.slice none 0 0, rfl, Ints.nil _ _, Ext.refl _⟩
    · rw [if_neg e2]
      rw [if_neg e2] at C3
      have C3 := Lib.hid C3
      clear e2
      go_enter Try.func48, Try.ntmps48
      go_wp2_with fail
      refine C1.out.mono ?_
      rintro e w1 ⟨rfl, rfl⟩
      go_wp2_with fail
      refine C0.out.mono ?_
      rintro e w1 ⟨rfl, rfl⟩
      go_wp2_with fail
      refine C3.out.mono ?_
      rintro e w1 ⟨rfl, rfl⟩
      go_wp2_with fail
      refine C4.out.mono ?_
      rintro e w1 ⟨v1, rfl, hI, hy⟩
      go_wp2_with fail
      go_ret2
      exact ⟨_, rfl, hI, hy⟩
  · rw [if_pos (by simpa using h0)]
    have t : (rkSets n r [s] != 0) = true := by rw [bne_iff_ne]; exact h0
    obtain ⟨z, hz⟩ : ∃ z, z = rkSets n r [s] := ⟨_, rfl⟩
    rw [← hz] at t C1 ⊢
    clear h0 hz hs64 h
    go_enter Try.func48, Try.ntmps48
    go_wp2_with fail
    refine C1.out.mono ?_
    rintro e w1 ⟨rfl, rfl⟩
    go_wp2_with fail
    go_ret2
    exact ⟨.slice none 0 0, rfl, Ints.nil _ _, Ext.refl _⟩

set_option maxRecDepth 100000 in
set_option maxHeartbeats 2000000 in
theorem refCondition_any (w : World) (v : Value) (n : Int) (r : List Int) (s : Nat) (f : Int) (h : Ints .i64 w v r) (hs64 : s < 18446744073709551616) :
    Calls Try.prog 41 #[.int .i64 n, v, .int .u64 s, .int .i64 f] w fun e w' => ∃ v', e = .returned (.tuple #[v', .int .i64 (condR n r s f).2]) ∧ Ints .i64 w' v' (condR n r s f).1 ∧ Ext w w' := by
  have C1 := sets37_any w v n r s 0 h hs64 (by omega)
  rw [rkSets_lit0] at C1
  have C1 := Lib.hid C1
  unfold condR
  by_cases h0 : rkSets n r [s] = 0
  · obtain ⟨m, rfl, hm, hr, hl, hx⟩ := rkSets_zero h0
    have hd64 : sdiff (full r.length) s < 18446744073709551616 := Nat.lt_trans (sdiff_lt (full_lt _)) (pow_lt64 (by omega))
    have hsd := u64_andNot (full r.length) s (full_lt64 (by omega)) hs64
    have C2 := rank37_any w v r s h hl hr.1.2 hs64
    have C3 := rank37_any w v r (sdiff (full r.length) s) h hl hr.1.2 hd64
    rw [rref_eq hr (hx s (by simp))] at C2
    rw [rref_eq hr (sdiff_ne_inf r s)] at C3
    have C0 := refAll37_ok w m hm
    rw [← hr.1.1] at C0
    have C0 := Lib.hid C0
    have g1 := rankOf_le r s
    have g2 := rankOf_ge hr s
    have g3 := rankOf_le r (sdiff (full r.length) s)
    have g4 := rankOf_ge hr (sdiff (full r.length) s)
    rw [if_neg (by simpa using h0)]
    rw [h0] at C1
    by_cases f0 : f < 0
    · rw [if_pos (.inl f0)]
      clear C2 C3 C0 hsd g1 g2 g3 g4
      go_enter Try.func41, Try.ntmps41
      go_wp2_with fail
      refine C1.out.mono ?_
      rintro e w1 ⟨rfl, rfl⟩
      go_wp2_with fail
      go_ret2
      exact ⟨.slice none 0 0, rfl, Ints.nil _ _, Ext.refl _⟩
    by_cases f1 : 1000 < f
    · rw [if_pos (.inr f1)]
      clear C2 C3 C0 hsd g1 g2 g3 g4
      go_enter Try.func41, Try.ntmps41
      go_wp2_with fail
      refine C1.out.mono ?_
      rintro e w1 ⟨rfl, rfl⟩
      go_wp2_with fail
      go_ret2
      exact ⟨.slice none 0 0, rfl, Ints.nil _ _, Ext.refl _⟩
    rw [if_neg (by omega)]
    have C4 := Lib.hid (shift_any w v r s (-rankOf r s) (f - rankOf r (sdiff (full r.length) s)) h hl hr.1.2 hs64 (by omega) (by omega))
    obtain ⟨q, hq⟩ : ∃ q, q = shL r (fun i => if s.testBit i then -rankOf r s else f - rankOf r (sdiff (full r.length) s)) r.length := ⟨_, rfl⟩
    rw [← hq] at C4 ⊢
    have hC5 : ∀ w1 v1, Ints .i64 w1 v1 q → Calls Try.prog 92 #[v1] w1 fun e w' => ∃ v', e = .returned (.tuple #[v', .int .i64 (limR q).2]) ∧ Ints .i64 w' v' (limR q).1 ∧ w1 = w' := fun w1 v1 h => limited_any w1 v1 q h
    have C5 := Lib.hid hC5
    obtain ⟨L, hL⟩ : ∃ L, L = limR q := ⟨_, rfl⟩
    rw [← hL] at C5 ⊢
    obtain ⟨d, hd⟩ : ∃ d, d = sdiff (full r.length) s := ⟨_, rfl⟩
    rw [← hd] at C3 C4 g3 g4 hsd ⊢
    obtain ⟨u, hu⟩ : ∃ u, u = full r.length := ⟨_, rfl⟩
    rw [← hu] at C0 hsd
    obtain ⟨x, hx⟩ : ∃ x, x = rankOf r s := ⟨_, rfl⟩
    obtain ⟨y, hy⟩ : ∃ y, y = rankOf r d := ⟨_, rfl⟩
    rw [← hx] at C2 C4 g1 g2
    rw [← hy] at C3 C4 g3 g4
    clear h0 hx hy hd hu hr hs64 hd64 h hC5 hL hq
    by_cases e : s = 0
    · rw [if_pos (.inl e)]
      rw [if_pos e] at C2
      obtain ⟨yy, hyy⟩ : ∃ yy : Int, yy = if d = 0 then -1 else y := ⟨_, rfl⟩
      rw [← hyy] at C3
      have C2 := Lib.hid C2
      have C3 := Lib.hid C3
      clear e hyy C4 C5
      go_enter Try.func41, Try.ntmps41
      go_wp2_with fail
      refine C1.out.mono ?_
      rintro e w1 ⟨rfl, rfl⟩
      go_wp2_with fail
      refine C2.out.mono ?_
      rintro e w1 ⟨rfl, rfl⟩
      go_wp2_with fail
      refine C0.out.mono ?_
      rintro e w1 ⟨rfl, rfl⟩
      go_wp2_with fail
      refine C3.out.mono ?_
      rintro e w1 ⟨rfl, rfl⟩
      go_wp2_with fail
      go_ret2
      exact ⟨.slice none 0 0, rfl, Ints.nil _ _, Ext.refl _⟩
    rw [if_neg e] at C2
    by_cases e2 : d = 0
    · rw [if_pos (.inr e2)]
      rw [if_pos e2] at C3
      have C2 := Lib.hid C2
      have C3 := Lib.hid C3
      clear e e2 C4 C5
      go_enter Try.func41, Try.ntmps41
      go_wp2_with fail
      refine C1.out.mono ?_
      rintro e w1 ⟨rfl, rfl⟩
      go_wp2_with fail
      refine C2.out.mono ?_
      rintro e w1 ⟨rfl, rfl⟩
      go_wp2_with fail
      refine C0.out.mono ?_
      rintro e w1 ⟨rfl, rfl⟩
      go_wp2_with fail
      refine C3.out.mono ?_
      rintro e w1 ⟨rfl, rfl⟩
      go_wp2_with fail
      go_ret2
      exact ⟨.slice none 0 0, rfl, Ints.nil _ _, Ext.refl _⟩
    · rw [if_neg (by omega)]
      rw [if_neg e2] at C3
      have C2 := Lib.hid C2
      have C3 := Lib.hid C3
      have hw1 : wrap64 (-x) = -x := IntWalk.wrap64_in _ ⟨by omega, by omega⟩
      have hw2 : wrap64 (f - y) = f - y := IntWalk.wrap64_in _ ⟨by omega, by omega⟩
      clear e e2
      go_enter Try.func41, Try.ntmps41
      go_wp2_with fail
      refine C1.out.mono ?_
      rintro e w1 ⟨rfl, rfl⟩
      go_wp2_with fail
      refine C2.out.mono ?_
      rintro e w1 ⟨rfl, rfl⟩
      go_wp2_with fail
      refine C0.out.mono ?_
      rintro e w1 ⟨rfl, rfl⟩
      go_wp2_with fail
      refine C3.out.mono ?_
      rintro e w1 ⟨rfl, rfl⟩
      go_wp2_with fail
      refine C4.out.mono ?_
      rintro e w1 ⟨v1, rfl, hI, hy⟩
      go_wp2_with fail
      refine (C5.out w1 v1 hI).mono ?_
      rintro e w2 ⟨v2, rfl, hJ, rfl⟩
      go_wp2_with fail
      go_ret2
      exact ⟨_, rfl, hJ, hy⟩
  · rw [if_pos (by simpa using h0)]
    have t : (rkSets n r [s] != 0) = true := by rw [bne_iff_ne]; exact h0
    obtain ⟨z, hz⟩ : ∃ z, z = rkSets n r [s] := ⟨_, rfl⟩
    rw [← hz] at t C1 ⊢
    clear h0 hz hs64 h
    go_enter Try.func41, Try.ntmps41
    go_wp2_with fail
    refine C1.out.mono ?_
    rintro e w1 ⟨rfl, rfl⟩
    go_wp2_with fail
    go_ret2
    exact ⟨.slice none 0 0, rfl, Ints.nil _ _, Ext.refl _⟩

theorem nat_best {r : List Int} (s : Nat) : shL r (fun i => if (maskTo (fun i => s.testBit i && decide (nth r i = rankOf r s)) r.length).testBit i then -rankOf r s else 1) r.length = shL r (fun i => if s.testBit i = true ∧ nth r i = rankOf r s then -rankOf r s else 1) r.length := by
  refine ext_nth (by rw [shL_len, shL_len]) fun i hi => ?_
  rw [shL_len] at hi
  rw [shL_nth hi, shL_nth hi, maskTo_bit]
  simp [hi]

set_option maxRecDepth 100000 in
set_option maxHeartbeats 2000000 in
theorem refNatural_any (w : World) (v : Value) (n : Int) (r : List Int) (s : Nat) (h : Ints .i64 w v r) (hs64 : s < 18446744073709551616) :
    Calls Try.prog 46 #[.int .i64 n, v, .int .u64 s] w fun e w' => ∃ v', e = .returned (.tuple #[v', .int .i64 (natR n r s).2]) ∧ Ints .i64 w' v' (natR n r s).1 ∧ Ext w w' := by
  have C1 := sets37_any w v n r s 0 h hs64 (by omega)
  rw [rkSets_lit0] at C1
  have C1 := Lib.hid C1
  unfold natR
  by_cases h0 : rkSets n r [s] = 0
  · obtain ⟨m, rfl, hm, hr, hl, hx⟩ := rkSets_zero h0
    have hC2 : ∀ w1, Ext w w1 → Calls Try.prog 91 #[v, .int .u64 s] w1 fun e w' => e = .returned (.int .i64 (rref r s r.length)) ∧ w1 = w' := fun w1 hx => rank37_any w1 v r s (h.ext hx) hl hr.1.2 hs64
    rw [rref_eq hr (hx s (by simp))] at hC2
    have g1 := rankOf_le r s
    have g2 := rankOf_ge hr s
    obtain ⟨P, hP⟩ : ∃ P : Nat → Bool, P = fun i => s.testBit i && decide (nth r i = rankOf r s) := ⟨_, rfl⟩
    have hb64 : maskTo P r.length < 18446744073709551616 := maskTo_lt64 P (by omega)
    have hC3 : ∀ w1, Ext w w1 → Calls Try.prog 93 #[v, .int .u64 (maskTo P r.length : Nat), .int .i64 (-rankOf r s), .int .i64 1] w1 fun e w' => ∃ v', e = .returned v' ∧ Ints .i64 w' v' (shL r (fun i => if (maskTo P r.length).testBit i then -rankOf r s else 1) r.length) ∧ Ext w1 w' := fun w1 hx => shift_any w1 v r (maskTo P r.length) (-rankOf r s) 1 (h.ext hx) hl hr.1.2 hb64 (by omega) (by omega)
    have hbe := nat_best (r := r) s
    rw [← hP] at hbe
    rw [hbe] at hC3
    rw [if_neg (by simpa using h0)]
    rw [h0] at C1
    have hC5 : ∀ w1 v1, Ints .i64 w1 v1 (shL r (fun i => if s.testBit i = true ∧ nth r i = rankOf r s then -rankOf r s else 1) r.length) → Calls Try.prog 92 #[v1] w1 fun e w' => ∃ v', e = .returned (.tuple #[v', .int .i64 (limR (shL r (fun i => if s.testBit i = true ∧ nth r i = rankOf r s then -rankOf r s else 1) r.length)).2]) ∧ Ints .i64 w' v' (limR (shL r (fun i => if s.testBit i = true ∧ nth r i = rankOf r s then -rankOf r s else 1) r.length)).1 ∧ w1 = w' := fun w1 v1 h => limited_any w1 v1 _ h
    obtain ⟨q, hq⟩ : ∃ q, q = shL r (fun i => if s.testBit i = true ∧ nth r i = rankOf r s then -rankOf r s else 1) r.length := ⟨_, rfl⟩
    rw [← hq] at hC3 hC5 ⊢
    obtain ⟨L, hL⟩ : ∃ L, L = limR q := ⟨_, rfl⟩
    rw [← hL] at hC5 ⊢
    have C3 := Lib.hid hC3
    have C5 := Lib.hid hC5
    obtain ⟨A, c, rfl, hsl, hfi⟩ := h
    have hle := hsl.le
    have hcap := hsl.cap
    by_cases e : s = 0
    · rw [if_pos e]
      have t : ((s : Int) == 0) = true := by rw [beq_iff_eq]; omega
      clear e h0 hr hx hs64 hC2 hC3 hC5 hq hL hbe hP C3 C5 hsl hfi hb64 g1 g2
      go_enter Try.func46, Try.ntmps46
      go_wp2_with fail
      refine C1.out.mono ?_
      rintro e w1 ⟨rfl, rfl⟩
      go_wp2_with fail
      go_ret2
      exact ⟨.slice none 0 0, rfl, Ints.nil _ _, Ext.refl _⟩
    · rw [if_neg e]
      rw [if_neg e] at hC2
      have C2 := Lib.hid hC2
      have t : ((s : Int) == 0) = false := by rw [beq_eq_false_iff_ne]; omega
      obtain ⟨x, hxx⟩ : ∃ x, x = rankOf r s := ⟨_, rfl⟩
      rw [← hxx] at C2 C3 g1 g2 hP
      have hw1 : wrap64 (-x) = -x := IntWalk.wrap64_in _ ⟨by omega, by omega⟩
      have HP := Lib.hid hP
      have HC6 : Hid (∀ w1 k, k ≤ r.length → Calls Try.prog 96 #[.int .u64 s, .int .i64 k] w1 fun e w' => e = .returned (.bool (s.testBit k)) ∧ w1 = w') := fun w1 k hk => has_ok w1 s k hs64 (by omega)
      clear hxx e h0 hr hx hs64 hC2 hC3 hC5 hq hL hbe hP hb64 hfi
      go_enter Try.func46, Try.ntmps46
      go_wp2_with fail
      refine C1.out.mono ?_
      rintro e w1 ⟨rfl, rfl⟩
      go_wp2_with fail
      go_loopw [9, 10] (fun o i wr => ∃ k : Nat, k ≤ r.length ∧ i = .int .i64 k ∧ o = .int .u64 (maskTo P k : Nat) ∧ Ext w wr) (fun _ i _ => r.length - (intOf i).toNat)
      case atStart => exact ⟨0, Nat.zero_le _, rfl, rfl, Ext.refl w⟩
      case round =>
        obtain ⟨k, hk, rfl, rfl, hx⟩ := hrel
        by_cases hlt : k < r.length
        · obtain ⟨ad, rfl, hb, hc⟩ := (hsl.ext hx).get hlt
          have hor := u64_or_pow (maskTo P k) k (maskTo_lt64 P (by omega)) (by omega)
          have hstep := maskTo_succ P k
          have hcd : wr.drew.cell? (ad.add k) = some (.int .i64 (nth r k)) := hc
          have C6 : ∀ w1, Calls Try.prog 96 #[.int .u64 s, .int .i64 k] w1 fun e w' => e = .returned (.bool (s.testBit k)) ∧ w' = w1 := fun w1 => (HC6.out w1 k hk).mono fun _ _ q => ⟨q.1, q.2.symm⟩
          have C7 : Hid (∀ n, Calls Try.prog 91 #[.slice (some ad) r.length c, .int .u64 s] (wr.drewN n) fun e w' => e = .returned (.int .i64 x) ∧ w' = wr.drewN n) := fun n => (C2.out _ (hx.drewN n)).mono fun _ _ q => ⟨q.1, q.2.symm⟩
          cases hbv : s.testBit k with
          | true =>
            rw [hbv] at C6
            have C6 := Lib.hid C6
            by_cases g0 : nth r k = x
            · have t3 : (nth r k == x) = true := by rw [g0]; simp
              rw [if_pos (by rw [HP.out]; simp [hbv, g0])] at hstep
              rw [← hstep] at hor
              clear g0 hstep hbv
              go_wp2
              go_quiet (first | (go_at_call 96; exact Calls.quiet_of_same (C6.out _)) | (go_at_call 91; exact Calls.quiet_of_same (C7.out _)))
              go_wp2
              go_roundw
              case rel => exact ⟨k + 1, by omega, by go_num, rfl, hx.drewN _⟩
              case measure => simp [intOf]; omega
            · have t3 : (nth r k == x) = false := by rw [beq_eq_false_iff_ne]; exact g0
              rw [if_neg (by rw [HP.out]; simp [g0]), Nat.or_zero] at hstep
              have Hs := Lib.hid hstep
              clear g0 hor hstep hbv
              go_wp2
              go_quiet (first | (go_at_call 96; exact Calls.quiet_of_same (C6.out _)) | (go_at_call 91; exact Calls.quiet_of_same (C7.out _)))
              go_wp2
              go_roundw
              case rel => exact ⟨k + 1, by omega, by go_num, by rw [Hs.out], hx.drewN _⟩
              case measure => simp [intOf]; omega
          | false =>
            rw [hbv] at C6
            have C6 := Lib.hid C6
            rw [if_neg (by rw [HP.out]; simp [hbv]), Nat.or_zero] at hstep
            have Hs := Lib.hid hstep
            clear hor hstep hbv
            go_wp2
            go_quiet (first | (go_at_call 96; exact Calls.quiet_of_same (C6.out _)) | (go_at_call 91; exact Calls.quiet_of_same (C7.out _)))
            go_wp2
            go_roundw
            case rel => exact ⟨k + 1, by omega, by go_num, by rw [Hs.out], hx.drewN _⟩
            case measure => simp [intOf]; omega
        · obtain rfl : k = r.length := by omega
          go_wp2_with fail
          refine (C2.out _ hx).mono ?_
          rintro e w1 ⟨rfl, rfl⟩
          go_wp2_with fail
          refine (C3.out _ hx).mono ?_
          rintro e w1 ⟨v1, rfl, hI, hy⟩
          go_wp2_with fail
          refine (C5.out w1 v1 hI).mono ?_
          rintro e w2 ⟨v2, rfl, hJ, rfl⟩
          go_wp2_with fail
          go_ret2
          exact ⟨_, rfl, hJ, hx.trans hy⟩
  · rw [if_pos (by simpa using h0)]
    have t : (rkSets n r [s] != 0) = true := by rw [bne_iff_ne]; exact h0
    obtain ⟨z, hz⟩ : ∃ z, z = rkSets n r [s] := ⟨_, rfl⟩
    rw [← hz] at t C1 ⊢
    clear h0 hz hs64 h
    go_enter Try.func46, Try.ntmps46
    go_wp2_with fail
    refine C1.out.mono ?_
    rintro e w1 ⟨rfl, rfl⟩
    go_wp2_with fail
    go_ret2
    exact ⟨.slice none 0 0, rfl, Ints.nil _ _, Ext.refl _⟩

end Go.Proofs.Ytdlhfihddipjaaa
