/-
  Contracts of the reference of the package ranking: Rank, Belief, Firmness.
-/
import Derived.Test.YtdlhfihddipjaaaRank4
namespace Go.Proofs.Ytdlhfihddipjaaa
open Go.RowKit

theorem rkSets_lit0 (n : Int) (r : List Int) (s : Nat) : rkSets n r [s, 0] = rkSets n r [s] := by
  unfold rkSets
  simp [List.any_cons]

theorem rkTo_inf {r : List Int} (h : ∀ i, i < r.length → 0 ≤ nth r i ∧ nth r i ≤ 1000) {s : Nat} (j : Nat) (hj : j ≤ r.length) : rkTo r s j = 1099511627776 ↔ ∀ i, i < j → s.testBit i = false := by
  induction j with
  | zero => exact ⟨fun _ i hi => absurd hi (by omega), fun _ => rfl⟩
  | succ j ih =>
    have ih := ih (by omega)
    have hb := h j (by omega)
    rw [rkTo]
    cases e : s.testBit j with
    | true =>
      rw [if_pos rfl]
      constructor
      · intro k; omega
      · intro k; rw [k j (by omega)] at e; cases e
    | false =>
      rw [if_neg (by simp), ih]
      constructor
      · intro k i hi
        by_cases q : i = j
        · rw [q]; exact e
        · exact k i (by omega)
      · intro k i hi; exact k i (by omega)
theorem rank_inf {m : Nat} {r : List Int} (h : RkV m r) {s : Nat} (hs : s < 2 ^ r.length) : rankOf r s = 1099511627776 ↔ s = 0 := by
  unfold rankOf
  rw [rkTo_inf h.1.2 _ (Nat.le_refl _)]
  constructor
  · intro k
    apply Nat.eq_of_testBit_eq
    intro i
    rw [Nat.zero_testBit]
    by_cases hi : i < r.length
    · exact k i hi
    · exact Nat.testBit_lt_two_pow (Nat.lt_of_lt_of_le hs (Nat.pow_le_pow_right (by omega) (by omega)))
  · rintro rfl i _; simp
theorem rref_eq {m : Nat} {r : List Int} (h : RkV m r) {s : Nat} (hs : s < 2 ^ r.length) : rref r s r.length = if s = 0 then -1 else rankOf r s := by
  unfold rref
  have := rank_inf h hs
  unfold rankOf at this ⊢
  by_cases e : s = 0
  · rw [if_pos e, if_pos (this.2 e)]
  · rw [if_neg e, if_neg (fun k => e (this.1 k))]
theorem sdiff_ne_inf (r : List Int) (s : Nat) : sdiff (full r.length) s < 2 ^ r.length := sdiff_lt (full_lt _)

set_option maxRecDepth 100000 in
set_option maxHeartbeats 2000000 in
theorem refRank_any (w : World) (v : Value) (n : Int) (r : List Int) (s : Nat) (h : Ints .i64 w v r) (hs64 : s < 18446744073709551616) :
    Calls Try.prog 59 #[.int .i64 n, v, .int .u64 s] w fun e w' => e = .returned (.tuple #[.int .i64 (rankR n r s).1, .int .i64 (rankR n r s).2]) ∧ w = w' := by
  have C1 := sets37_any w v n r s 0 h hs64 (by omega)
  rw [rkSets_lit0] at C1
  have C1 := Lib.hid C1
  unfold rankR
  by_cases h0 : rkSets n r [s] = 0
  · obtain ⟨m, rfl, hm, hr, hl, hx⟩ := rkSets_zero h0
    have C2 := rank37_any w v r s h hl hr.1.2 hs64
    rw [rref_eq hr (hx s (by simp))] at C2
    have C2 := Lib.hid C2
    rw [if_neg (by simpa using h0)]
    rw [h0] at C1
    have e1 : (if s = 0 then ((-1, 0) : Int × Int) else (rankOf r s, 0)) = ((if s = 0 then -1 else rankOf r s), 0) := by split <;> rfl
    rw [e1]
    clear e1
    obtain ⟨x, hx⟩ : ∃ x, x = if s = 0 then -1 else rankOf r s := ⟨_, rfl⟩
    rw [← hx] at C2 ⊢
    clear hx hr h0 h
    go_enter Try.func59, Try.ntmps59
    go_wp2_with fail
    refine C1.out.mono ?_
    rintro e w1 ⟨rfl, rfl⟩
    go_wp2_with fail
    refine C2.out.mono ?_
    rintro e w1 ⟨rfl, rfl⟩
    go_wp2_with fail
    go_ret2
    exact ⟨rfl, rfl⟩
  · rw [if_pos (by simpa using h0)]
    have t : (rkSets n r [s] != 0) = true := by rw [bne_iff_ne]; exact h0
    obtain ⟨z, hz⟩ : ∃ z, z = rkSets n r [s] := ⟨_, rfl⟩
    rw [← hz] at t C1 ⊢
    clear h0 hz hs64 h
    go_enter Try.func59, Try.ntmps59
    go_wp2_with fail
    refine C1.out.mono ?_
    rintro e w1 ⟨rfl, rfl⟩
    go_wp2_with fail
    go_ret2
    exact ⟨rfl, rfl⟩

set_option maxRecDepth 100000 in
set_option maxHeartbeats 2000000 in
theorem refBelief_any (w : World) (v : Value) (n : Int) (r : List Int) (h : Ints .i64 w v r) :
    Calls Try.prog 61 #[.int .i64 n, v] w fun e w' => e = .returned (.tuple #[.int .u64 (belR n r).1, .int .i64 (belR n r).2]) ∧ w = w' := by
  have C1 := Lib.hid (rkCheck37_any w v n r h)
  obtain ⟨A, c, rfl, hs, hf⟩ := h
  have hle := hs.le
  have hcap := hs.cap
  unfold belR
  by_cases h0 : rkErr n r = 0
  · have hl : r.length ≤ 16 := by
      obtain ⟨m, _, hm, hr⟩ := rkErr_zero h0
      rw [hr.1.1]; exact pow_small hm
    rw [if_neg (by simpa using h0)]
    rw [h0] at C1
    clear h0
    unfold zeros
    obtain ⟨P, hP⟩ : ∃ P : Nat → Bool, P = fun v => decide (nth r v = 0) := ⟨_, rfl⟩
    rw [← hP]
    have HP := Lib.hid hP
    clear hP
    go_enter Try.func61, Try.ntmps61
    go_wp2_with fail
    refine C1.out.mono ?_
    rintro e w1 ⟨rfl, rfl⟩
    go_wp2
    go_loop [7, 8] (fun o i => ∃ k : Nat, k ≤ r.length ∧ i = .int .i64 k ∧ o = .int .u64 (maskTo P k : Nat)) (fun _ i => r.length - (intOf i).toNat)
    case atStart => exact ⟨0, Nat.zero_le _, rfl, rfl⟩
    case round =>
      obtain ⟨k, hk, rfl, rfl⟩ := hrel
      by_cases hlt : k < r.length
      · obtain ⟨ad, rfl, hb, hc⟩ := hs.get hlt
        have hor := u64_or_pow (maskTo P k) k (maskTo_lt64 P (by omega)) (by omega)
        have hstep := maskTo_succ P k
        by_cases g0 : nth r k = 0
        · have t : (nth r k == 0) = true := by rw [g0]; rfl
          rw [if_pos (by rw [HP.out]; exact decide_eq_true g0)] at hstep
          rw [← hstep] at hor
          clear g0 hstep
          go_wp2
          go_round
          case rel => exact ⟨k + 1, by omega, by go_num, rfl⟩
          case measure => simp [intOf]; omega
        · have t : (nth r k == 0) = false := by rw [beq_eq_false_iff_ne]; exact g0
          rw [if_neg (by rw [HP.out]; simp [g0]), Nat.or_zero] at hstep
          have Hs := Lib.hid hstep
          clear g0 hor hstep
          go_wp2
          go_round
          case rel => exact ⟨k + 1, by omega, by go_num, by rw [Hs.out]⟩
          case measure => simp [intOf]; omega
      · obtain rfl : k = r.length := by omega
        go_wp2
        go_ret2
        exact ⟨rfl, rfl⟩
  · rw [if_pos (by simpa using h0)]
    have t : (rkErr n r != 0) = true := by rw [bne_iff_ne]; exact h0
    obtain ⟨z, hz⟩ : ∃ z, z = rkErr n r := ⟨_, rfl⟩
    rw [← hz] at t C1 ⊢
    clear h0 hz hs hf
    go_enter Try.func61, Try.ntmps61
    go_wp2_with fail
    refine C1.out.mono ?_
    rintro e w1 ⟨rfl, rfl⟩
    go_wp2_with fail
    go_ret2
    exact ⟨rfl, rfl⟩

set_option maxRecDepth 100000 in
set_option maxHeartbeats 2000000 in
theorem refFirmness_any (w : World) (v : Value) (n : Int) (r : List Int) (s : Nat) (h : Ints .i64 w v r) (hs64 : s < 18446744073709551616) :
    Calls Try.prog 62 #[.int .i64 n, v, .int .u64 s] w fun e w' => e = .returned (.tuple #[.int .i64 (firmR n r s).1, .int .i64 (firmR n r s).2]) ∧ w = w' := by
  have C1 := sets37_any w v n r s 0 h hs64 (by omega)
  rw [rkSets_lit0] at C1
  have C1 := Lib.hid C1
  unfold firmR
  by_cases h0 : rkSets n r [s] = 0
  · obtain ⟨m, rfl, hm, hr, hl, hx⟩ := rkSets_zero h0
    have hd64 : sdiff (full r.length) s < 18446744073709551616 := Nat.lt_trans (sdiff_lt (full_lt _)) (pow_lt64 (by omega))
    have hsd := u64_andNot (full r.length) s (full_lt64 (by omega)) hs64
    have C2 := rank37_any w v r s h hl hr.1.2 hs64
    have C3 := rank37_any w v r (sdiff (full r.length) s) h hl hr.1.2 hd64
    rw [rref_eq hr (hx s (by simp))] at C2
    rw [rref_eq hr (sdiff_ne_inf r s)] at C3
    have C0 := refAll37_ok w m hm
    rw [← hr.1.1] at C0
    have C0 := Lib.hid C0
    have g1 := rankOf_le r s
    have g2 := rankOf_ge hr s
    have g3 := rankOf_le r (sdiff (full r.length) s)
    have g4 := rankOf_ge hr (sdiff (full r.length) s)
    rw [if_neg (by simpa using h0)]
    rw [h0] at C1
    obtain ⟨d, hd⟩ : ∃ d, d = sdiff (full r.length) s := ⟨_, rfl⟩
    rw [← hd] at C3 g3 g4 hsd ⊢
    obtain ⟨f, hf⟩ : ∃ f, f = full r.length := ⟨_, rfl⟩
    rw [← hf] at C0 hsd
    obtain ⟨x, hx⟩ : ∃ x, x = rankOf r s := ⟨_, rfl⟩
    obtain ⟨y, hy⟩ : ∃ y, y = rankOf r d := ⟨_, rfl⟩
    rw [← hx] at C2 g1 g2 ⊢
    rw [← hy] at C3 g3 g4 ⊢
    clear h0 hx hy hd hf hr hs64 hd64 h
    by_cases e : s = 0
    · rw [if_pos (.inl e)]
      rw [if_pos e] at C2
      obtain ⟨yy, hyy⟩ : ∃ yy : Int, yy = if d = 0 then -1 else y := ⟨_, rfl⟩
      rw [← hyy] at C3
      have C2 := Lib.hid C2
      have C3 := Lib.hid C3
      clear e hyy
      go_enter Try.func62, Try.ntmps62
      go_wp2_with fail
      refine C1.out.mono ?_
      rintro e w1 ⟨rfl, rfl⟩
      go_wp2_with fail
      refine C2.out.mono ?_
      rintro e w1 ⟨rfl, rfl⟩
      go_wp2_with fail
      refine C0.out.mono ?_
      rintro e w1 ⟨rfl, rfl⟩
      go_wp2_with fail
      refine C3.out.mono ?_
      rintro e w1 ⟨rfl, rfl⟩
      go_wp2_with fail
      go_ret2
      exact ⟨rfl, rfl⟩
    rw [if_neg e] at C2
    by_cases e2 : d = 0
    · rw [if_pos (.inr e2)]
      rw [if_pos e2] at C3
      have C2 := Lib.hid C2
      have C3 := Lib.hid C3
      clear e e2
      go_enter Try.func62, Try.ntmps62
      go_wp2_with fail
      refine C1.out.mono ?_
      rintro e w1 ⟨rfl, rfl⟩
      go_wp2_with fail
      refine C2.out.mono ?_
      rintro e w1 ⟨rfl, rfl⟩
      go_wp2_with fail
      refine C0.out.mono ?_
      rintro e w1 ⟨rfl, rfl⟩
      go_wp2_with fail
      refine C3.out.mono ?_
      rintro e w1 ⟨rfl, rfl⟩
      go_wp2_with fail
      go_ret2
      exact ⟨rfl, rfl⟩
    · rw [if_neg (by omega)]
      rw [if_neg e2] at C3
      have C2 := Lib.hid C2
      have C3 := Lib.hid C3
      clear e e2
      go_enter Try.func62, Try.ntmps62
      go_wp2_with fail
      refine C1.out.mono ?_
      rintro e w1 ⟨rfl, rfl⟩
      go_wp2_with fail
      refine C2.out.mono ?_
      rintro e w1 ⟨rfl, rfl⟩
      go_wp2_with fail
      refine C0.out.mono ?_
      rintro e w1 ⟨rfl, rfl⟩
      go_wp2_with fail
      refine C3.out.mono ?_
      rintro e w1 ⟨rfl, rfl⟩
      go_wp2_with fail
      go_ret2
      exact ⟨rfl, rfl⟩
  · rw [if_pos (by simpa using h0)]
    have t : (rkSets n r [s] != 0) = true := by rw [bne_iff_ne]; exact h0
    obtain ⟨z, hz⟩ : ∃ z, z = rkSets n r [s] := ⟨_, rfl⟩
    rw [← hz] at t C1 ⊢
    clear h0 hz hs64 h
    go_enter Try.func62, Try.ntmps62
    go_wp2_with fail
    refine C1.out.mono ?_
    rintro e w1 ⟨rfl, rfl⟩
    go_wp2_with fail
    go_ret2
    exact ⟨rfl, rfl⟩

end Go.Proofs.Ytdlhfihddipjaaa
