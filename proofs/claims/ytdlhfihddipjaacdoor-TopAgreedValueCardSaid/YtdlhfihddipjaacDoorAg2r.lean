/-
  The agreement texts: the reference's sets of worlds, weights of events, fractions in lowest terms.
-/
import Derived.Test.YtdlhfihddipjaacDoorAg2
namespace Go.Proofs.YtdlhfihddipjaacDoor
open Go.RowKit

set_option maxHeartbeats 1000000 in
theorem bit01_ok (w : World) (k : Nat) (hk : k < 64) : Calls Tryd.prog 64 #[.int .i64 k] w fun e w' => e = .returned (.int .u64 (2 ^ k : Nat)) ∧ w = w' := by
  have h1 := u64_wrap_pow k hk
  obtain ⟨p, hp⟩ : ∃ p, p = 2 ^ k := ⟨_, rfl⟩
  rw [← hp] at h1 ⊢
  clear hp
  go_enter Tryd.func64, Tryd.ntmps64
  go_wp2
  go_ret
  exact ⟨rfl, rfl⟩
theorem and_pow_ne (s k : Nat) : (((s &&& 2 ^ k : Nat) : Int) != 0) = s.testBit k := by
  cases e : s.testBit k with
  | true =>
    rw [bne_iff_ne]
    intro h
    have h' : s &&& 2 ^ k = 0 := by omega
    have : (s &&& 2 ^ k).testBit k = true := by rw [Nat.testBit_and, e, Nat.testBit_two_pow_self]; rfl
    rw [h', Nat.zero_testBit] at this
    cases this
  | false =>
    have : s &&& 2 ^ k = 0 := by
      apply Nat.eq_of_testBit_eq
      intro i
      rw [Nat.testBit_and, Nat.zero_testBit, Nat.testBit_two_pow]
      by_cases h : k = i
      · subst h; rw [e]; rfl
      · simp [h]
    rw [this]; rfl
set_option maxHeartbeats 1000000 in
theorem has01_ok (w : World) (s k : Nat) (hs : s < 18446744073709551616) (hk : k < 64) : Calls Tryd.prog 42 #[.int .u64 s, .int .i64 k] w fun e w' => e = .returned (.bool (s.testBit k)) ∧ w = w' := by
  have C := Lib.hid (bit01_ok w k hk)
  have h1 := u64_and s (2 ^ k) hs (pow_lt64 hk)
  have h2 := and_pow_ne s k
  obtain ⟨b, hb⟩ : ∃ b, b = s.testBit k := ⟨_, rfl⟩
  rw [← hb] at h2 ⊢
  obtain ⟨d, hd⟩ : ∃ d, d = s &&& 2 ^ k := ⟨_, rfl⟩
  rw [← hd] at h1 h2
  obtain ⟨p, hp⟩ : ∃ p, p = 2 ^ k := ⟨_, rfl⟩
  rw [← hp] at h1 C
  clear hb hd hp
  go_enter Tryd.func42, Tryd.ntmps42
  go_wp2_with fail
  refine C.out.mono ?_
  rintro e w1 ⟨rfl, rfl⟩
  go_wp2
  go_ret
  exact ⟨rfl, rfl⟩

theorem full_or (k : Nat) : full k ||| 2 ^ k = full (k + 1) := by
  apply Nat.eq_of_testBit_eq
  intro i
  rw [Nat.testBit_or, full_bit, full_bit, Nat.testBit_two_pow]
  by_cases h : i < k <;> by_cases h2 : k = i <;> simp [h, h2] <;> omega
set_option maxRecDepth 100000 in
set_option maxHeartbeats 2000000 in
theorem refWeight_any (w : World) (v1 v2 : Value) (W : List Int) (h : Ints .i64 w v1 W) (h64 : W.length ≤ 64) (hok : ∀ i, i < W.length → 1 ≤ nth W i ∧ nth W i ≤ 1000) (e : Nat) (he : e < 18446744073709551616) :
    Calls Tryd.prog 18 #[.agg #[v1, v2], .int .u64 e] w fun x w' => x = .returned (.int .i64 (wt W e)) ∧ Ext w w' := by
  obtain ⟨A, c, rfl, hs, hf⟩ := h
  have hle := hs.le
  have hcap := hs.cap
  obtain ⟨q0, q1⟩ := cellsP w (.slice A W.length c) v2 37
  have hx := (Ext.refl w).alloc (.cells #[.slice A W.length c, v2] 37)
  have hs' := hs.ext hx
  have Hok := Lib.hid hok
  have HC : Hid (∀ w k, k < 64 → Calls Tryd.prog 42 #[.int .u64 e, .int .i64 (k : Nat)] w fun x w' => x = .returned (.bool (e.testBit k)) ∧ w = w') := fun w k hk => has01_ok w e k he hk
  unfold wt
  clear hs hf hok q1
  go_enter Tryd.func18, Tryd.ntmps18
  go_wp2
  go_loop [5, 6] (fun o i => ∃ k : Nat, k ≤ W.length ∧ i = .int .i64 k ∧ o = .int .i64 (wtTo W e k)) (fun _ i => W.length - (intOf i).toNat)
  case atStart => exact ⟨0, Nat.zero_le _, rfl, rfl⟩
  case round =>
    obtain ⟨k, hk, rfl, rfl⟩ := hrel
    by_cases hlt : k < W.length
    · obtain ⟨ad, rfl, hb, hc⟩ := hs'.get hlt
      have C := HC.out (w.alloc (.cells #[.slice (some ad) W.length c, v2] 37)) k (by omega)
      have hstep : wtTo W e (k + 1) = if e.testBit k then wtTo W e k + nth W k else wtTo W e k := rfl
      have g1 := wtTo_bd Hok.out e k hk
      have g2 := Hok.out k hlt
      have hw : wrap64 (wtTo W e k + nth W k) = wtTo W e k + nth W k := IntWalk.wrap64_in _ ⟨by omega, by omega⟩
      cases hbv : e.testBit k with
      | true =>
        rw [hbv] at C
        have C := Lib.hid C
        rw [hbv, if_pos rfl] at hstep
        have Hs := Lib.hid hstep
        clear hstep hbv
        go_wp2_with fail
        refine C.out.mono ?_
        rintro x w1 ⟨rfl, rfl⟩
        go_wp2
        go_round
        case rel => exact ⟨k + 1, by omega, by go_num, by rw [Hs.out]⟩
        case measure => simp [intOf]; omega
      | false =>
        rw [hbv] at C
        have C := Lib.hid C
        rw [hbv, if_neg (by simp)] at hstep
        have Hs := Lib.hid hstep
        clear hstep hbv
        go_wp2_with fail
        refine C.out.mono ?_
        rintro x w1 ⟨rfl, rfl⟩
        go_wp2
        go_round
        case rel => exact ⟨k + 1, by omega, by go_num, by rw [Hs.out]⟩
        case measure => simp [intOf]; omega
    · obtain rfl : k = W.length := by omega
      go_wp2
      go_ret
      exact ⟨rfl, hx⟩

end Go.Proofs.YtdlhfihddipjaacDoor
