/-
  The agreement texts: the reference's sets of worlds, weights of events, fractions in lowest terms.
-/
import Derived.Test.YtdlhfihddipjaabAg2
namespace Go.Proofs.Ytdlhfihddipjaab
open Go.RowKit

set_option maxHeartbeats 1000000 in
theorem bit01_ok (w : World) (k : Nat) (hk : k < 64) : Calls Try.prog 112 #[.int .i64 k] w fun e w' => e = .returned (.int .u64 (2 ^ k : Nat)) ∧ w = w' := by
  have h1 := u64_wrap_pow k hk
  obtain ⟨p, hp⟩ : ∃ p, p = 2 ^ k := ⟨_, rfl⟩
  rw [← hp] at h1 ⊢
  clear hp
  go_enter Try.func112, Try.ntmps112
  go_wp2
  go_ret
  exact ⟨rfl, rfl⟩
theorem and_pow_ne (s k : Nat) : (((s &&& 2 ^ k : Nat) : Int) != 0) = s.testBit k := by
  cases e : s.testBit k with
  | true =>
    rw [bne_iff_ne]
    intro h
    have h' : s &&& 2 ^ k = 0 := by omega
    have : (s &&& 2 ^ k).testBit k = true := by rw [Nat.testBit_and, e, Nat.testBit_two_pow_self]; rfl
    rw [h', Nat.zero_testBit] at this
    cases this
  | false =>
    have : s &&& 2 ^ k = 0 := by
      apply Nat.eq_of_testBit_eq
      intro i
      rw [Nat.testBit_and, Nat.zero_testBit, Nat.testBit_two_pow]
      by_cases h : k = i
      · subst h; rw [e]; rfl
      · simp [h]
    rw [this]; rfl
set_option maxHeartbeats 1000000 in
theorem has01_ok (w : World) (s k : Nat) (hs : s < 18446744073709551616) (hk : k < 64) : Calls Try.prog 86 #[.int .u64 s, .int .i64 k] w fun e w' => e = .returned (.bool (s.testBit k)) ∧ w = w' := by
  have C := Lib.hid (bit01_ok w k hk)
  have h1 := u64_and s (2 ^ k) hs (pow_lt64 hk)
  have h2 := and_pow_ne s k
  obtain ⟨b, hb⟩ : ∃ b, b = s.testBit k := ⟨_, rfl⟩
  rw [← hb] at h2 ⊢
  obtain ⟨d, hd⟩ : ∃ d, d = s &&& 2 ^ k := ⟨_, rfl⟩
  rw [← hd] at h1 h2
  obtain ⟨p, hp⟩ : ∃ p, p = 2 ^ k := ⟨_, rfl⟩
  rw [← hp] at h1 C
  clear hb hd hp
  go_enter Try.func86, Try.ntmps86
  go_wp2_with fail
  refine C.out.mono ?_
  rintro e w1 ⟨rfl, rfl⟩
  go_wp2
  go_ret
  exact ⟨rfl, rfl⟩

theorem full_or (k : Nat) : full k ||| 2 ^ k = full (k + 1) := by
  apply Nat.eq_of_testBit_eq
  intro i
  rw [Nat.testBit_or, full_bit, full_bit, Nat.testBit_two_pow]
  by_cases h : i < k <;> by_cases h2 : k = i <;> simp [h, h2] <;> omega
set_option maxRecDepth 100000 in
set_option maxHeartbeats 1000000 in
theorem all01_ok (w : World) (n : Nat) (hn : n ≤ 64) : Calls Try.prog 105 #[.int .i64 n] w fun e w' => e = .returned (.int .u64 (full n : Nat)) ∧ w = w' := by
  have HC : Hid (∀ k, k < 64 → Calls Try.prog 112 #[.int .i64 (k : Nat)] w fun e w' => e = .returned (.int .u64 (2 ^ k : Nat)) ∧ w = w') := fun k hk => bit01_ok w k hk
  go_enter Try.func105, Try.ntmps105
  go_wp2
  go_loop [3, 4] (fun s v => ∃ k : Nat, k ≤ n ∧ v = .int .i64 k ∧ s = .int .u64 (full k : Nat)) (fun _ v => n - (intOf v).toNat)
  case atStart => exact ⟨0, Nat.zero_le _, rfl, rfl⟩
  case round =>
    obtain ⟨k, hk, rfl, rfl⟩ := hrel
    by_cases hlt : k < n
    · have hor := u64_or (full k) (2 ^ k) (full_lt64 (by omega)) (pow_lt64 (by omega))
      rw [full_or] at hor
      have C := Lib.hid (HC.out k (by omega))
      obtain ⟨p, hp⟩ : ∃ p, p = 2 ^ k := ⟨_, rfl⟩
      rw [← hp] at hor C
      clear hp
      go_wp2_with fail
      refine C.out.mono ?_
      rintro e w1 ⟨rfl, rfl⟩
      go_wp2
      go_round
      case rel => exact ⟨k + 1, by omega, by go_num, rfl⟩
      case measure => simp [intOf]; omega
    · obtain rfl : k = n := by omega
      go_wp2
      go_ret
      exact ⟨rfl, rfl⟩

set_option maxRecDepth 100000 in
set_option maxHeartbeats 2000000 in
theorem refWeight_any (w : World) (v1 v2 : Value) (W : List Int) (h : Ints .i64 w v1 W) (h64 : W.length ≤ 64) (hok : ∀ i, i < W.length → 1 ≤ nth W i ∧ nth W i ≤ 1000) (e : Nat) (he : e < 18446744073709551616) :
    Calls Try.prog 39 #[.agg #[v1, v2], .int .u64 e] w fun x w' => x = .returned (.int .i64 (wt W e)) ∧ Ext w w' := by
  obtain ⟨A, c, rfl, hs, hf⟩ := h
  have hle := hs.le
  have hcap := hs.cap
  obtain ⟨q0, q1⟩ := cellsP w (.slice A W.length c) v2 45
  have hx := (Ext.refl w).alloc (.cells #[.slice A W.length c, v2] 45)
  have hs' := hs.ext hx
  have Hok := Lib.hid hok
  have HC : Hid (∀ w k, k < 64 → Calls Try.prog 86 #[.int .u64 e, .int .i64 (k : Nat)] w fun x w' => x = .returned (.bool (e.testBit k)) ∧ w = w') := fun w k hk => has01_ok w e k he hk
  unfold wt
  clear hs hf hok q1
  go_enter Try.func39, Try.ntmps39
  go_wp2
  go_loop [5, 6] (fun o i => ∃ k : Nat, k ≤ W.length ∧ i = .int .i64 k ∧ o = .int .i64 (wtTo W e k)) (fun _ i => W.length - (intOf i).toNat)
  case atStart => exact ⟨0, Nat.zero_le _, rfl, rfl⟩
  case round =>
    obtain ⟨k, hk, rfl, rfl⟩ := hrel
    by_cases hlt : k < W.length
    · obtain ⟨ad, rfl, hb, hc⟩ := hs'.get hlt
      have C := HC.out (w.alloc (.cells #[.slice (some ad) W.length c, v2] 45)) k (by omega)
      have hstep : wtTo W e (k + 1) = if e.testBit k then wtTo W e k + nth W k else wtTo W e k := rfl
      have g1 := wtTo_bd Hok.out e k hk
      have g2 := Hok.out k hlt
      have hw : wrap64 (wtTo W e k + nth W k) = wtTo W e k + nth W k := IntWalk.wrap64_in _ ⟨by omega, by omega⟩
      cases hbv : e.testBit k with
      | true =>
        rw [hbv] at C
        have C := Lib.hid C
        rw [hbv, if_pos rfl] at hstep
        have Hs := Lib.hid hstep
        clear hstep hbv
        go_wp2_with fail
        refine C.out.mono ?_
        rintro x w1 ⟨rfl, rfl⟩
        go_wp2
        go_round
        case rel => exact ⟨k + 1, by omega, by go_num, by rw [Hs.out]⟩
        case measure => simp [intOf]; omega
      | false =>
        rw [hbv] at C
        have C := Lib.hid C
        rw [hbv, if_neg (by simp)] at hstep
        have Hs := Lib.hid hstep
        clear hstep hbv
        go_wp2_with fail
        refine C.out.mono ?_
        rintro x w1 ⟨rfl, rfl⟩
        go_wp2
        go_round
        case rel => exact ⟨k + 1, by omega, by go_num, by rw [Hs.out]⟩
        case measure => simp [intOf]; omega
    · obtain rfl : k = W.length := by omega
      go_wp2
      go_ret
      exact ⟨rfl, hx⟩

set_option maxRecDepth 100000 in
set_option maxHeartbeats 2000000 in
theorem reduce_any (w : World) (a b : Nat) (hb0 : 0 < b) (ha : a ≤ 1000000) (hb : b ≤ 1000000) :
    Calls Try.prog 108 #[.int .i64 a, .int .i64 b] w fun e w' => e = .returned (.agg #[.int .i64 (a / Nat.gcd a b : Nat), .int .i64 (b / Nat.gcd a b : Nat)]) ∧ Ext w w' := by
  obtain ⟨g, hg⟩ : ∃ g, g = Nat.gcd a b := ⟨_, rfl⟩
  have hg0 : 0 < g := hg ▸ Nat.gcd_pos_of_pos_right a hb0
  rw [← hg]
  have Hg := Lib.hid hg
  clear hg
  go_enter Try.func108, Try.ntmps108
  go_wp2
  go_loopw [5, 6] (fun o i wr => ∃ x y n : Nat, o = .int .i64 x ∧ i = .int .i64 y ∧ x ≤ 1000000 ∧ y ≤ 1000000 ∧ Hid (Nat.gcd x y = g) ∧ wr = (w.alloc (.cells #[.int .i64 0, .int .i64 0] 56)).drewN n) (fun _ i _ => (intOf i).toNat)
  case atStart => exact ⟨a, b, 0, rfl, rfl, ha, hb, Hg.out.symm, rfl⟩
  case round =>
    obtain ⟨x, y, n, rfl, rfl, hx, hy, hgg, rfl⟩ := hrel
    by_cases h0 : y = 0
    · have t : decide ((0 : Int) < (y : Int)) = false := by rw [h0]; rfl
      have t' : ¬ 0 < y := by omega
      have hxg : x = g := by have := hgg.out; rw [h0, Nat.gcd_zero_right] at this; exact this
      subst hxg
      have t2 : ((x : Int) == 0) = false := by rw [beq_eq_false_iff_ne]; omega
      have k1 : a / x ≤ a := Nat.div_le_self _ _
      have k2 : b / x ≤ b := Nat.div_le_self _ _
      have q1 : wrap64 ((a : Int) / (x : Int)) = ((a / x : Nat) : Int) := by
        rw [show ((a : Int) / (x : Int)) = ((a / x : Nat) : Int) by simp]
        generalize a / x = d at k1 ⊢
        exact IntWalk.wrap64_in (d : Int) ⟨by omega, by omega⟩
      have q2 : wrap64 ((b : Int) / (x : Int)) = ((b / x : Nat) : Int) := by
        rw [show ((b : Int) / (x : Int)) = ((b / x : Nat) : Int) by simp]
        generalize b / x = d at k2 ⊢
        exact IntWalk.wrap64_in (d : Int) ⟨by omega, by omega⟩
      clear h0 hgg k1 k2
      go_wp2
      go_region
      all_goals
        go_wp2
        refine bodyPost_ret (v := .agg #[.int .i64 ((a : Int) / (x : Int)), .int .i64 ((b : Int) / (x : Int))]) (by simp [results, Try.results108, go_sem]) rfl ⟨by simp, ?_⟩
        exact ((((Ext.refl w).alloc _).drewN _).setCell (Nat.le_refl _) _).setCell (Nat.le_refl _) _
    · have t : decide ((0 : Int) < (y : Int)) = true := by rw [decide_eq_true_eq]; omega
      have t' : 0 < y := by omega
      have t2 : ((y : Int) == 0) = false := by rw [beq_eq_false_iff_ne]; omega
      have hlt := Nat.mod_lt x (show 0 < y by omega)
      have hg2 : Hid (Nat.gcd y (x % y) = g) := by
        show Nat.gcd y (x % y) = g
        rw [← hgg.out, Nat.gcd_comm x y, Nat.gcd_rec y x, Nat.gcd_comm]
      go_wp2
      go_quiet (fail)
      go_wp2
      go_roundw
      case rel => exact ⟨y, x % y, n + nq, rfl, by first | rfl | (congr 1; simp) | go_num, hy, by omega, hg2, by rw [World.drewN_drewN]⟩
      case measure => simp [intOf]; omega

end Go.Proofs.Ytdlhfihddipjaab
