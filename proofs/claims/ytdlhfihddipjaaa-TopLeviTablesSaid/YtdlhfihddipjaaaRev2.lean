/-
  Contracts: all of the packages contraction and beliefset; revision.Belief, revision.Revise; the reference's All.
-/
import Derived.Test.YtdlhfihddipjaaaRev
namespace Go.Proofs.Ytdlhfihddipjaaa
open Go.RowKit

theorem wrapu_pow (n : Nat) (h : n ≤ 4) : IntKind.u64.wrap (2 ^ n) = ((2 ^ n : Nat) : Int) := u64_wrap_pow n (by omega)

set_option maxHeartbeats 1000000 in
theorem conAll_ok (w : World) (m : Nat) (hm : m ≤ 4) : Calls Try.prog 81 #[.int .i64 m] w fun e w' => e = .returned (.int .u64 (full (2 ^ m) : Nat)) ∧ w = w' := by
  obtain ⟨N, hN⟩ : ∃ N, N = 2 ^ m := ⟨_, rfl⟩
  have hN16 := pow_small hm
  rw [← hN] at hN16 ⊢
  have h1 := wrapu_pow m hm
  rw [← hN] at h1
  have h2 : min N 64 = N := by omega
  have h3 := u64_full N (by omega)
  clear hN
  go_enter Try.func81, Try.ntmps81
  go_wp2
  go_ret
  exact ⟨by rw [← h3]; rfl, rfl⟩

set_option maxHeartbeats 1000000 in
theorem belAll_ok (w : World) (m : Nat) (hm : m ≤ 4) : Calls Try.prog 107 #[.int .i64 m] w fun e w' => e = .returned (.int .u64 (full (2 ^ m) : Nat)) ∧ w = w' := by
  obtain ⟨N, hN⟩ : ∃ N, N = 2 ^ m := ⟨_, rfl⟩
  have hN16 := pow_small hm
  rw [← hN] at hN16 ⊢
  have h1 := wrapu_pow m hm
  rw [← hN] at h1
  have h2 : min N 64 = N := by omega
  have h3 := u64_full N (by omega)
  clear hN
  go_enter Try.func107, Try.ntmps107
  go_wp2
  go_ret
  exact ⟨by rw [← h3]; rfl, rfl⟩

set_option maxHeartbeats 1000000 in
theorem belCheck_ok (w : World) (s m : Nat) (hm : m ≤ 4) (hs : s < 2 ^ 2 ^ m) : Calls Try.prog 83 #[.int .u64 s, .int .i64 m] w fun e w' => e = .returned (.int .i64 0) ∧ w = w' := by
  have C := Lib.hid (belAll_ok w m hm)
  have hN16 := pow_small hm
  obtain ⟨f, hf⟩ : ∃ f, f = full (2 ^ m) := ⟨_, rfl⟩
  have h64 : 2 ^ 2 ^ m ≤ 18446744073709551616 := Nat.pow_le_pow_right (n := 2) (by omega) (show 2 ^ m ≤ 64 by omega)
  have ha := u64_andNot s f (by omega) (by rw [hf]; exact full_lt64 (by omega))
  rw [hf, sdiff_full.2 hs, ← hf] at ha
  rw [← hf] at C
  clear hf h64 hs hN16
  go_enter Try.func83, Try.ntmps83
  go_wp2_with (first | (go_at_call 107; refine C.out.mono ?_; rintro e w1 ⟨rfl, rfl⟩) | go_in)
  go_ret
  exact ⟨rfl, rfl⟩

set_option maxHeartbeats 1000000 in
theorem belief_ok (w : World) (v : Value) (m : Nat) (r : List Int) (h : Ints .i64 w v r) (hm : m ≤ 4) (hr : Ranks m r) :
    Calls Try.prog 36 #[.int .i64 m, v] w fun e w' => e = .returned (.tuple #[.int .u64 (bestOf r (full (2 ^ m)) : Nat), .int .i64 0]) ∧ w = w' := by
  have C1 := Lib.hid (revCheck_ok w v m r h hm hr)
  have hN16 := pow_small hm
  have C2 := Lib.hid (least_any w v r (full (2 ^ m)) h (by rw [hr.1]; exact hN16) (full_lt64 (by omega)))
  obtain ⟨N, hN⟩ : ∃ N, N = 2 ^ m := ⟨_, rfl⟩
  rw [← hN] at hN16 C2 ⊢
  have h1 := wrapu_pow m hm
  rw [← hN] at h1
  have h2 : min N 64 = N := by omega
  have h3 := u64_full N (by omega)
  clear hN hr h
  go_enter Try.func36, Try.ntmps36
  go_wp2_with fail
  refine C1.out.mono ?_
  rintro e w1 ⟨rfl, rfl⟩
  go_wp2_with fail
  refine C2.out.mono ?_
  rintro e w1 ⟨rfl, rfl⟩
  go_wp2
  go_ret2
  exact ⟨rfl, rfl⟩

set_option maxHeartbeats 1000000 in
theorem revise_ok (w : World) (v : Value) (m s : Nat) (r : List Int) (h : Ints .i64 w v r) (hm : m ≤ 4) (hr : Ranks m r) (hs : s < 2 ^ 2 ^ m) :
    Calls Try.prog 38 #[.int .i64 m, v, .int .u64 s] w fun e w' => e = .returned (.tuple #[.int .u64 (bestOf r s : Nat), .int .i64 0]) ∧ w = w' := by
  have C1 := Lib.hid (revCheck_ok w v m r h hm hr)
  have hN16 := pow_small hm
  have C3 := Lib.hid (belCheck_ok w s m hm hs)
  have C2 := Lib.hid (least_any w v r s h (by rw [hr.1]; exact hN16) (Nat.lt_of_lt_of_le hs (Nat.pow_le_pow_right (n := 2) (by omega) (show 2 ^ m ≤ 64 by omega))))
  clear hr h hs hN16
  go_enter Try.func38, Try.ntmps38
  go_wp2_with fail
  refine C1.out.mono ?_
  rintro e w1 ⟨rfl, rfl⟩
  go_wp2_with fail
  refine C3.out.mono ?_
  rintro e w1 ⟨rfl, rfl⟩
  go_wp2_with fail
  refine C2.out.mono ?_
  rintro e w1 ⟨rfl, rfl⟩
  go_wp2
  go_ret2
  exact ⟨rfl, rfl⟩

set_option maxHeartbeats 1000000 in
theorem refBit_ok (w : World) (n : Nat) (hn : n < 64) : Calls Try.prog 104 #[.int .i64 n] w fun e w' => e = .returned (.int .u64 (2 ^ n : Nat)) ∧ w = w' := by
  have h1 := u64_wrap_pow n hn
  obtain ⟨b, hb⟩ : ∃ b : Nat, b = 2 ^ n := ⟨_, rfl⟩
  rw [← hb] at h1 ⊢
  clear hb
  go_enter Try.func104, Try.ntmps104
  go_wp2
  go_ret
  exact ⟨rfl, rfl⟩

theorem full_mask (n : Nat) : full n = maskTo (fun _ => true) n := by
  refine Nat.eq_of_testBit_eq fun j => ?_
  rw [full_bit, maskTo_bit, Bool.and_true]

set_option maxRecDepth 100000 in
set_option maxHeartbeats 1000000 in
theorem refAll_ok (w : World) (n : Nat) (hn : n ≤ 64) : Calls Try.prog 79 #[.int .i64 n] w fun e w' => e = .returned (.int .u64 (full n : Nat)) ∧ w = w' := by
  go_enter Try.func79, Try.ntmps79
  go_wp2
  go_loop [3, 4] (fun s v => ∃ k : Nat, k ≤ n ∧ v = .int .i64 k ∧ s = .int .u64 (full k : Nat)) (fun _ v => n - (intOf v).toNat)
  case atStart => exact ⟨0, Nat.zero_le _, rfl, rfl⟩
  case round =>
    obtain ⟨k, hk, rfl, rfl⟩ := hrel
    by_cases hlt : k < n
    · have C := Lib.hid (refBit_ok w k (by omega))
      obtain ⟨b, hb⟩ : ∃ b : Nat, b = 2 ^ k := ⟨_, rfl⟩
      have hor := u64_or (full k) b (full_lt64 (by omega)) (by rw [hb]; exact pow_lt64 (by omega))
      have e : full k ||| b = full (k + 1) := by
        rw [full_mask, full_mask, maskTo_succ, hb]; simp
      rw [e] at hor
      rw [← hb] at C
      have He := Lib.hid e
      clear hb e
      go_wp2_with (go_at_call 104; refine C.out.mono ?_; rintro e w1 ⟨rfl, rfl⟩)
      go_round
      case rel => exact ⟨k + 1, by omega, by go_num, rfl⟩
      case measure => simp [intOf]; omega
    · obtain rfl : k = n := by omega
      go_wp2
      go_ret
      exact ⟨rfl, rfl⟩

set_option maxHeartbeats 1000000 in
theorem refAll40_ok (w : World) (m : Nat) (hm : m ≤ 4) : Calls Try.prog 35 #[.int .i64 m] w fun e w' => e = .returned (.int .u64 (full (2 ^ m) : Nat)) ∧ w = w' := by
  have hN16 := pow_small hm
  have C := Lib.hid (refAll_ok w (2 ^ m) (by omega))
  obtain ⟨N, hN⟩ : ∃ N, N = 2 ^ m := ⟨_, rfl⟩
  have hw := wrap64_pow m (by omega)
  rw [← hN] at hw C ⊢
  clear hN hN16
  go_enter Try.func35, Try.ntmps35
  go_wp2_with fail
  refine C.out.mono ?_
  rintro e w1 ⟨rfl, rfl⟩
  go_wp2
  go_ret
  exact ⟨rfl, rfl⟩

end Go.Proofs.Ytdlhfihddipjaaa
