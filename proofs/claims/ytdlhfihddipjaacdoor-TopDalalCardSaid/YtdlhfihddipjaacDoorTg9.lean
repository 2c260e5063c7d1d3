/-
  Contracts for TopDalal: beliefset.Check, revision.Revise (out of Rev2), math/bits.OnesCount at small numbers, postulates.least.
-/
import Derived.Test.YtdlhfihddipjaacDoorTg7
namespace Go.Proofs.YtdlhfihddipjaacDoor
open Go.RowKit


set_option maxHeartbeats 1000000 in
theorem belAll_ok (w : World) (m : Nat) (hm : m ≤ 4) : Calls Tryd.prog 50 #[.int .i64 m] w fun e w' => e = .returned (.int .u64 (full (2 ^ m) : Nat)) ∧ w = w' := by
  obtain ⟨N, hN⟩ : ∃ N, N = 2 ^ m := ⟨_, rfl⟩
  have hN16 := pow_small hm
  rw [← hN] at hN16 ⊢
  have h1 := wrapu_pow m hm
  rw [← hN] at h1
  have h2 : min N 64 = N := by omega
  have h3 := u64_full N (by omega)
  clear hN
  go_enter Tryd.func50, Tryd.ntmps50
  go_wp2
  go_ret
  exact ⟨by rw [← h3]; rfl, rfl⟩

set_option maxHeartbeats 1000000 in
theorem belCheck_ok (w : World) (s m : Nat) (hm : m ≤ 4) (hs : s < 2 ^ 2 ^ m) : Calls Tryd.prog 26 #[.int .u64 s, .int .i64 m] w fun e w' => e = .returned (.int .i64 0) ∧ w = w' := by
  have C := Lib.hid (belAll_ok w m hm)
  have hN16 := pow_small hm
  obtain ⟨f, hf⟩ : ∃ f, f = full (2 ^ m) := ⟨_, rfl⟩
  have h64 : 2 ^ 2 ^ m ≤ 18446744073709551616 := Nat.pow_le_pow_right (n := 2) (by omega) (show 2 ^ m ≤ 64 by omega)
  have ha := u64_andNot s f (by omega) (by rw [hf]; exact full_lt64 (by omega))
  rw [hf, sdiff_full.2 hs, ← hf] at ha
  rw [← hf] at C
  clear hf h64 hs hN16
  go_enter Tryd.func26, Tryd.ntmps26
  go_wp2_with (first | (go_at_call 50; refine C.out.mono ?_; rintro e w1 ⟨rfl, rfl⟩) | go_in)
  go_ret
  exact ⟨rfl, rfl⟩

set_option maxHeartbeats 1000000 in
theorem revise_ok (w : World) (v : Value) (m s : Nat) (r : List Int) (h : Ints .i64 w v r) (hm : m ≤ 4) (hr : Ranks m r) (hs : s < 2 ^ 2 ^ m) :
    Calls Tryd.prog 22 #[.int .i64 m, v, .int .u64 s] w fun e w' => e = .returned (.tuple #[.int .u64 (bestOf r s : Nat), .int .i64 0]) ∧ w = w' := by
  have C1 := Lib.hid (revCheck_ok w v m r h hm hr)
  have hN16 := pow_small hm
  have C3 := Lib.hid (belCheck_ok w s m hm hs)
  have C2 := Lib.hid (least_any w v r s h (by rw [hr.1]; exact hN16) (Nat.lt_of_lt_of_le hs (Nat.pow_le_pow_right (n := 2) (by omega) (show 2 ^ m ≤ 64 by omega))))
  clear hr h hs hN16
  go_enter Tryd.func22, Tryd.ntmps22
  go_wp2_with fail
  refine C1.out.mono ?_
  rintro e w1 ⟨rfl, rfl⟩
  go_wp2_with fail
  refine C3.out.mono ?_
  rintro e w1 ⟨rfl, rfl⟩
  go_wp2_with fail
  refine C2.out.mono ?_
  rintro e w1 ⟨rfl, rfl⟩
  go_wp2
  go_ret2
  exact ⟨rfl, rfl⟩

/-- The number of members of a small set. -/
def pop (x : Nat) : Nat := (if x.testBit 0 then 1 else 0) + (if x.testBit 1 then 1 else 0)
set_option maxRecDepth 100000 in
set_option maxHeartbeats 2000000 in
theorem ones64_ok (w : World) (x : Nat) (hx : x < 4) : Calls Tryd.prog 52 #[.int .u64 x] w fun e w' => e = .returned (.int .i64 (pop x : Nat)) ∧ Ext w w' := by
  have h : x = 0 ∨ x = 1 ∨ x = 2 ∨ x = 3 := by omega
  rcases h with rfl | rfl | rfl | rfl
  · go_enter Tryd.func52, Tryd.ntmps52
    go_wp2
    go_ret
    exact ⟨by kernel_rfl, Ext.refl _⟩
  · go_enter Tryd.func52, Tryd.ntmps52
    go_wp2
    go_ret
    exact ⟨by kernel_rfl, Ext.refl _⟩
  · go_enter Tryd.func52, Tryd.ntmps52
    go_wp2
    go_ret
    exact ⟨by kernel_rfl, Ext.refl _⟩
  · go_enter Tryd.func52, Tryd.ntmps52
    go_wp2
    go_ret
    exact ⟨by kernel_rfl, Ext.refl _⟩
set_option maxRecDepth 100000 in
set_option maxHeartbeats 1000000 in
theorem ones_ok (w : World) (x : Nat) (hx : x < 4) : Calls Tryd.prog 27 #[.int .u64 x] w fun e w' => e = .returned (.int .i64 (pop x : Nat)) ∧ Ext w w' := by
  have C := Lib.hid (ones64_ok w x hx)
  have hin := u64_wrap_small x (by omega)
  go_enter Tryd.func27, Tryd.ntmps27
  go_wp2_with fail
  refine C.out.mono ?_
  rintro e w1 ⟨rfl, hx⟩
  go_wp2
  go_ret
  exact ⟨rfl, hx⟩


set_option maxRecDepth 100000 in
set_option maxHeartbeats 4000000 in
theorem pleast_any (w : World) (v : Value) (r : List Int) (s : Nat) (h : Ints .i64 w v r) (hl : r.length ≤ 16) (hs64 : s < 18446744073709551616) :
    Calls Tryd.prog 28 #[v, .int .u64 s] w fun e w' => e = .returned (.int .u64 (bestOf r s : Nat)) ∧ w = w' := by
  obtain ⟨A, c, rfl, hs, hf⟩ := h
  have hle := hs.le
  have hcap := hs.cap
  have Hs64 := Lib.hid hs64
  clear hs64
  go_enter Tryd.func28, Tryd.ntmps28
  go_wp2
  go_loop [5, 6, 11] (fun o b v => ∃ k out : Nat, ∃ bb : Int, k ≤ r.length ∧ v = .int .i64 k ∧ o = .int .u64 out ∧ b = .int .i64 bb ∧ Hid (BestInv r s k out bb)) (fun _ _ v => r.length - (intOf v).toNat)
  case atStart => exact ⟨0, 0, 0, Nat.zero_le _, rfl, rfl, rfl, BestInv.start r s⟩
  case round =>
    obtain ⟨k, out, bb, hk, rfl, rfl, rfl, hinv⟩ := hrel
    by_cases hlt : k < r.length
    · obtain ⟨ad, rfl, hb, hc⟩ := hs.get hlt
      have hbit := u64_bit0 s k Hs64.out
      have hol : out < 18446744073709551616 := Nat.lt_of_lt_of_le hinv.out.lt (Nat.pow_le_pow_right (n := 2) (by omega) (show k ≤ 64 by omega))
      have hor := u64_or_pow out k hol (by omega)
      have hpw := u64_wrap_pow k (show k < 64 by omega)
      have hor0 : bits .or .u64 0 ((2 ^ k : Nat) : Int) = ((2 ^ k : Nat) : Int) := by have := u64_or 0 (2 ^ k) (by decide) (pow_lt64 (by omega)); rwa [Nat.zero_or] at this
      obtain ⟨pk, hpk⟩ : ∃ pk : Nat, pk = 2 ^ k := ⟨_, rfl⟩
      obtain ⟨ok, hok⟩ : ∃ ok : Nat, ok = out ||| 2 ^ k := ⟨_, rfl⟩
      rw [← hok, hpw, ← hpk] at hor
      rw [← hpk] at hpw hor0
      have Hpk := Lib.hid hpk
      have Hok := Lib.hid hok
      clear hpk hok hol
      cases hbv : s.testBit k with
      | false =>
        rw [hbv] at hbit
        have hn := Lib.hid (hinv.out.skip hbv)
        clear hbv
        go_wp2
        go_round
        case rel => exact ⟨k + 1, out, bb, by omega, by go_num, rfl, rfl, hn⟩
        case measure => simp [intOf]; omega
      | true =>
        rw [hbv] at hbit
        have Hbv := Lib.hid hbv
        clear hbv
        by_cases h0 : out = 0
        · have hn := Lib.hid (hinv.out.new Hbv.out (.inl h0))
          have t : ((out : Int) == 0) = true := by simp [h0]
          clear h0
          go_wp2
          go_round
          case rel => exact ⟨k + 1, pk, nth r k, by omega, by go_num, rfl, rfl, by rw [Hpk.out]; exact hn⟩
          case measure => simp [intOf]; omega
        · have t : ((out : Int) == 0) = false := by simp [h0]
          by_cases h1 : nth r k < bb
          · have hn := Lib.hid (hinv.out.new Hbv.out (.inr h1))
            clear h0
            go_wp2
            go_round
            case rel => exact ⟨k + 1, pk, nth r k, by omega, by go_num, rfl, rfl, by rw [Hpk.out]; exact hn⟩
            case measure => simp [intOf]; omega
          · by_cases h2 : nth r k = bb
            · have hn := Lib.hid (hinv.out.add Hbv.out h0 h2)
              have t2 : (nth r k == bb) = true := by simp [h2]
              clear h0 h2
              go_wp2
              go_round
              case rel => exact ⟨k + 1, ok, bb, by omega, by go_num, rfl, rfl, by rw [Hok.out]; exact hn⟩
              case measure => simp [intOf]; omega
            · have hn := Lib.hid (hinv.out.more h0 (by omega))
              have t2 : (nth r k == bb) = false := by simp [h2]
              clear h0 h2
              go_wp2
              go_round
              case rel => exact ⟨k + 1, out, bb, by omega, by go_num, rfl, rfl, hn⟩
              case measure => simp [intOf]; omega
    · have hkl : k = r.length := by omega
      have hd := hinv.out
      rw [hkl] at hd
      have hd2 := Lib.hid hd.done
      clear hd hkl
      go_wp2
      go_ret
      exact ⟨by rw [← hd2.out]; rfl, rfl⟩

end Go.Proofs.YtdlhfihddipjaacDoor
