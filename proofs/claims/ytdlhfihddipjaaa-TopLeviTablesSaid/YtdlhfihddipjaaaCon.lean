/-
  Contracts of the package contraction: idle, byRanks, ByRanks; what Levi's and Harper's identities say of them.
-/
import Derived.Test.YtdlhfihddipjaaaRev2
namespace Go.Proofs.Ytdlhfihddipjaaa
open Go.RowKit

def idleB (m k x : Nat) : Bool := decide (sdiff k x ≠ 0) || decide (x = full (2 ^ m))
/-- The contraction by ranks. -/
def brOf (m k : Nat) (r : List Int) (x : Nat) : Nat := if idleB m k x then k else k ||| bestOf r (sdiff (full (2 ^ m)) x)

set_option maxHeartbeats 1000000 in
theorem idle_ok (w : World) (m k x : Nat) (hm : m ≤ 4) (hk : k < 18446744073709551616) (hx : x < 18446744073709551616) :
    Calls Try.prog 105 #[.int .i64 m, .int .u64 k, .int .u64 x] w fun e w' => e = .returned (.bool (idleB m k x)) ∧ w = w' := by
  have C := Lib.hid (conAll_ok w m hm)
  have ha := u64_andNot k x hk hx
  unfold idleB
  obtain ⟨f, hf⟩ : ∃ f, f = full (2 ^ m) := ⟨_, rfl⟩
  obtain ⟨d, hd⟩ : ∃ d, d = sdiff k x := ⟨_, rfl⟩
  rw [← hf] at C ⊢
  rw [← hd] at ha ⊢
  clear hf hd hk hx
  by_cases h0 : d = 0
  · have t : ((d : Int) != 0) = false := by simp [h0]
    by_cases h1 : x = f
    · have t1 : ((x : Int) == (f : Int)) = true := by simp [h1]
      have hfin : (decide (d ≠ 0) || decide (x = f)) = true := by simp [h1]
      rw [hfin]
      clear h0 h1 hfin
      go_enter Try.func105, Try.ntmps105
      go_wp2_with (go_at_call 81; refine C.out.mono ?_; rintro e w1 ⟨rfl, rfl⟩)
      go_ret
      exact ⟨rfl, rfl⟩
    · have t1 : ((x : Int) == (f : Int)) = false := by simp; omega
      have hfin : (decide (d ≠ 0) || decide (x = f)) = false := by simp [h1, h0]
      rw [hfin]
      clear h0 h1 hfin
      go_enter Try.func105, Try.ntmps105
      go_wp2_with (go_at_call 81; refine C.out.mono ?_; rintro e w1 ⟨rfl, rfl⟩)
      go_ret
      exact ⟨rfl, rfl⟩
  · have t : ((d : Int) != 0) = true := by simp [h0]
    have hfin : (decide (d ≠ 0) || decide (x = f)) = true := by simp [h0]
    rw [hfin]
    clear h0 hfin
    go_enter Try.func105, Try.ntmps105
    go_wp2
    go_ret
    exact ⟨rfl, rfl⟩

set_option maxRecDepth 100000 in
set_option maxHeartbeats 4000000 in
theorem byRanks_ok (w : World) (v : Value) (m k x : Nat) (r : List Int) (h : Ints .i64 w v r) (hm : m ≤ 4) (hr : Ranks m r) (hk : k < 2 ^ 2 ^ m) (hx : x < 2 ^ 2 ^ m) :
    Calls Try.prog 82 #[.int .i64 m, .int .u64 k, v, .int .u64 x] w fun e w' => e = .returned (.int .u64 (brOf m k r x : Nat)) ∧ Ext w w' := by
  have hN16 := pow_small hm
  have h64 : 2 ^ 2 ^ m ≤ 18446744073709551616 := Nat.pow_le_pow_right (n := 2) (by omega) (show 2 ^ m ≤ 64 by omega)
  have hk64 : k < 18446744073709551616 := by omega
  have hx64 : x < 18446744073709551616 := by omega
  have C := Lib.hid (idle_ok w m k x hm hk64 hx64)
  have hlen : r.length ≤ 16 := by rw [hr.1]; exact hN16
  obtain ⟨A, c, rfl, hs, hf⟩ := h
  have hle := hs.le
  have hcap := hs.cap
  unfold brOf
  obtain ⟨y, hy⟩ : ∃ y, y = sdiff (full (2 ^ m)) x := ⟨_, rfl⟩
  have hyb : ∀ v, v < r.length → y.testBit v = !x.testBit v := fun v hv => by
    rw [hy, sdiff_bit, full_bit, ← hr.1]; simp [hv]
  have Hyb := Lib.hid hyb
  have Hk64 := Lib.hid hk64
  have Hx64 := Lib.hid hx64
  rw [← hy]
  clear hy hyb hk64 hx64 hN16 h64 hr hk hx
  cases hid : idleB m k x with
  | true =>
    rw [hid] at C
    clear hid
    go_enter Try.func82, Try.ntmps82
    go_wp2_with (go_at_call 105; refine C.out.mono ?_; rintro e w1 ⟨rfl, rfl⟩)
    go_ret
    exact ⟨rfl, Ext.refl w⟩
  | false =>
    rw [hid] at C
    clear hid
    go_enter Try.func82, Try.ntmps82
    go_wp2_with (go_at_call 105; refine C.out.mono ?_; rintro e w1 ⟨rfl, rfl⟩)
    go_loopw [9, 10, 20] (fun b o v wr => ∃ j out : Nat, ∃ bb : Int, j ≤ r.length ∧ v = .int .i64 j ∧ o = .int .u64 out ∧ b = .int .i64 bb ∧ Hid (BestInv r y j out bb) ∧ Ext w wr) (fun _ _ v _ => r.length - (intOf v).toNat)
    case atStart => exact ⟨0, 0, 0, Nat.zero_le _, rfl, rfl, rfl, BestInv.start r y, Ext.refl w⟩
    case round =>
      obtain ⟨j, out, bb, hj, rfl, rfl, rfl, hinv, hxw⟩ := hrel
      by_cases hlt : j < r.length
      · obtain ⟨ad, rfl, hb, hc⟩ := (hs.ext hxw).get hlt
        have hbit := u64_bit1 x j Hx64.out
        have hyj := Hyb.out j hlt
        have hol : out < 18446744073709551616 := Nat.lt_of_lt_of_le hinv.out.lt (Nat.pow_le_pow_right (n := 2) (by omega) (show j ≤ 64 by omega))
        have hor := u64_or_pow out j hol (by omega)
        have hpw := u64_wrap_pow j (show j < 64 by omega)
        obtain ⟨pk, hpk⟩ : ∃ pk : Nat, pk = 2 ^ j := ⟨_, rfl⟩
        obtain ⟨ok, hok⟩ : ∃ ok : Nat, ok = out ||| 2 ^ j := ⟨_, rfl⟩
        rw [← hok, hpw, ← hpk] at hor
        rw [← hpk] at hpw
        have Hpk := Lib.hid hpk
        have Hok := Lib.hid hok
        clear hpk hok hol
        cases hbv : x.testBit j with
        | true =>
          rw [hbv] at hbit hyj
          have hn := Lib.hid (hinv.out.skip (by rw [hyj]; rfl))
          clear hbv hyj
          go_wp2
          go_roundw
          case rel => exact ⟨j + 1, out, bb, by omega, by go_num, rfl, rfl, hn, hxw⟩
          case measure => simp [intOf]; omega
        | false =>
          rw [hbv] at hbit hyj
          have Hbv : Hid (y.testBit j = true) := by show y.testBit j = true; rw [hyj]; rfl
          clear hbv hyj
          by_cases h0 : out = 0
          · have hn := Lib.hid (hinv.out.new Hbv.out (.inl h0))
            have t : ((out : Int) == 0) = true := by simp [h0]
            clear h0
            go_wp2
            go_region
            go_wp2
            go_roundw
            case rel => exact ⟨j + 1, pk, nth r j, by omega, by go_num, rfl, rfl, by rw [Hpk.out]; exact hn, hxw.drew⟩
            case measure => simp [intOf]; omega
          · have t : ((out : Int) == 0) = false := by simp [h0]
            by_cases h1 : nth r j < bb
            · have hn := Lib.hid (hinv.out.new Hbv.out (.inr h1))
              clear h0
              go_wp2
              go_region
              go_wp2
              go_roundw
              case rel => exact ⟨j + 1, pk, nth r j, by omega, by go_num, rfl, rfl, by rw [Hpk.out]; exact hn, hxw.drew⟩
              case measure => simp [intOf]; omega
            · by_cases h2 : nth r j = bb
              · have hn := Lib.hid (hinv.out.add Hbv.out h0 h2)
                have t2 : (nth r j == bb) = true := by simp [h2]
                clear h0 h2
                go_wp2
                go_roundw
                case rel => exact ⟨j + 1, ok, bb, by omega, by go_num, rfl, rfl, by rw [Hok.out]; exact hn, hxw⟩
                case measure => simp [intOf]; omega
              · have hn := Lib.hid (hinv.out.more h0 (by omega))
                have t2 : (nth r j == bb) = false := by simp [h2]
                clear h0 h2
                go_wp2
                go_roundw
                case rel => exact ⟨j + 1, out, bb, by omega, by go_num, rfl, rfl, hn, hxw⟩
                case measure => simp [intOf]; omega
      · have hkl : j = r.length := by omega
        have hd := hinv.out
        rw [hkl] at hd
        have hor := u64_or k out Hk64.out (by have := hd.lt; exact Nat.lt_of_lt_of_le this (Nat.pow_le_pow_right (n := 2) (by omega) (show r.length ≤ 64 by omega)))
        have hd2 := Lib.hid hd.done
        rw [show k ||| out = k ||| bestOf r y by rw [hd2.out]] at hor
        clear hd hkl
        go_wp2
        go_ret
        exact ⟨rfl, hxw⟩

end Go.Proofs.Ytdlhfihddipjaaa
