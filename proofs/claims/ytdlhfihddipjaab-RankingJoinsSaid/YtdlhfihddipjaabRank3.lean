/-
  Contracts of the reference of the package ranking: All, has, Check, sets, rank.
-/
import Derived.Test.YtdlhfihddipjaabRank2
namespace Go.Proofs.Ytdlhfihddipjaab
open Go.RowKit

set_option maxRecDepth 100000 in
set_option maxHeartbeats 1000000 in
theorem refAll37_ok (w : World) (m : Nat) (hm : m ≤ 4) : Calls Try.prog 66 #[.int .i64 m] w fun e w' => e = .returned (.int .u64 (full (2 ^ m) : Nat)) ∧ w = w' := by
  have hN16 := pow_small hm
  obtain ⟨n, hN⟩ : ∃ N, N = 2 ^ m := ⟨_, rfl⟩
  have hw := wrap64_pow m (by omega)
  rw [← hN] at hw hN16 ⊢
  clear hN
  go_enter Try.func66, Try.ntmps66
  go_wp2
  go_loop [3, 4] (fun s v => ∃ k : Nat, k ≤ n ∧ v = .int .i64 k ∧ s = .int .u64 (full k : Nat)) (fun _ v => n - (intOf v).toNat)
  case atStart => exact ⟨0, Nat.zero_le _, rfl, rfl⟩
  case round =>
    obtain ⟨k, hk, rfl, rfl⟩ := hrel
    by_cases hlt : k < n
    · have hor := u64_or_pow (full k) k (full_lt64 (by omega)) (by omega)
      have e : full k ||| 2 ^ k = full (k + 1) := by
        rw [full_mask, full_mask, maskTo_succ]; simp
      rw [e] at hor
      have He := Lib.hid e
      clear e
      go_wp2
      go_round
      case rel => exact ⟨k + 1, by omega, by go_num, rfl⟩
      case measure => simp [intOf]; omega
    · obtain rfl : k = n := by omega
      go_wp2
      go_ret
      exact ⟨rfl, rfl⟩

set_option maxHeartbeats 1000000 in
theorem has_ok (w : World) (s v : Nat) (hs : s < 18446744073709551616) (hv : v ≤ 64) : Calls Try.prog 101 #[.int .u64 s, .int .i64 v] w fun e w' => e = .returned (.bool (s.testBit v)) ∧ w = w' := by
  have e1 : (Int.tmod ((s : Int) / 2 ^ v) 2 == 1) = s.testBit v := by
    rw [Int.tmod_eq_emod_of_nonneg (Int.ediv_nonneg (by omega) (Int.le_of_lt (Int.pow_pos (by decide)))), Nat.testBit_eq_decide_div_mod_eq, Bool.eq_iff_iff, beq_iff_eq, decide_eq_true_eq]
    have : ((s : Int) / 2 ^ v) = ((s / 2 ^ v : Nat) : Int) := by simp
    rw [this]
    omega
  obtain ⟨b, hb⟩ : ∃ b, b = s.testBit v := ⟨_, rfl⟩
  rw [← hb] at e1 ⊢
  clear hb
  go_enter Try.func101, Try.ntmps101
  go_wp2
  go_ret
  exact ⟨rfl, rfl⟩


set_option maxRecDepth 100000 in
set_option maxHeartbeats 2000000 in
theorem rkCheck37_any (w : World) (v : Value) (n : Int) (r : List Int) (h : Ints .i64 w v r) :
    Calls Try.prog 68 #[.int .i64 n, v] w fun e w' => e = .returned (.int .i64 (rkErr n r)) ∧ w = w' := by
  have H := Lib.hid h
  obtain ⟨A, c, rfl, hs, hf⟩ := h
  have hle := hs.le
  have hcap := hs.cap
  unfold rkErr
  by_cases h0 : n < 0
  · rw [if_pos (.inl h0)]
    clear hs hf
    go_enter Try.func68, Try.ntmps68
    go_wp2
    go_ret
    exact ⟨rfl, rfl⟩
  by_cases h4 : 4 < n
  · rw [if_pos (.inr h4)]
    clear hs hf
    go_enter Try.func68, Try.ntmps68
    go_wp2
    go_ret
    exact ⟨rfl, rfl⟩
  rw [if_neg (by omega)]
  obtain ⟨m, rfl⟩ := Int.eq_ofNat_of_zero_le (show 0 ≤ n by omega)
  have hm : m ≤ 4 := by omega
  obtain ⟨N, hN⟩ : ∃ N, N = 2 ^ m := ⟨_, rfl⟩
  have hw := wrap64_pow m (by omega)
  rw [← hN] at hw
  by_cases hl : r.length = N
  · rw [if_neg (by simp; rw [← hN]; exact hl)]
    have t : ((r.length : Int) != (N : Int)) = false := by simp [hl]
    obtain ⟨z, hz⟩ : ∃ z : Int, z = if r.any outOf then 2 else if zeroB r then 0 else 1 := ⟨_, rfl⟩
    rw [← hz]
    have Hz := Lib.hid hz
    clear hz hN h0 h4 hl
    go_enter Try.func68, Try.ntmps68
    go_wp2
    go_loop [5, 6] (fun b i => ∃ (k : Nat) (q : Bool), k ≤ r.length ∧ i = .int .i64 k ∧ b = .bool q ∧ Hid ((q = true ↔ ∃ j, j < k ∧ nth r j = 0) ∧ ∀ j, j < k → outOf (nth r j) = false)) (fun _ i => r.length - (intOf i).toNat)
    case atStart => exact ⟨0, false, Nat.zero_le _, rfl, rfl, ⟨by simp, fun j hj => absurd hj (by omega)⟩⟩
    case round =>
      obtain ⟨k, q, hk, rfl, rfl, hgo⟩ := hrel
      by_cases hlt : k < r.length
      · obtain ⟨ad, rfl, hb, hc⟩ := hs.get hlt
        by_cases g0 : nth r k < 0
        · go_wp2
          go_ret
          exact ⟨by rw [Hz.out, if_pos (any_nth.2 ⟨k, hlt, by unfold outOf; simp [g0]⟩)]; rfl, rfl⟩
        by_cases g1 : 1000 < nth r k
        · go_wp2
          go_ret
          exact ⟨by rw [Hz.out, if_pos (any_nth.2 ⟨k, hlt, by unfold outOf; simp [g1]⟩)]; rfl, rfl⟩
        have hout : Hid (outOf (nth r k) = false) := by show outOf (nth r k) = false; unfold outOf; simp; omega
        have hall : Hid (∀ j, j < k + 1 → outOf (nth r j) = false) := fun j hj => by
          by_cases e : j = k
          · rw [e]; exact hout.out
          · exact hgo.out.2 j (by omega)
        cases q with
        | true =>
          have hq : Hid (∃ j, j < k ∧ nth r j = 0) := hgo.out.1.1 rfl
          go_wp2
          go_round
          case rel => exact ⟨k + 1, true, by omega, by go_num, rfl, ⟨fun _ => by obtain ⟨j, h1, h2⟩ := hq.out; exact ⟨j, by omega, h2⟩, fun _ => rfl⟩, hall.out⟩
          case measure => simp [intOf]; omega
        | false =>
          have hq : Hid (¬ ∃ j, j < k ∧ nth r j = 0) := fun e => by have := hgo.out.1.2 e; cases this
          by_cases g2 : nth r k = 0
          · have t2 : (nth r k == 0) = true := by rw [g2]; rfl
            have G2 := Lib.hid g2
            clear g2
            go_wp2
            go_round
            case rel => exact ⟨k + 1, true, by omega, by go_num, rfl, ⟨fun _ => ⟨k, by omega, G2.out⟩, fun _ => rfl⟩, hall.out⟩
            case measure => simp [intOf]; omega
          · have t2 : (nth r k == 0) = false := by rw [beq_eq_false_iff_ne]; exact g2
            have hn : Hid (¬ ∃ j, j < k + 1 ∧ nth r j = 0) := by
              rintro ⟨j, h1, h2⟩
              by_cases e : j = k
              · rw [e] at h2; exact g2 h2
              · exact hq.out ⟨j, by omega, h2⟩
            clear g2
            go_wp2
            go_round
            case rel => exact ⟨k + 1, false, by omega, by go_num, rfl, ⟨fun e => (by cases e), fun e => absurd e hn.out⟩, hall.out⟩
            case measure => simp [intOf]; omega
      · obtain rfl : k = r.length := by omega
        have hno : Hid (¬ r.any outOf = true) := fun e => by
          obtain ⟨i, hi, h⟩ := any_nth.1 e
          rw [hgo.out.2 i hi] at h; cases h
        cases q with
        | true =>
          have hq : Hid (zeroB r = true) := zeroB_iff.2 (hgo.out.1.1 rfl)
          go_wp2
          go_ret
          exact ⟨by rw [Hz.out, if_neg hno.out, if_pos hq.out]; rfl, rfl⟩
        | false =>
          have hq : Hid (¬ zeroB r = true) := fun e => by have := hgo.out.1.2 (zeroB_iff.1 e); cases this
          go_wp2
          go_ret
          exact ⟨by rw [Hz.out, if_neg hno.out, if_neg hq.out]; rfl, rfl⟩
  · rw [if_pos (by simp; rw [← hN]; exact hl)]
    have t : ((r.length : Int) != (N : Int)) = true := by rw [bne_iff_ne]; omega
    clear hl hN h0 h4 hs hf
    go_enter Try.func68, Try.ntmps68
    go_wp2
    go_ret
    exact ⟨rfl, rfl⟩


theorem or_lt_iff {a b N : Nat} : a ||| b < 2 ^ N ↔ a < 2 ^ N ∧ b < 2 ^ N :=
  ⟨fun h => ⟨Nat.lt_of_le_of_lt Nat.left_le_or h, Nat.lt_of_le_of_lt Nat.right_le_or h⟩, fun h => Nat.or_lt_two_pow h.1 h.2⟩

set_option maxRecDepth 100000 in
set_option maxHeartbeats 2000000 in
theorem sets37_any (w : World) (v : Value) (n : Int) (r : List Int) (a b : Nat) (h : Ints .i64 w v r) (ha : a < 18446744073709551616) (hb : b < 18446744073709551616) :
    Calls Try.prog 64 #[.int .i64 n, v, .int .u64 a, .int .u64 b] w fun e w' => e = .returned (.int .i64 (rkSets n r [a, b])) ∧ w = w' := by
  have C := Lib.hid (rkCheck37_any w v n r h)
  obtain ⟨A, c, rfl, hs, hf⟩ := h
  have hle := hs.le
  have hcap := hs.cap
  clear hs hf
  unfold rkSets
  by_cases h0 : rkErr n r = 0
  · rw [if_neg (by simpa using h0)]
    rw [h0] at C
    obtain ⟨m, rfl, hm, hr⟩ := rkErr_zero h0
    have C2 := Lib.hid (refAll37_ok w m hm)
    have hor := u64_or a b ha hb
    have hsd := u64_andNot (a ||| b) (full (2 ^ m)) (Nat.or_lt_two_pow (n := 64) ha hb) (full_lt64 (by have := pow_small hm; omega))
    obtain ⟨ab, hab⟩ : ∃ ab, ab = a ||| b := ⟨_, rfl⟩
    obtain ⟨d, hd⟩ : ∃ d, d = sdiff ab (full (2 ^ m)) := ⟨_, rfl⟩
    rw [← hab] at hor hsd
    rw [← hd] at hsd
    have hiff : d = 0 ↔ a < 2 ^ r.length ∧ b < 2 ^ r.length := by rw [hd, sdiff_full, hab, hr.1.1]; exact or_lt_iff
    obtain ⟨f, hf⟩ : ∃ f, f = full (2 ^ m) := ⟨_, rfl⟩
    rw [← hf] at hsd C2
    have hres : (if [a, b].any (fun s => decide (2 ^ r.length ≤ s)) then 2 else 0 : Int) = if d = 0 then 0 else 2 := by
      by_cases e : d = 0
      · have := hiff.1 e
        rw [if_pos e, if_neg]; simp; omega
      · have : ¬ (a < 2 ^ r.length ∧ b < 2 ^ r.length) := fun k => e (hiff.2 k)
        rw [if_neg e, if_pos]; simp; omega
    rw [hres]
    clear hres hiff hf hd hab hr h0
    by_cases e : d = 0
    · rw [if_pos e]
      have t : ((d : Int) != 0) = false := by rw [e]; rfl
      clear e
      go_enter Try.func64, Try.ntmps64
      go_wp2_with fail
      refine C.out.mono ?_
      rintro e w1 ⟨rfl, rfl⟩
      go_wp2_with fail
      refine C2.out.mono ?_
      rintro e w1 ⟨rfl, rfl⟩
      go_wp2
      go_ret
      exact ⟨rfl, rfl⟩
    · rw [if_neg e]
      have t : ((d : Int) != 0) = true := by rw [bne_iff_ne]; omega
      clear e
      go_enter Try.func64, Try.ntmps64
      go_wp2_with fail
      refine C.out.mono ?_
      rintro e w1 ⟨rfl, rfl⟩
      go_wp2_with fail
      refine C2.out.mono ?_
      rintro e w1 ⟨rfl, rfl⟩
      go_wp2
      go_ret
      exact ⟨rfl, rfl⟩
  · rw [if_pos (by simpa using h0)]
    have t : (rkErr n r != 0) = true := by rw [bne_iff_ne]; exact h0
    clear h0 ha hb
    obtain ⟨z, hz⟩ : ∃ z, z = rkErr n r := ⟨_, rfl⟩
    rw [← hz] at t C ⊢
    clear hz
    go_enter Try.func64, Try.ntmps64
    go_wp2_with fail
    refine C.out.mono ?_
    rintro e w1 ⟨rfl, rfl⟩
    go_wp2
    go_ret
    exact ⟨rfl, rfl⟩

/-- The reference's rank: none: -1. -/
def rref (r : List Int) (s j : Nat) : Int := if rkTo r s j = 1099511627776 then -1 else rkTo r s j

set_option maxRecDepth 100000 in
set_option maxHeartbeats 2000000 in
theorem rank37_any (w : World) (v : Value) (r : List Int) (s : Nat) (h : Ints .i64 w v r) (hl : r.length ≤ 16) (hr : ∀ i, i < r.length → 0 ≤ nth r i ∧ nth r i ≤ 1000) (hs64 : s < 18446744073709551616) :
    Calls Try.prog 65 #[v, .int .u64 s] w fun e w' => e = .returned (.int .i64 (rref r s r.length)) ∧ w = w' := by
  obtain ⟨A, c, rfl, hs, hf⟩ := h
  have hle := hs.le
  have hcap := hs.cap
  have Hr := Lib.hid hr
  clear hr
  go_enter Try.func65, Try.ntmps65
  go_wp2
  go_loop [5, 6] (fun o i => ∃ k : Nat, k ≤ r.length ∧ i = .int .i64 k ∧ o = .int .i64 (rref r s k)) (fun _ i => r.length - (intOf i).toNat)
  case atStart => exact ⟨0, Nat.zero_le _, rfl, rfl⟩
  case round =>
    obtain ⟨k, hk, rfl, rfl⟩ := hrel
    by_cases hlt : k < r.length
    · obtain ⟨ad, rfl, hb, hc⟩ := hs.get hlt
      have C := Lib.hid (has_ok w s k hs64 (by omega))
      have hstep : rkTo r s (k + 1) = if s.testBit k then min (rkTo r s k) (nth r k) else rkTo r s k := rfl
      have hge := rkTo_ge Hr.out s k (by omega)
      have hle' := rkTo_le r s k
      have hrk := Hr.out k hlt
      have hx1 : rref r s k = if rkTo r s k = 1099511627776 then -1 else rkTo r s k := rfl
      have hx2 : rref r s (k + 1) = if rkTo r s (k + 1) = 1099511627776 then -1 else rkTo r s (k + 1) := rfl
      obtain ⟨x, hx⟩ : ∃ x, x = rref r s k := ⟨_, rfl⟩
      rw [← hx] at hx1 ⊢
      have Hx := Lib.hid hx
      clear hx
      cases hbv : s.testBit k with
      | true =>
        rw [hbv] at C hstep
        rw [if_pos rfl] at hstep
        by_cases g0 : x < 0
        · have e : rref r s (k + 1) = nth r k := by
            rw [hx2, hstep]
            by_cases q : rkTo r s k = 1099511627776
            · rw [q, if_neg (by omega)]; omega
            · rw [if_neg q] at hx1; omega
          have E := Lib.hid e
          clear e hx1 hx2 hstep hge hle' hrk hbv
          go_wp2_with fail
          refine C.out.mono ?_
          rintro e w1 ⟨rfl, rfl⟩
          go_wp2
          go_round
          case rel => exact ⟨k + 1, by omega, by go_num, by rw [E.out]⟩
          case measure => simp [intOf]; omega
        · have e : rref r s (k + 1) = if nth r k < x then nth r k else x := by
            rw [hx2, hstep]
            by_cases q : rkTo r s k = 1099511627776
            · rw [if_pos q] at hx1; omega
            · rw [if_neg q] at hx1
              rw [if_neg (by omega), ← hx1]
              split <;> omega
          have E := Lib.hid e
          clear e hx1 hx2 hstep hge hle' hrk hbv
          by_cases g1 : nth r k < x
          · go_wp2_with fail
            refine C.out.mono ?_
            rintro e w1 ⟨rfl, rfl⟩
            go_wp2
            go_round
            case rel => exact ⟨k + 1, by omega, by go_num, by rw [E.out, if_pos g1]⟩
            case measure => simp [intOf]; omega
          · go_wp2_with fail
            refine C.out.mono ?_
            rintro e w1 ⟨rfl, rfl⟩
            go_wp2
            go_round
            case rel => exact ⟨k + 1, by omega, by go_num, by rw [E.out, if_neg (by omega)]⟩
            case measure => simp [intOf]; omega
      | false =>
        rw [hbv] at C hstep
        rw [if_neg (by simp)] at hstep
        have e : rref r s (k + 1) = x := by rw [hx2, hstep, hx1]
        have E := Lib.hid e
        clear e hx1 hx2 hstep hge hle' hrk hbv
        go_wp2_with fail
        refine C.out.mono ?_
        rintro e w1 ⟨rfl, rfl⟩
        go_wp2
        go_round
        case rel => exact ⟨k + 1, by omega, by go_num, by rw [E.out]⟩
        case measure => simp [intOf]; omega
    · obtain rfl : k = r.length := by omega
      go_wp2
      go_ret
      exact ⟨rfl, rfl⟩

end Go.Proofs.Ytdlhfihddipjaab
