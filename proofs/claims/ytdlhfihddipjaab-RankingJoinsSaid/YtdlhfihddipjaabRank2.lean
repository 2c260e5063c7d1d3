/-
  Contracts: ranking.check, rank, rest; of the reference: All, has, Check, sets, rank.
-/
import Derived.Test.YtdlhfihddipjaabRank1
namespace Go.Proofs.Ytdlhfihddipjaab
open Go.RowKit

/-- The error of a ranking function with sets. -/
def rkSets (n : Int) (r : List Int) (xs : List Nat) : Int := if rkErr n r ≠ 0 then rkErr n r else if xs.any (fun s => decide (2 ^ r.length ≤ s)) then 2 else 0
theorem anyN_nth {r : List Nat} {Q : Nat → Bool} : r.any Q = true ↔ ∃ i, i < r.length ∧ Q (nthN r i) = true := by
  rw [List.any_eq_true]
  constructor
  · rintro ⟨x, hx, hq⟩
    obtain ⟨i, hi, rfl⟩ := List.mem_iff_getElem.1 hx
    exact ⟨i, hi, by rw [nthN_eq hi]; exact hq⟩
  · rintro ⟨i, hi, hq⟩
    exact ⟨_, nthN_mem hi, hq⟩

set_option maxRecDepth 100000 in
set_option maxHeartbeats 2000000 in
theorem rkcheck_any (w : World) (v v2 : Value) (n : Int) (r : List Int) (xs : List Nat) (h : Ints .i64 w v r) (h2 : Sets w v2 xs) :
    Calls Try.prog 59 #[.int .i64 n, v, v2] w fun e w' => e = .returned (.int .i64 (rkSets n r xs)) ∧ w = w' := by
  have C := Lib.hid (rkCheck_any w v n r h)
  obtain ⟨A, c, rfl, hs, hf⟩ := h
  have hle := hs.le
  have hcap := hs.cap
  clear hs hf
  obtain ⟨A', c', rfl, hs', hf'⟩ := h2
  have hle' := hs'.le
  have hcap' := hs'.cap
  unfold rkSets
  by_cases h0 : rkErr n r = 0
  · rw [if_neg (by simpa using h0)]
    rw [h0] at C
    have hl16 : r.length ≤ 16 := by
      obtain ⟨m, _, hm, hr⟩ := rkErr_zero h0
      rw [hr.1.1]; exact pow_small hm
    clear h0
    obtain ⟨z, hz⟩ : ∃ z : Int, z = if xs.any (fun s => decide (2 ^ r.length ≤ s)) then 2 else 0 := ⟨_, rfl⟩
    rw [← hz]
    have Hz := Lib.hid hz
    clear hz
    go_enter Try.func59, Try.ntmps59
    go_wp2_with fail
    refine C.out.mono ?_
    rintro e w1 ⟨rfl, rfl⟩
    go_wp2
    go_loop [9, 18] (fun _ i => ∃ k : Nat, k ≤ xs.length ∧ i = .int .i64 k ∧ Hid (∀ j, j < k → ¬ 2 ^ r.length ≤ nthN xs j)) (fun _ i => xs.length - (intOf i).toNat)
    case atStart => exact ⟨0, Nat.zero_le _, rfl, fun j hj => absurd hj (by omega)⟩
    case round =>
      obtain ⟨k, hk, rfl, hgo⟩ := hrel
      by_cases hlt : k < xs.length
      · obtain ⟨ad, rfl, hb, hc⟩ := hs'.get hlt
        have t := shr_ne (nthN xs k) r.length
        by_cases hbad : 2 ^ r.length ≤ nthN xs k
        · rw [decide_eq_true hbad] at t
          have Hb := Lib.hid hbad
          clear hbad
          go_wp2
          go_ret
          refine ⟨?_, rfl⟩
          rw [Hz.out, if_pos (anyN_nth.2 ⟨k, hlt, decide_eq_true Hb.out⟩)]; rfl
        · rw [decide_eq_false hbad] at t
          have Hb := Lib.hid hbad
          clear hbad
          go_wp2
          go_round
          case rel => exact ⟨k + 1, by omega, by go_num, fun j hj => by
            by_cases e : j = k
            · rw [e]; exact Hb.out
            · exact hgo.out j (by omega)⟩
          case measure => simp [intOf]; omega
      · go_wp2
        go_ret
        refine ⟨?_, rfl⟩
        rw [Hz.out, if_neg]
        · rfl
        rw [anyN_nth]
        rintro ⟨i, hi, hq⟩
        rw [decide_eq_true_eq] at hq
        exact hgo.out i (by omega) hq
  · rw [if_pos (by simpa using h0)]
    have t : (rkErr n r != 0) = true := by rw [bne_iff_ne]; exact h0
    clear h0 hs' hf'
    obtain ⟨z, hz⟩ : ∃ z, z = rkErr n r := ⟨_, rfl⟩
    rw [← hz] at t C ⊢
    clear hz
    go_enter Try.func59, Try.ntmps59
    go_wp2_with fail
    refine C.out.mono ?_
    rintro e w1 ⟨rfl, rfl⟩
    go_wp2
    go_ret
    exact ⟨rfl, rfl⟩

/-- The least rank of the members of a set below 'j'; none: beyond all ranks. -/
def rkTo (r : List Int) (s : Nat) : Nat → Int
  | 0 => 1099511627776
  | j + 1 => if s.testBit j then min (rkTo r s j) (nth r j) else rkTo r s j
def rankOf (r : List Int) (s : Nat) : Int := rkTo r s r.length
theorem rkTo_le (r : List Int) (s j : Nat) : rkTo r s j ≤ 1099511627776 := by
  induction j with
  | zero => exact Int.le_refl _
  | succ j ih => rw [rkTo]; split <;> omega
theorem rkTo_ge {r : List Int} (h : ∀ i, i < r.length → 0 ≤ nth r i ∧ nth r i ≤ 1000) (s j : Nat) (hj : j ≤ r.length) : 0 ≤ rkTo r s j := by
  induction j with
  | zero => simp [rkTo]
  | succ j ih => rw [rkTo]; have := ih (by omega); have := h j (by omega); split <;> omega

set_option maxRecDepth 100000 in
set_option maxHeartbeats 2000000 in
theorem rank_same (w : World) (v : Value) (r : List Int) (s : Nat) (h : Ints .i64 w v r) (hl : r.length ≤ 16) (hs64 : s < 18446744073709551616) :
    Calls Try.prog 63 #[v, .int .u64 s] w fun e w' => e = .returned (.int .i64 (rankOf r s)) ∧ w = w' := by
  obtain ⟨A, c, rfl, hs, hf⟩ := h
  have hle := hs.le
  have hcap := hs.cap
  unfold rankOf
  go_enter Try.func63, Try.ntmps63
  go_wp2
  go_loopw [5, 6, 7, 10] (fun o _ _ i wr => ∃ k : Nat, k ≤ r.length ∧ i = .int .i64 k ∧ o = .int .i64 (rkTo r s k) ∧ w = wr) (fun _ _ _ i _ => r.length - (intOf i).toNat)
  case atStart => exact ⟨0, Nat.zero_le _, rfl, rfl, rfl⟩
  case round =>
    obtain ⟨k, hk, rfl, rfl, rfl⟩ := hrel
    by_cases hlt : k < r.length
    · obtain ⟨ad, rfl, hb, hc⟩ := hs.get hlt
      have hbit := u64_bit1 s k hs64
      have hstep : rkTo r s (k + 1) = if s.testBit k then min (rkTo r s k) (nth r k) else rkTo r s k := rfl
      cases hbv : s.testBit k with
      | true =>
        rw [hbv] at hbit
        rw [hbv, if_pos rfl] at hstep
        have Hs := Lib.hid hstep
        clear hstep hbv
        go_wp2
        go_roundw
        case rel => exact ⟨k + 1, by omega, by go_num, by rw [Hs.out]; congr 1; split <;> omega, trivial⟩
        case measure => simp [intOf]; omega
      | false =>
        rw [hbv] at hbit
        rw [hbv, if_neg (by simp)] at hstep
        have Hs := Lib.hid hstep
        clear hstep hbv
        go_wp2
        go_roundw
        case rel => exact ⟨k + 1, by omega, by go_num, by rw [Hs.out], trivial⟩
        case measure => simp [intOf]; omega
    · obtain rfl : k = r.length := by omega
      go_wp2
      go_ret
      exact ⟨rfl, rfl⟩

theorem rank_any (w : World) (v : Value) (r : List Int) (s : Nat) (h : Ints .i64 w v r) (hl : r.length ≤ 16) (hs64 : s < 18446744073709551616) :
    Calls Try.prog 63 #[v, .int .u64 s] w fun e w' => e = .returned (.int .i64 (rankOf r s)) ∧ Ext w w' :=
  (rank_same w v r s h hl hs64).mono fun _ _ k => ⟨k.1, k.2 ▸ Ext.refl w⟩

set_option maxHeartbeats 1000000 in
theorem rest_any (w : World) (v : Value) (r : List Int) (s : Nat) (h : Ints .i64 w v r) (hl : r.length ≤ 16) (hs64 : s < 18446744073709551616) :
    Calls Try.prog 60 #[v, .int .u64 s] w fun e w' => e = .returned (.int .u64 (sdiff (full r.length) s : Nat)) ∧ w = w' := by
  obtain ⟨A, c, rfl, hs, hf⟩ := h
  have hle := hs.le
  have hcap := hs.cap
  have h1 := u64_full r.length (by omega)
  have h2 := u64_andNot (full r.length) s (full_lt64 (by omega)) hs64
  obtain ⟨f, hf⟩ : ∃ f, f = full r.length := ⟨_, rfl⟩
  rw [← hf] at h1 h2 ⊢
  obtain ⟨d, hd⟩ : ∃ d, d = sdiff f s := ⟨_, rfl⟩
  rw [← hd] at h2 ⊢
  clear hd hf hs
  go_enter Try.func60, Try.ntmps60
  go_wp2
  go_ret
  exact ⟨rfl, rfl⟩

end Go.Proofs.Ytdlhfihddipjaab
