/-
  Contracts of the package ranking: Check, check; and of its reference: Check, All, sets.
-/
import Derived.Test.YtdlhfihddipjaabGen
namespace Go.Proofs.Ytdlhfihddipjaab
open Go.RowKit

theorem any_nth {r : List Int} {Q : Int → Bool} : r.any Q = true ↔ ∃ i, i < r.length ∧ Q (nth r i) = true := by
  rw [List.any_eq_true]
  constructor
  · rintro ⟨x, hx, hq⟩
    obtain ⟨i, hi, rfl⟩ := List.mem_iff_getElem.1 hx
    exact ⟨i, hi, by rw [nth_eq hi]; exact hq⟩
  · rintro ⟨i, hi, hq⟩
    exact ⟨_, nth_mem hi, hq⟩
def zeroB (r : List Int) : Bool := r.any fun x => decide (x = 0)
theorem zeroB_iff {r : List Int} : zeroB r = true ↔ ∃ i, i < r.length ∧ nth r i = 0 := by
  unfold zeroB
  rw [any_nth]
  simp
/-- The error of a ranking function: its number of facts, its length, its ranks, its least rank. -/
def rkErr (n : Int) (r : List Int) : Int := if n < 0 ∨ 4 < n then 2 else if r.length ≠ 2 ^ n.toNat then 3 else if r.any outOf then 2 else if zeroB r then 0 else 1
/-- A ranking function of 'm' facts. -/
def RkV (m : Nat) (r : List Int) : Prop := Ranks m r ∧ ∃ i, i < r.length ∧ nth r i = 0
theorem rkErr_zero {n : Int} {r : List Int} (h : rkErr n r = 0) : ∃ m : Nat, n = m ∧ m ≤ 4 ∧ RkV m r := by
  unfold rkErr at h
  by_cases h0 : n < 0 ∨ 4 < n
  · rw [if_pos h0] at h; cases h
  rw [if_neg h0] at h
  obtain ⟨m, rfl⟩ := Int.eq_ofNat_of_zero_le (show 0 ≤ n by omega)
  by_cases hl : r.length = 2 ^ m
  · rw [if_neg (by simpa using hl)] at h
    by_cases ha : r.any outOf = true
    · rw [if_pos ha] at h; cases h
    · rw [if_neg ha] at h
      by_cases hz : zeroB r = true
      · refine ⟨m, rfl, by omega, ⟨hl, fun i hi => ?_⟩, zeroB_iff.1 hz⟩
        have : ¬ outOf (nth r i) = true := fun e => ha (any_nth.2 ⟨i, hi, e⟩)
        unfold outOf at this
        simp at this
        omega
      · rw [if_neg hz] at h; cases h
  · rw [if_pos (by simpa using hl)] at h; cases h
theorem rkErr_ok {m : Nat} {r : List Int} (hm : m ≤ 4) (h : RkV m r) : rkErr m r = 0 := by
  unfold rkErr
  rw [if_neg (by omega), if_neg (by simpa using h.1.1), if_neg, if_pos (zeroB_iff.2 h.2)]
  rw [any_nth]
  rintro ⟨i, hi, hq⟩
  have := h.1.2 i hi
  unfold outOf at hq
  simp at hq
  omega

set_option maxHeartbeats 1000000 in
theorem rkClosure (x : Int) (w : World) : Calls Try.prog 52 #[.int .i64 x] w fun e w' => e = .returned (.bool (outOf x)) ∧ w = w' := by
  unfold outOf
  by_cases h0 : x < 0
  · go_enter Try.func52, Try.ntmps52
    go_wp2
    go_ret
    exact ⟨by simp [h0], rfl⟩
  · by_cases h1 : 1000 < x
    · go_enter Try.func52, Try.ntmps52
      go_wp2
      go_ret
      exact ⟨by simp, rfl⟩
    · go_enter Try.func52, Try.ntmps52
      go_wp2
      go_ret
      exact ⟨by simp [h0, h1], rfl⟩

set_option maxRecDepth 100000 in
set_option maxHeartbeats 1000000 in
theorem index_any (w : World) (v : Value) (p : List Int) (h : Ints .i64 w v p) :
    Calls Try.prog 97 #[v, .int .i64 0] w fun e w' => ∃ i : Int, e = .returned (.int .i64 i) ∧ (decide (0 ≤ i) = zeroB p) ∧ w = w' := by
  obtain ⟨A, c, rfl, hs, hf⟩ := h
  have hle := hs.le
  have hcap := hs.cap
  go_enter Try.func97, Try.ntmps97
  go_wp2
  go_loop [8] (fun i => ∃ k : Nat, k ≤ p.length ∧ i = .int .i64 k ∧ Hid (∀ j, j < k → nth p j ≠ 0)) (fun i => p.length - (intOf i).toNat)
  case atStart => exact ⟨0, Nat.zero_le _, rfl, fun j hj => absurd hj (by omega)⟩
  case round =>
    obtain ⟨k, hk, rfl, hgo⟩ := hrel
    by_cases hlt : k < p.length
    · obtain ⟨ad, rfl, hb, hc⟩ := hs.get hlt
      by_cases h0 : nth p k = 0
      · have t : ((0 : Int) == nth p k) = true := by rw [h0]; rfl
        have H0 := Lib.hid h0
        clear h0
        go_wp2
        go_ret
        exact ⟨_, rfl, by rw [zeroB_iff.2 ⟨k, hlt, H0.out⟩]; simp, rfl⟩
      · have t : ((0 : Int) == nth p k) = false := by rw [beq_eq_false_iff_ne]; exact fun e => h0 e.symm
        have H0 := Lib.hid h0
        clear h0
        go_wp2
        go_round
        case rel => exact ⟨k + 1, by omega, by go_num, fun j hj => by
          by_cases e : j = k
          · rw [e]; exact H0.out
          · exact hgo.out j (by omega)⟩
        case measure => simp [intOf]; omega
    · go_wp2
      go_ret
      refine ⟨_, rfl, ?_, rfl⟩
      have : ¬ zeroB p = true := fun e => by
        obtain ⟨i, hi, h⟩ := zeroB_iff.1 e
        exact hgo.out i (by omega) h
      rw [Bool.not_eq_true] at this
      rw [this]; rfl

set_option maxHeartbeats 1000000 in
theorem contains0_any (w : World) (v : Value) (p : List Int) (h : Ints .i64 w v p) :
    Calls Try.prog 53 #[v, .int .i64 0] w fun e w' => e = .returned (.bool (zeroB p)) ∧ w = w' := by
  have C := Lib.hid (index_any w v p h)
  clear h
  go_enter Try.func53, Try.ntmps53
  go_wp2_with fail
  refine C.out.mono ?_
  rintro e w1 ⟨i, rfl, hi, rfl⟩
  go_wp2
  go_ret
  exact ⟨rfl, rfl⟩

set_option maxRecDepth 100000 in
set_option maxHeartbeats 1000000 in
theorem rkCheck_any (w : World) (v : Value) (n : Int) (r : List Int) (h : Ints .i64 w v r) :
    Calls Try.prog 14 #[.int .i64 n, v] w fun e w' => e = .returned (.int .i64 (rkErr n r)) ∧ w = w' := by
  have H := Lib.hid h
  obtain ⟨A, c, rfl, hs, hf⟩ := h
  have hle := hs.le
  have hcap := hs.cap
  clear hs hf
  unfold rkErr
  by_cases h0 : n < 0
  · rw [if_pos (.inl h0)]
    go_enter Try.func14, Try.ntmps14
    go_wp2
    go_ret
    exact ⟨rfl, rfl⟩
  · by_cases h4 : 4 < n
    · rw [if_pos (.inr h4)]
      go_enter Try.func14, Try.ntmps14
      go_wp2
      go_ret
      exact ⟨rfl, rfl⟩
    · rw [if_neg (by omega)]
      obtain ⟨m, rfl⟩ := Int.eq_ofNat_of_zero_le (show 0 ≤ n by omega)
      have hm : m ≤ 4 := by omega
      obtain ⟨N, hN⟩ : ∃ N, N = 2 ^ m := ⟨_, rfl⟩
      have hw := wrap64_pow m (by omega)
      rw [← hN] at hw
      by_cases hl : r.length = N
      · rw [if_neg (by simp; rw [← hN]; exact hl)]
        have t : ((r.length : Int) != (N : Int)) = false := by simp [hl]
        cases hq : r.any outOf with
        | true =>
          rw [if_pos rfl]
          have C := Lib.hid (containsFunc_yes (Q := outOf) w _ r H.out (fun _ _ => by kernel_rfl) rkClosure (any_nth.1 hq))
          clear hl hN h0 h4 hq
          go_enter Try.func14, Try.ntmps14
          go_wp2_with fail
          refine C.out.mono ?_
          rintro e w1 ⟨rfl, rfl⟩
          go_wp2
          go_ret
          exact ⟨rfl, rfl⟩
        | false =>
          rw [if_neg (by simp)]
          have C := Lib.hid (containsFunc_no (Q := outOf) w _ r H.out (fun _ _ => by kernel_rfl) rkClosure (fun i hi => by
            cases e : outOf (nth r i) with
            | false => rfl
            | true => rw [any_nth.2 ⟨i, hi, e⟩] at hq; cases hq))
          have C2 := Lib.hid (contains0_any w _ r H.out)
          clear hl hN h0 h4 hq
          cases hz : zeroB r with
          | true =>
            rw [hz] at C2
            clear hz
            go_enter Try.func14, Try.ntmps14
            go_wp2_with fail
            refine C.out.mono ?_
            rintro e w1 ⟨rfl, rfl⟩
            go_wp2_with fail
            refine C2.out.mono ?_
            rintro e w1 ⟨rfl, rfl⟩
            go_wp2
            go_ret
            exact ⟨rfl, rfl⟩
          | false =>
            rw [hz] at C2
            clear hz
            go_enter Try.func14, Try.ntmps14
            go_wp2_with fail
            refine C.out.mono ?_
            rintro e w1 ⟨rfl, rfl⟩
            go_wp2_with fail
            refine C2.out.mono ?_
            rintro e w1 ⟨rfl, rfl⟩
            go_wp2
            go_ret
            exact ⟨rfl, rfl⟩
      · rw [if_pos (by simp; rw [← hN]; exact hl)]
        have t : ((r.length : Int) != (N : Int)) = true := by rw [bne_iff_ne]; omega
        clear hl hN h0 h4
        go_enter Try.func14, Try.ntmps14
        go_wp2
        go_ret
        exact ⟨rfl, rfl⟩

end Go.Proofs.Ytdlhfihddipjaab
