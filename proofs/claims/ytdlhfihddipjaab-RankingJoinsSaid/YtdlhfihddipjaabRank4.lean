/-
  Contracts of the package ranking: Rank, Belief, Firmness, Believes.
-/
import Derived.Test.YtdlhfihddipjaabRank3
namespace Go.Proofs.Ytdlhfihddipjaab
open Go.RowKit

theorem rkSets_zero {n : Int} {r : List Int} {xs : List Nat} (h : rkSets n r xs = 0) : ∃ m : Nat, n = m ∧ m ≤ 4 ∧ RkV m r ∧ r.length ≤ 16 ∧ ∀ x ∈ xs, x < 2 ^ r.length := by
  unfold rkSets at h
  by_cases h0 : rkErr n r = 0
  · rw [if_neg (by simpa using h0)] at h
    obtain ⟨m, e, hm, hr⟩ := rkErr_zero h0
    refine ⟨m, e, hm, hr, by rw [hr.1.1]; exact pow_small hm, fun x hx => ?_⟩
    by_cases q : xs.any (fun s => decide (2 ^ r.length ≤ s)) = true
    · rw [if_pos q] at h; cases h
    · rw [List.any_eq_true] at q
      apply Classical.byContradiction
      intro k
      exact q ⟨x, hx, decide_eq_true (by omega)⟩
  · rw [if_pos (by simpa using h0)] at h; exact absurd h h0

theorem Sets.lit1 (w : World) (s : Nat) (t : TypeId) (hs : s < 18446744073709551616) : Sets (w.alloc (.cells #[.int .u64 s] t)) (.slice (some ⟨w.heap.size, 0, none⟩) 1 1) [s] :=
  Sets.lit w [s] t rfl (by simp) fun i hi => by
    obtain rfl : i = 0 := by simp at hi; omega
    exact hs
theorem Sets.lit2 (w : World) (a b : Nat) (t : TypeId) (ha : a < 18446744073709551616) (hb : b < 18446744073709551616) : Sets (w.alloc (.cells #[.int .u64 a, .int .u64 b] t)) (.slice (some ⟨w.heap.size, 0, none⟩) 2 2) [a, b] :=
  Sets.lit w [a, b] t rfl (by simp) fun i hi => by
    have : i = 0 ∨ i = 1 := by simp at hi; omega
    rcases this with rfl | rfl
    · exact ha
    · exact hb

def rankR (n : Int) (r : List Int) (s : Nat) : Int × Int := if rkSets n r [s] ≠ 0 then (0, rkSets n r [s]) else if s = 0 then (-1, 0) else (rankOf r s, 0)

set_option maxRecDepth 100000 in
set_option maxHeartbeats 2000000 in
theorem Rank_any (w : World) (v : Value) (n : Int) (r : List Int) (s : Nat) (h : Ints .i64 w v r) (hs64 : s < 18446744073709551616) :
    Calls Try.prog 54 #[.int .i64 n, v, .int .u64 s] w fun e w' => e = .returned (.tuple #[.int .i64 (rankR n r s).1, .int .i64 (rankR n r s).2]) ∧ Ext w w' := by
  have hx0 := (Ext.refl w).alloc (.cells #[.int .u64 s] 23)
  have C1 := Lib.hid (rkcheck_any _ v _ n r [s] (h.ext hx0) (Sets.lit1 w s 23 hs64))
  have H := Lib.hid h
  clear h
  unfold rankR
  by_cases h0 : rkSets n r [s] = 0
  · obtain ⟨m, rfl, hm, hr, hl, hx⟩ := rkSets_zero h0
    have C2 := Lib.hid (rank_any _ v r s (H.out.ext hx0) hl hs64)
    rw [if_neg (by simpa using h0)]
    rw [h0] at C1
    clear h0 hx hr hs64
    by_cases e : s = 0
    · subst e
      rw [if_pos rfl]
      go_enter Try.func54, Try.ntmps54
      go_wp2_with fail
      refine C1.out.mono ?_
      rintro e w1 ⟨rfl, rfl⟩
      go_wp2_with fail
      go_ret2
      exact ⟨rfl, hx0⟩
    · rw [if_neg e]
      have t : ((s : Int) == 0) = false := by rw [beq_eq_false_iff_ne]; omega
      clear e
      go_enter Try.func54, Try.ntmps54
      go_wp2_with fail
      refine C1.out.mono ?_
      rintro e w1 ⟨rfl, rfl⟩
      go_wp2_with fail
      refine C2.out.mono ?_
      rintro e w1 ⟨rfl, hy⟩
      go_wp2_with fail
      go_ret2
      exact ⟨rfl, hx0.trans hy⟩
  · rw [if_pos (by simpa using h0)]
    have t : (rkSets n r [s] != 0) = true := by rw [bne_iff_ne]; exact h0
    obtain ⟨z, hz⟩ : ∃ z, z = rkSets n r [s] := ⟨_, rfl⟩
    rw [← hz] at t C1 ⊢
    clear h0 hz hs64
    go_enter Try.func54, Try.ntmps54
    go_wp2_with fail
    refine C1.out.mono ?_
    rintro e w1 ⟨rfl, rfl⟩
    go_wp2_with fail
    go_ret2
    exact ⟨rfl, hx0⟩

/-- The valuations of rank 0. -/
def zeros (r : List Int) : Nat := maskTo (fun v => decide (nth r v = 0)) r.length
def belR (n : Int) (r : List Int) : Nat × Int := if rkErr n r ≠ 0 then (0, rkErr n r) else (zeros r, 0)

set_option maxRecDepth 100000 in
set_option maxHeartbeats 2000000 in
theorem Belief_any (w : World) (v : Value) (n : Int) (r : List Int) (h : Ints .i64 w v r) :
    Calls Try.prog 17 #[.int .i64 n, v] w fun e w' => e = .returned (.tuple #[.int .u64 (belR n r).1, .int .i64 (belR n r).2]) ∧ Ext w w' := by
  have C1 := Lib.hid (rkCheck_any _ v n r h)
  obtain ⟨A, c, rfl, hs, hf⟩ := h
  have hle := hs.le
  have hcap := hs.cap
  unfold belR
  by_cases h0 : rkErr n r = 0
  · have hl : r.length ≤ 16 := by
      obtain ⟨m, _, hm, hr⟩ := rkErr_zero h0
      rw [hr.1.1]; exact pow_small hm
    rw [if_neg (by simpa using h0)]
    rw [h0] at C1
    clear h0
    unfold zeros
    obtain ⟨P, hP⟩ : ∃ P : Nat → Bool, P = fun v => decide (nth r v = 0) := ⟨_, rfl⟩
    rw [← hP]
    have HP := Lib.hid hP
    clear hP
    go_enter Try.func17, Try.ntmps17
    go_wp2_with fail
    refine C1.out.mono ?_
    rintro e w1 ⟨rfl, rfl⟩
    go_wp2
    go_loopw [7, 8, 9, 18] (fun o _ _ i wr => ∃ k : Nat, k ≤ r.length ∧ i = .int .i64 k ∧ o = .int .u64 (maskTo P k : Nat) ∧ Ext w wr) (fun _ _ _ i _ => r.length - (intOf i).toNat)
    case atStart => exact ⟨0, Nat.zero_le _, rfl, rfl, Ext.refl w⟩
    case round =>
      obtain ⟨k, hk, rfl, rfl, hx⟩ := hrel
      by_cases hlt : k < r.length
      · obtain ⟨ad, rfl, hb, hc⟩ := (hs.ext hx).get hlt
        have hor := u64_or_pow (maskTo P k) k (maskTo_lt64 P (by omega)) (by omega)
        have hstep := maskTo_succ P k
        by_cases g0 : nth r k = 0
        · have t : (nth r k == 0) = true := by rw [g0]; rfl
          rw [if_pos (by rw [HP.out]; exact decide_eq_true g0)] at hstep
          rw [← hstep] at hor
          clear g0 hstep
          go_wp2
          go_roundw
          case rel => exact ⟨k + 1, by omega, by go_num, rfl, hx⟩
          case measure => simp [intOf]; omega
        · have t : (nth r k == 0) = false := by rw [beq_eq_false_iff_ne]; exact g0
          rw [if_neg (by rw [HP.out]; simp [g0]), Nat.or_zero] at hstep
          have Hs := Lib.hid hstep
          clear g0 hor hstep
          go_wp2
          go_roundw
          case rel => exact ⟨k + 1, by omega, by go_num, by rw [Hs.out], hx⟩
          case measure => simp [intOf]; omega
      · obtain rfl : k = r.length := by omega
        go_wp2
        go_ret2
        exact ⟨rfl, hx⟩
  · rw [if_pos (by simpa using h0)]
    have t : (rkErr n r != 0) = true := by rw [bne_iff_ne]; exact h0
    obtain ⟨z, hz⟩ : ∃ z, z = rkErr n r := ⟨_, rfl⟩
    rw [← hz] at t C1 ⊢
    clear h0 hz hs hf
    go_enter Try.func17, Try.ntmps17
    go_wp2_with fail
    refine C1.out.mono ?_
    rintro e w1 ⟨rfl, rfl⟩
    go_wp2_with fail
    go_ret2
    exact ⟨rfl, Ext.refl w⟩


def firmR (n : Int) (r : List Int) (s : Nat) : Int × Int := if rkSets n r [s] ≠ 0 then (0, rkSets n r [s]) else if s = 0 ∨ sdiff (full r.length) s = 0 then (0, 6) else (rankOf r (sdiff (full r.length) s) - rankOf r s, 0)
theorem rankOf_le (r : List Int) (s : Nat) : rankOf r s ≤ 1099511627776 := rkTo_le r s _
theorem rankOf_ge {m : Nat} {r : List Int} (h : RkV m r) (s : Nat) : 0 ≤ rankOf r s := rkTo_ge h.1.2 s _ (Nat.le_refl _)

set_option maxRecDepth 100000 in
set_option maxHeartbeats 2000000 in
theorem Firmness_any (w : World) (v : Value) (n : Int) (r : List Int) (s : Nat) (h : Ints .i64 w v r) (hs64 : s < 18446744073709551616) :
    Calls Try.prog 55 #[.int .i64 n, v, .int .u64 s] w fun e w' => e = .returned (.tuple #[.int .i64 (firmR n r s).1, .int .i64 (firmR n r s).2]) ∧ Ext w w' := by
  have hx0 := (Ext.refl w).alloc (.cells #[.int .u64 s] 23)
  have C1 := Lib.hid (rkcheck_any _ v _ n r [s] (h.ext hx0) (Sets.lit1 w s 23 hs64))
  have H := Lib.hid h
  clear h
  unfold firmR
  by_cases h0 : rkSets n r [s] = 0
  · obtain ⟨m, rfl, hm, hr, hl, hx⟩ := rkSets_zero h0
    have hd64 : sdiff (full r.length) s < 18446744073709551616 := Nat.lt_trans (sdiff_lt (full_lt _)) (pow_lt64 (by omega))
    have C2 := Lib.hid (rest_any _ v r s (H.out.ext hx0) hl hs64)
    have g1 := rankOf_le r s
    have g2 := rankOf_ge hr s
    have g3 := rankOf_le r (sdiff (full r.length) s)
    have g4 := rankOf_ge hr (sdiff (full r.length) s)
    have hC3 : ∀ w1, Ext w w1 → Calls Try.prog 63 #[v, .int .u64 s] w1 fun e w' => e = .returned (.int .i64 (rankOf r s)) ∧ Ext w1 w' := fun w1 hx => rank_any _ v r s (H.out.ext hx) hl hs64
    have hC4 : ∀ w1, Ext w w1 → Calls Try.prog 63 #[v, .int .u64 (sdiff (full r.length) s : Nat)] w1 fun e w' => e = .returned (.int .i64 (rankOf r (sdiff (full r.length) s))) ∧ Ext w1 w' := fun w1 hx => rank_any _ v r _ (H.out.ext hx) hl hd64
    have hC5 : ∀ w1, Ext w w1 → Calls Try.prog 60 #[v, .int .u64 s] w1 fun e w' => e = .returned (.int .u64 (sdiff (full r.length) s : Nat)) ∧ w1 = w' := fun w1 hx => rest_any _ v r s (H.out.ext hx) hl hs64
    have C3 := Lib.hid hC3
    have C4 := Lib.hid hC4
    have C5 := Lib.hid hC5
    rw [if_neg (by simpa using h0)]
    rw [h0] at C1
    obtain ⟨d, hd⟩ : ∃ d, d = sdiff (full r.length) s := ⟨_, rfl⟩
    rw [← hd] at C2 C4 C5 g3 g4 ⊢
    obtain ⟨x, hx⟩ : ∃ x, x = rankOf r s := ⟨_, rfl⟩
    obtain ⟨y, hy⟩ : ∃ y, y = rankOf r d := ⟨_, rfl⟩
    rw [← hx] at C3 g1 g2 ⊢
    rw [← hy] at C4 g3 g4 ⊢
    clear h0 hx hy hd hr hs64 hd64 hC3 hC4 hC5
    by_cases e : s = 0
    · subst e
      rw [if_pos (.inl rfl)]
      go_enter Try.func55, Try.ntmps55
      go_wp2_with fail
      refine C1.out.mono ?_
      rintro e w1 ⟨rfl, rfl⟩
      go_wp2_with fail
      go_ret2
      exact ⟨rfl, hx0⟩
    have t : ((s : Int) == 0) = false := by rw [beq_eq_false_iff_ne]; omega
    by_cases e2 : d = 0
    · subst e2
      rw [if_pos (.inr rfl)]
      clear e
      go_enter Try.func55, Try.ntmps55
      go_wp2_with fail
      refine C1.out.mono ?_
      rintro e w1 ⟨rfl, rfl⟩
      go_wp2_with fail
      refine C2.out.mono ?_
      rintro e w1 ⟨rfl, rfl⟩
      go_wp2_with fail
      go_ret2
      exact ⟨rfl, hx0⟩
    · rw [if_neg (by omega)]
      have t2 : ((d : Int) == 0) = false := by rw [beq_eq_false_iff_ne]; omega
      clear e e2
      go_enter Try.func55, Try.ntmps55
      go_wp2_with fail
      refine C1.out.mono ?_
      rintro e w1 ⟨rfl, rfl⟩
      go_wp2_with fail
      refine C2.out.mono ?_
      rintro e w1 ⟨rfl, rfl⟩
      go_wp2_with fail
      refine (C5.out _ hx0).mono ?_
      rintro e w1 ⟨rfl, rfl⟩
      go_wp2_with fail
      refine (C4.out _ hx0).mono ?_
      rintro e w1 ⟨rfl, hz⟩
      have hx1 := hx0.trans hz
      clear hz
      go_wp2_with fail
      refine (C3.out _ hx1).mono ?_
      rintro e w2 ⟨rfl, hz⟩
      have hx2 := hx1.trans hz
      clear hz
      go_wp2_with fail
      go_ret2
      exact ⟨rfl, hx2⟩
  · rw [if_pos (by simpa using h0)]
    have t : (rkSets n r [s] != 0) = true := by rw [bne_iff_ne]; exact h0
    obtain ⟨z, hz⟩ : ∃ z, z = rkSets n r [s] := ⟨_, rfl⟩
    rw [← hz] at t C1 ⊢
    clear h0 hz hs64
    go_enter Try.func55, Try.ntmps55
    go_wp2_with fail
    refine C1.out.mono ?_
    rintro e w1 ⟨rfl, rfl⟩
    go_wp2_with fail
    go_ret2
    exact ⟨rfl, hx0⟩

def belvB (r : List Int) (c s : Nat) : Bool := decide (c = 0) || decide (rankOf r (c &&& s) < rankOf r (sdiff c s))
def belvR (n : Int) (r : List Int) (c s : Nat) : Bool × Int := if rkSets n r [c, s] ≠ 0 then (false, rkSets n r [c, s]) else (belvB r c s, 0)

set_option maxRecDepth 100000 in
set_option maxHeartbeats 2000000 in
theorem Believes_any (w : World) (v : Value) (n : Int) (r : List Int) (q s : Nat) (h : Ints .i64 w v r) (hq64 : q < 18446744073709551616) (hs64 : s < 18446744073709551616) :
    Calls Try.prog 18 #[.int .i64 n, v, .int .u64 q, .int .u64 s] w fun e w' => e = .returned (.tuple #[.bool (belvR n r q s).1, .int .i64 (belvR n r q s).2]) ∧ Ext w w' := by
  have hx0 := (Ext.refl w).alloc (.cells #[.int .u64 q, .int .u64 s] 23)
  have C1 := Lib.hid (rkcheck_any _ v _ n r [q, s] (h.ext hx0) (Sets.lit2 w q s 23 hq64 hs64))
  have H := Lib.hid h
  clear h
  unfold belvR belvB
  by_cases h0 : rkSets n r [q, s] = 0
  · obtain ⟨m, rfl, hm, hr, hl, hx⟩ := rkSets_zero h0
    have hqN := hx q (by simp)
    have hN := pow_lt64 (show r.length < 64 by omega)
    have h1 := u64_andNot q s hq64 hs64
    have h2 := u64_and q s hq64 hs64
    have hd64 : sdiff q s < 18446744073709551616 := Nat.lt_trans (sdiff_lt hqN) hN
    have ha64 : q &&& s < 18446744073709551616 := Nat.lt_trans (and_lt hqN) hN
    obtain ⟨d, hd⟩ : ∃ d, d = sdiff q s := ⟨_, rfl⟩
    obtain ⟨a, ha⟩ : ∃ a, a = q &&& s := ⟨_, rfl⟩
    rw [← hd] at h1 hd64 ⊢
    rw [← ha] at h2 ha64 ⊢
    have hC3 : ∀ w1, Ext w w1 → Calls Try.prog 63 #[v, .int .u64 d] w1 fun e w' => e = .returned (.int .i64 (rankOf r d)) ∧ Ext w1 w' := fun w1 hx => rank_any _ v r d (H.out.ext hx) hl hd64
    have hC4 : ∀ w1, Ext w w1 → Calls Try.prog 63 #[v, .int .u64 a] w1 fun e w' => e = .returned (.int .i64 (rankOf r a)) ∧ Ext w1 w' := fun w1 hx => rank_any _ v r a (H.out.ext hx) hl ha64
    have C3 := Lib.hid hC3
    have C4 := Lib.hid hC4
    rw [if_neg (by simpa using h0)]
    rw [h0] at C1
    obtain ⟨x, hx⟩ : ∃ x, x = rankOf r d := ⟨_, rfl⟩
    obtain ⟨y, hy⟩ : ∃ y, y = rankOf r a := ⟨_, rfl⟩
    rw [← hx] at C3 ⊢
    rw [← hy] at C4 ⊢
    clear h0 hx hy hd ha hr hs64 hd64 ha64 hq64 hqN hN hC3 hC4
    by_cases e : q = 0
    · subst e
      go_enter Try.func18, Try.ntmps18
      go_wp2_with fail
      refine C1.out.mono ?_
      rintro e w1 ⟨rfl, rfl⟩
      go_wp2_with fail
      go_ret2
      exact ⟨by simp, hx0⟩
    have t : ((q : Int) == 0) = false := by rw [beq_eq_false_iff_ne]; omega
    have t2 : (decide (q = 0) || decide (y < x)) = decide (y < x) := by simp [e]
    rw [t2]
    clear e t2
    go_enter Try.func18, Try.ntmps18
    go_wp2_with fail
    refine C1.out.mono ?_
    rintro e w1 ⟨rfl, rfl⟩
    go_wp2_with fail
    refine (C3.out _ hx0).mono ?_
    rintro e w1 ⟨rfl, hz⟩
    have hx1 := hx0.trans hz
    clear hz
    go_wp2_with fail
    refine (C4.out _ hx1).mono ?_
    rintro e w2 ⟨rfl, hz⟩
    have hx2 := hx1.trans hz
    clear hz
    go_wp2_with fail
    go_ret2
    exact ⟨rfl, hx2⟩
  · rw [if_pos (by simpa using h0)]
    have t : (rkSets n r [q, s] != 0) = true := by rw [bne_iff_ne]; exact h0
    obtain ⟨z, hz⟩ : ∃ z, z = rkSets n r [q, s] := ⟨_, rfl⟩
    rw [← hz] at t C1 ⊢
    clear h0 hz hs64 hq64
    go_enter Try.func18, Try.ntmps18
    go_wp2_with fail
    refine C1.out.mono ?_
    rintro e w1 ⟨rfl, rfl⟩
    go_wp2_with fail
    go_ret2
    exact ⟨rfl, hx0⟩

end Go.Proofs.Ytdlhfihddipjaab
