/-
  Contracts: ranking.Independent; the reference's adds and Independent.
-/
import Derived.Test.YtdlhfihddipjaabRank11b
import Derived.Test.YtdlhfihddipjaabRkP
namespace Go.Proofs.Ytdlhfihddipjaab
open Go.RowKit

/-- The ranks of two sets add up. -/
def addB (r : List Int) (x y : Nat) : Bool := decide (min (rankOf r x + rankOf r y) 1099511627776 = rankOf r (x &&& y))
def indB (r : List Int) (a b : Nat) : Bool := addB r a b && addB r a (sdiff (full r.length) b) && addB r (sdiff (full r.length) a) b && addB r (sdiff (full r.length) a) (sdiff (full r.length) b)
def indR (n : Int) (r : List Int) (a b : Nat) : Bool × Int := if rkSets n r [a, b] ≠ 0 then (false, rkSets n r [a, b]) else (indB r a b, 0)

set_option maxRecDepth 100000 in
set_option maxHeartbeats 2000000 in
theorem adds_any (w : World) (v : Value) (m : Nat) (r : List Int) (x y : Nat) (h : Ints .i64 w v r) (hl : r.length ≤ 16) (hr : RkV m r) (hx : x < 2 ^ r.length) (hy : y < 2 ^ r.length) :
    Calls Try.prog 67 #[v, .int .u64 x, .int .u64 y] w fun e w' => e = .returned (.bool (addB r x y)) ∧ w = w' := by
  have hN := pow_lt64 (show r.length < 64 by omega)
  have hand := u64_and x y (Nat.lt_trans hx hN) (Nat.lt_trans hy hN)
  have hz := and_lt (y := y) hx
  have C1 := rank37_any w v r x h hl hr.1.2 (Nat.lt_trans hx hN)
  have C2 := rank37_any w v r y h hl hr.1.2 (Nat.lt_trans hy hN)
  have C3 := rank37_any w v r (x &&& y) h hl hr.1.2 (Nat.lt_trans hz hN)
  rw [rref_eq hr hx] at C1
  rw [rref_eq hr hy] at C2
  rw [rref_eq hr hz] at C3
  have i1 := rank_inf hr hx
  have i2 := rank_inf hr hy
  have i3 := rank_inf hr hz
  have g1 := rankOf_ge hr x
  have g2 := rankOf_ge hr y
  have g3 := rankOf_ge hr (x &&& y)
  have l1 := rankOf_le r x
  have l2 := rankOf_le r y
  have l3 := rankOf_le r (x &&& y)
  unfold addB
  obtain ⟨z, hzz⟩ : ∃ z, z = x &&& y := ⟨_, rfl⟩
  rw [← hzz] at hand C3 i3 g3 l3 ⊢
  have n1 : x ≠ 0 → rankOf r x ≤ 1000 := fun e => by
    obtain ⟨i, hi, _, k⟩ := rank_att' hr hx e
    have := hr.1.2 i hi; omega
  have n2 : y ≠ 0 → rankOf r y ≤ 1000 := fun e => by
    obtain ⟨i, hi, _, k⟩ := rank_att' hr hy e
    have := hr.1.2 i hi; omega
  obtain ⟨X, hX⟩ : ∃ X, X = rankOf r x := ⟨_, rfl⟩
  obtain ⟨Y, hY⟩ : ∃ Y, Y = rankOf r y := ⟨_, rfl⟩
  obtain ⟨Z, hZ⟩ : ∃ Z, Z = rankOf r z := ⟨_, rfl⟩
  rw [← hX] at C1 i1 g1 l1 n1 ⊢
  rw [← hY] at C2 i2 g2 l2 n2 ⊢
  rw [← hZ] at C3 i3 g3 l3 ⊢
  clear hX hY hZ hzz h hr hx hy hz hN
  by_cases e1 : x = 0
  · rw [if_pos e1] at C1
    have a1 := i1.2 e1
    obtain ⟨B, hB⟩ : ∃ B : Int, B = if y = 0 then -1 else Y := ⟨_, rfl⟩
    rw [← hB] at C2
    obtain ⟨D, hD⟩ : ∃ D : Int, D = if z = 0 then -1 else Z := ⟨_, rfl⟩
    rw [← hD] at C3
    have res : decide (min (X + Y) 1099511627776 = Z) = decide (D < 0) := by
      rw [decide_eq_decide, hD]
      by_cases q : z = 0
      · rw [if_pos q]; have := i3.2 q; omega
      · rw [if_neg q]; have : Z ≠ 1099511627776 := fun k => q (i3.1 k); omega
    rw [res]
    have C1 := Lib.hid C1
    have C2 := Lib.hid C2
    have C3 := Lib.hid C3
    clear res hD hB a1 e1 i1 i2 i3 n1 n2
    go_enter Try.func67, Try.ntmps67
    go_wp2_with fail
    refine C1.out.mono ?_
    rintro e w1 ⟨rfl, rfl⟩
    go_wp2_with fail
    refine C2.out.mono ?_
    rintro e w1 ⟨rfl, rfl⟩
    go_wp2_with fail
    refine C3.out.mono ?_
    rintro e w1 ⟨rfl, rfl⟩
    go_wp2_with fail
    go_ret
    exact ⟨rfl, rfl⟩
  rw [if_neg e1] at C1
  have hX0 : decide (X < 0) = false := by rw [decide_eq_false_iff_not]; omega
  by_cases e2 : y = 0
  · rw [if_pos e2] at C2
    have a1 := i2.2 e2
    obtain ⟨D, hD⟩ : ∃ D : Int, D = if z = 0 then -1 else Z := ⟨_, rfl⟩
    rw [← hD] at C3
    have res : decide (min (X + Y) 1099511627776 = Z) = decide (D < 0) := by
      rw [decide_eq_decide, hD]
      by_cases q : z = 0
      · rw [if_pos q]; have := i3.2 q; omega
      · rw [if_neg q]; have : Z ≠ 1099511627776 := fun k => q (i3.1 k); omega
    rw [res]
    have C1 := Lib.hid C1
    have C2 := Lib.hid C2
    have C3 := Lib.hid C3
    clear res hD a1 e1 e2 i1 i2 i3 n1 n2
    go_enter Try.func67, Try.ntmps67
    go_wp2_with fail
    refine C1.out.mono ?_
    rintro e w1 ⟨rfl, rfl⟩
    go_wp2_with fail
    refine C2.out.mono ?_
    rintro e w1 ⟨rfl, rfl⟩
    go_wp2_with fail
    refine C3.out.mono ?_
    rintro e w1 ⟨rfl, rfl⟩
    go_wp2_with fail
    go_ret
    exact ⟨rfl, rfl⟩
  · rw [if_neg e2] at C2
    have hY0 : decide (Y < 0) = false := by rw [decide_eq_false_iff_not]; omega
    obtain ⟨D, hD⟩ : ∃ D : Int, D = if z = 0 then -1 else Z := ⟨_, rfl⟩
    rw [← hD] at C3
    have b1 := n1 e1
    have b2 := n2 e2
    have hw : wrap64 (X + Y) = X + Y := IntWalk.wrap64_in _ ⟨by omega, by omega⟩
    have res : decide (min (X + Y) 1099511627776 = Z) = (D == X + Y) := by
      have : (D == X + Y) = decide (D = X + Y) := rfl
      rw [this, decide_eq_decide, hD]
      by_cases q : z = 0
      · rw [if_pos q]; have := i3.2 q; omega
      · rw [if_neg q]; omega
    rw [res]
    have C1 := Lib.hid C1
    have C2 := Lib.hid C2
    have C3 := Lib.hid C3
    clear res hD e1 e2 i1 i2 i3 n1 n2
    go_enter Try.func67, Try.ntmps67
    go_wp2_with fail
    refine C1.out.mono ?_
    rintro e w1 ⟨rfl, rfl⟩
    go_wp2_with fail
    refine C2.out.mono ?_
    rintro e w1 ⟨rfl, rfl⟩
    go_wp2_with fail
    refine C3.out.mono ?_
    rintro e w1 ⟨rfl, rfl⟩
    go_wp2_with fail
    go_ret
    exact ⟨rfl, rfl⟩

set_option maxRecDepth 100000 in
set_option maxHeartbeats 4000000 in
theorem refIndependent_any (w : World) (v : Value) (n : Int) (r : List Int) (a b : Nat) (h : Ints .i64 w v r) (ha64 : a < 18446744073709551616) (hb64 : b < 18446744073709551616) :
    Calls Try.prog 21 #[.int .i64 n, v, .int .u64 a, .int .u64 b] w fun e w' => e = .returned (.tuple #[.bool (indR n r a b).1, .int .i64 (indR n r a b).2]) ∧ w = w' := by
  have C1 := Lib.hid (sets37_any w v n r a b h ha64 hb64)
  unfold indR indB
  by_cases h0 : rkSets n r [a, b] = 0
  · obtain ⟨m, rfl, hm, hr, hl, hx⟩ := rkSets_zero h0
    have haN := hx a (by simp)
    have hbN := hx b (by simp)
    have h1 := u64_andNot (full r.length) a (full_lt64 (by omega)) ha64
    have h2 := u64_andNot (full r.length) b (full_lt64 (by omega)) hb64
    have hcN : sdiff (full r.length) a < 2 ^ r.length := sdiff_lt (full_lt _)
    have hdN : sdiff (full r.length) b < 2 ^ r.length := sdiff_lt (full_lt _)
    have C0 := refAll37_ok w m hm
    rw [← hr.1.1] at C0
    have C0 := Lib.hid C0
    obtain ⟨c, hc⟩ : ∃ c, c = sdiff (full r.length) a := ⟨_, rfl⟩
    obtain ⟨d, hd⟩ : ∃ d, d = sdiff (full r.length) b := ⟨_, rfl⟩
    rw [← hc] at h1 hcN ⊢
    rw [← hd] at h2 hdN ⊢
    obtain ⟨f, hf⟩ : ∃ f, f = full r.length := ⟨_, rfl⟩
    rw [← hf] at h1 h2 C0
    have B1 := adds_any w v m r a b h hl hr haN hbN
    have B2 := adds_any w v m r a d h hl hr haN hdN
    have B3 := adds_any w v m r c b h hl hr hcN hbN
    have B4 := adds_any w v m r c d h hl hr hcN hdN
    rw [if_neg (by simpa using h0)]
    rw [h0] at C1
    obtain ⟨P, hP⟩ : ∃ P, P = addB r a b := ⟨_, rfl⟩
    obtain ⟨Q, hQ⟩ : ∃ P, P = addB r a d := ⟨_, rfl⟩
    obtain ⟨S, hS⟩ : ∃ P, P = addB r c b := ⟨_, rfl⟩
    obtain ⟨T, hT⟩ : ∃ P, P = addB r c d := ⟨_, rfl⟩
    rw [← hP] at B1 ⊢
    rw [← hQ] at B2 ⊢
    rw [← hS] at B3 ⊢
    rw [← hT] at B4 ⊢
    have B1 := Lib.hid B1
    have B2 := Lib.hid B2
    have B3 := Lib.hid B3
    have B4 := Lib.hid B4
    clear hP hQ hS hT hc hd hf hcN hdN haN hbN hr h0 h hx ha64 hb64
    cases P with
    | false =>
      go_enter Try.func21, Try.ntmps21
      go_wp2_with fail
      refine C1.out.mono ?_
      rintro e w1 ⟨rfl, rfl⟩
      go_wp2_with fail
      refine C0.out.mono ?_
      rintro e w1 ⟨rfl, rfl⟩
      go_wp2_with fail
      refine C0.out.mono ?_
      rintro e w1 ⟨rfl, rfl⟩
      go_wp2_with fail
      refine B1.out.mono ?_
      rintro e w1 ⟨rfl, rfl⟩
      go_wp2_with fail
      go_ret2
      exact ⟨rfl, rfl⟩
    | true =>
      cases Q with
      | false =>
        go_enter Try.func21, Try.ntmps21
        go_wp2_with fail
        refine C1.out.mono ?_
        rintro e w1 ⟨rfl, rfl⟩
        go_wp2_with fail
        refine C0.out.mono ?_
        rintro e w1 ⟨rfl, rfl⟩
        go_wp2_with fail
        refine C0.out.mono ?_
        rintro e w1 ⟨rfl, rfl⟩
        go_wp2_with fail
        refine B1.out.mono ?_
        rintro e w1 ⟨rfl, rfl⟩
        go_wp2_with fail
        refine B2.out.mono ?_
        rintro e w1 ⟨rfl, rfl⟩
        go_wp2_with fail
        go_ret2
        exact ⟨rfl, rfl⟩
      | true =>
        cases S with
        | false =>
          go_enter Try.func21, Try.ntmps21
          go_wp2_with fail
          refine C1.out.mono ?_
          rintro e w1 ⟨rfl, rfl⟩
          go_wp2_with fail
          refine C0.out.mono ?_
          rintro e w1 ⟨rfl, rfl⟩
          go_wp2_with fail
          refine C0.out.mono ?_
          rintro e w1 ⟨rfl, rfl⟩
          go_wp2_with fail
          refine B1.out.mono ?_
          rintro e w1 ⟨rfl, rfl⟩
          go_wp2_with fail
          refine B2.out.mono ?_
          rintro e w1 ⟨rfl, rfl⟩
          go_wp2_with fail
          refine B3.out.mono ?_
          rintro e w1 ⟨rfl, rfl⟩
          go_wp2_with fail
          go_ret2
          exact ⟨rfl, rfl⟩
        | true =>
          go_enter Try.func21, Try.ntmps21
          go_wp2_with fail
          refine C1.out.mono ?_
          rintro e w1 ⟨rfl, rfl⟩
          go_wp2_with fail
          refine C0.out.mono ?_
          rintro e w1 ⟨rfl, rfl⟩
          go_wp2_with fail
          refine C0.out.mono ?_
          rintro e w1 ⟨rfl, rfl⟩
          go_wp2_with fail
          refine B1.out.mono ?_
          rintro e w1 ⟨rfl, rfl⟩
          go_wp2_with fail
          refine B2.out.mono ?_
          rintro e w1 ⟨rfl, rfl⟩
          go_wp2_with fail
          refine B3.out.mono ?_
          rintro e w1 ⟨rfl, rfl⟩
          go_wp2_with fail
          refine B4.out.mono ?_
          rintro e w1 ⟨rfl, rfl⟩
          go_wp2_with fail
          go_ret2
          exact ⟨rfl, rfl⟩
  · rw [if_pos (by simpa using h0)]
    have t : (rkSets n r [a, b] != 0) = true := by rw [bne_iff_ne]; exact h0
    obtain ⟨z, hz⟩ : ∃ z, z = rkSets n r [a, b] := ⟨_, rfl⟩
    rw [← hz] at t C1 ⊢
    clear h0 hz ha64 hb64 h
    go_enter Try.func21, Try.ntmps21
    go_wp2_with fail
    refine C1.out.mono ?_
    rintro e w1 ⟨rfl, rfl⟩
    go_wp2_with fail
    go_ret2
    exact ⟨rfl, rfl⟩

end Go.Proofs.Ytdlhfihddipjaab
