/-
  The walk of RankingRanks: the program and its reference give the same ranks, belief and firmness, or the same error; then the examples.
-/
import Derived.Test.YtdlhfihddipjaaaAwk37
import Derived.Test.YtdlhfihddipjaaaRank11
namespace Go.Proofs.Ytdlhfihddipjaaa
open Go.RowKit

set_option maxRecDepth 100000 in
set_option maxHeartbeats 4000000 in
theorem ranks37_any (w : World) (v : Value) (n : Int) (r : List Int) (s : Nat) (h : Ints .i64 w v r) (hs64 : s < 18446744073709551616) :
    Calls Try.prog 13 #[.int .i64 n, v, .int .u64 s] w fun e w' => e = .returned (.bool true) ∧ Ext w w' := by
  have CA := Lib.hid awake37_any
  have H := Lib.hid h
  obtain ⟨A, c, rfl, hs, hf⟩ := h
  have hle := hs.le
  have hcap := hs.cap
  clear hs hf
  obtain ⟨a, ha⟩ : ∃ a, a = rankR n r s := ⟨_, rfl⟩
  obtain ⟨b, hb⟩ : ∃ b, b = belR n r := ⟨_, rfl⟩
  obtain ⟨f, hf⟩ : ∃ f, f = firmR n r s := ⟨_, rfl⟩
  obtain ⟨z, hz⟩ : ∃ z, z = rkErr n r := ⟨_, rfl⟩
  have hC1 := fun w1 (hx : Ext w w1) => Rank_any w1 _ n r s (H.out.ext hx) hs64
  have hC2 := fun w1 (hx : Ext w w1) => refRank_any w1 _ n r s (H.out.ext hx) hs64
  have hC3 := fun w1 (hx : Ext w w1) => Belief_any w1 _ n r (H.out.ext hx)
  have hC4 := fun w1 (hx : Ext w w1) => refBelief_any w1 _ n r (H.out.ext hx)
  have hC5 := fun w1 (hx : Ext w w1) => Firmness_any w1 _ n r s (H.out.ext hx) hs64
  have hC6 := fun w1 (hx : Ext w w1) => refFirmness_any w1 _ n r s (H.out.ext hx) hs64
  have hC7 := fun w1 (hx : Ext w w1) => rkCheck_any w1 _ n r (H.out.ext hx)
  have hC8 := fun w1 (hx : Ext w w1) => rkCheck37_any w1 _ n r (H.out.ext hx)
  rw [← ha] at hC1 hC2
  rw [← hb] at hC3 hC4
  rw [← hf] at hC5 hC6
  rw [← hz] at hC7 hC8
  have C1 := Lib.hid hC1
  have C2 := Lib.hid hC2
  have C3 := Lib.hid hC3
  have C4 := Lib.hid hC4
  have C5 := Lib.hid hC5
  have C6 := Lib.hid hC6
  have C7 := Lib.hid hC7
  have C8 := Lib.hid hC8
  clear hC1 hC2 hC3 hC4 hC5 hC6 hC7 hC8 ha hb hf hz hs64
  by_cases hl : 100 < r.length
  · go_enter Try.func13, Try.ntmps13
    go_wp2_with fail
    refine (CA.out _).mono ?_
    rintro e w1 ⟨rfl, hx⟩
    go_wp2_with fail
    go_ret
    exact ⟨rfl, hx⟩
  · go_enter Try.func13, Try.ntmps13
    go_wp2_with fail
    have hx := Ext.refl w
    refine (C1.out _ hx).mono ?_
    rintro e w1 ⟨rfl, hy⟩
    have hx := hx.trans hy
    go_wp2_with fail
    refine (C2.out _ hx).mono ?_
    rintro e w2 ⟨rfl, rfl⟩
    go_wp2_with fail
    refine (C3.out _ hx).mono ?_
    rintro e w3 ⟨rfl, hy⟩
    have hx := hx.trans hy
    go_wp2_with fail
    refine (C4.out _ hx).mono ?_
    rintro e w4 ⟨rfl, rfl⟩
    go_wp2_with fail
    refine (C5.out _ hx).mono ?_
    rintro e w5 ⟨rfl, hy⟩
    have hx := hx.trans hy
    go_wp2_with fail
    refine (C6.out _ hx).mono ?_
    rintro e w6 ⟨rfl, rfl⟩
    go_wp2_with fail
    refine (C7.out _ hx).mono ?_
    rintro e w7 ⟨rfl, rfl⟩
    go_wp2_with fail
    refine (C8.out _ hx).mono ?_
    rintro e w8 ⟨rfl, rfl⟩
    go_wp2_with fail
    refine (CA.out _).mono ?_
    rintro e w9 ⟨rfl, hy⟩
    have hx := hx.trans hy
    go_wp2_with fail
    go_ret
    exact ⟨rfl, hx⟩

end Go.Proofs.Ytdlhfihddipjaaa
