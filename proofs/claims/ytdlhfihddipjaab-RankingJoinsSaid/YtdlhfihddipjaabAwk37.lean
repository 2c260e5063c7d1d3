/-
  The examples of the chapter (awake of the statements of layer 37) hold.
-/
import Derived.Test.YtdlhfihddipjaabRank10
import Derived.Test.YtdlhfihddipjaabRank14
namespace Go.Proofs.Ytdlhfihddipjaab
open Go.RowKit

set_option maxRecDepth 100000 in
set_option maxHeartbeats 8000000 in
theorem awake37_any (w : World) : Calls Try.prog 15 #[] w fun e w' => e = .returned (.bool true) ∧ Ext w w' := by
  have hr := Ints.lit w (k := .i64) [0, 1, 2, 4] 3 rfl (by decide) (by decide)
  have hX := (Ext.refl w).alloc (.cells ([0, 1, 2, 4].map (Value.int .i64)).toArray 3)
  simp only [List.map, List.length] at hr hX
  go_enter Try.func15, Try.ntmps15
  go_wp2_with fail
  refine (Rank_any _ _ 2 [0, 1, 2, 4] 10 hr (by decide)).mono ?_
  rintro e w1 ⟨rfl, hy⟩
  have hr := hr.ext hy
  have hX := hX.trans hy
  have hm : rankR 2 [0, 1, 2, 4] 10 = (1, 0) := by decide
  rw [hm]
  clear hm
  clear hy
  go_wp2_with fail
  refine (Firmness_any _ _ 2 [0, 1, 2, 4] 10 hr (by decide)).mono ?_
  rintro e w2 ⟨rfl, hy⟩
  have hr := hr.ext hy
  have hX := hX.trans hy
  have hm : firmR 2 [0, 1, 2, 4] 10 = (-1, 0) := by decide
  rw [hm]
  clear hm
  clear hy
  go_wp2_with fail
  refine (Believes_any _ _ 2 [0, 1, 2, 4] 12 5 hr (by decide) (by decide)).mono ?_
  rintro e w3 ⟨rfl, hy⟩
  have hr := hr.ext hy
  have hX := hX.trans hy
  have hm : belvR 2 [0, 1, 2, 4] 12 5 = (true, 0) := by decide
  rw [hm]
  clear hm
  clear hy
  go_wp2_with fail
  refine (Condition_any _ _ 2 [0, 1, 2, 4] 10 3 hr (by decide)).mono ?_
  rintro e w4 ⟨hcv, rfl, hc, hy⟩
  have hr := hr.ext hy
  have hX := hX.trans hy
  have hm : condR 2 [0, 1, 2, 4] 10 3 = ([3, 0, 5, 3], 0) := by decide
  rw [hm] at hc ⊢
  clear hm
  clear hy
  go_wp2_with fail
  refine (Revise_any _ _ 2 [0, 1, 2, 4] 10 hr (by decide)).mono ?_
  rintro e w5 ⟨hvv, rfl, hv, hy⟩
  have hr := hr.ext hy
  have hc := hc.ext hy
  have hX := hX.trans hy
  have hm : revR 2 [0, 1, 2, 4] 10 = ([1, 0, 3, 3], 0) := by decide
  rw [hm] at hv ⊢
  clear hm
  clear hy
  go_wp2_with fail
  refine (Natural_any _ _ 2 [0, 1, 2, 4] 10 hr (by decide)).mono ?_
  rintro e w6 ⟨hnv, rfl, hn, hy⟩
  have hr := hr.ext hy
  have hc := hc.ext hy
  have hv := hv.ext hy
  have hX := hX.trans hy
  have hm : natR 2 [0, 1, 2, 4] 10 = ([1, 0, 3, 5], 0) := by decide
  rw [hm] at hn ⊢
  clear hm
  clear hy
  go_wp2_with fail
  refine (Contract_any _ _ 2 [0, 1, 2, 4] 5 hr (by decide)).mono ?_
  rintro e w7 ⟨hxv, rfl, hx, hy⟩
  have hr := hr.ext hy
  have hc := hc.ext hy
  have hv := hv.ext hy
  have hn := hn.ext hy
  have hX := hX.trans hy
  have hm : conR 2 [0, 1, 2, 4] 5 = ([0, 0, 2, 3], 0) := by decide
  rw [hm] at hx ⊢
  clear hm
  clear hy
  go_wp2_with fail
  clear hr
  have hY := ((Ext.refl w7).alloc (.cells #[.int .i64 0, .int .i64 1] 3)).alloc (.cells #[.int .i64 0, .int .i64 2] 3)
  refine (Join_any _ _ _ 1 1 [0, 1] [0, 2] ?h1 ?h2).mono ?_
  case h1 => exact (Ints.lit _ [0, 1] _ (by simp) (by decide) (by decide)).ext ((Ext.refl _).alloc _)
  case h2 => exact Ints.lit _ [0, 2] _ (by simp) (by decide) (by decide)
  rintro e w8 ⟨hyv, rfl, hy, hyx⟩
  have hY := hY.trans hyx
  have hX := hX.trans hY
  have hc := hc.ext hY
  have hv := hv.ext hY
  have hn := hn.ext hY
  have hx := hx.ext hY
  have hm : joinR 1 [0, 1] 1 [0, 2] = (2, [0, 1, 2, 3], 0) := by decide
  rw [hm] at hy ⊢
  clear hm hyx hY
  go_wp2_with fail
  refine (Same37_any _ _ _ [3, 0, 5, 3] [3, 0, 5, 3] ?h1 ?h2).mono ?_
  case h1 => exact hc.ext ((Ext.refl _).alloc _)
  case h2 => exact Ints.lit _ [3, 0, 5, 3] _ (by simp) (by decide) (by decide)
  rintro e w9 ⟨rfl, hz⟩
  have hZ := ((Ext.refl w8).alloc _).trans hz
  have hX := hX.trans hZ
  have hv := hv.ext hZ
  have hn := hn.ext hZ
  have hx := hx.ext hZ
  have hy := hy.ext hZ
  have hm : decide (([3, 0, 5, 3] : List Int) = [3, 0, 5, 3]) = true := by decide
  rw [hm]
  clear hm hz hZ hc
  go_wp2_with fail
  refine (Same37_any _ _ _ [1, 0, 3, 3] [1, 0, 3, 3] ?h1 ?h2).mono ?_
  case h1 => exact hv.ext ((Ext.refl _).alloc _)
  case h2 => exact Ints.lit _ [1, 0, 3, 3] _ (by simp) (by decide) (by decide)
  rintro e w10 ⟨rfl, hz⟩
  have hZ := ((Ext.refl w9).alloc _).trans hz
  have hX := hX.trans hZ
  have hn := hn.ext hZ
  have hx := hx.ext hZ
  have hy := hy.ext hZ
  have hm : decide (([1, 0, 3, 3] : List Int) = [1, 0, 3, 3]) = true := by decide
  rw [hm]
  clear hm hz hZ hv
  go_wp2_with fail
  refine (Same37_any _ _ _ [1, 0, 3, 5] [1, 0, 3, 5] ?h1 ?h2).mono ?_
  case h1 => exact hn.ext ((Ext.refl _).alloc _)
  case h2 => exact Ints.lit _ [1, 0, 3, 5] _ (by simp) (by decide) (by decide)
  rintro e w11 ⟨rfl, hz⟩
  have hZ := ((Ext.refl w10).alloc _).trans hz
  have hX := hX.trans hZ
  have hx := hx.ext hZ
  have hy := hy.ext hZ
  have hm : decide (([1, 0, 3, 5] : List Int) = [1, 0, 3, 5]) = true := by decide
  rw [hm]
  clear hm hz hZ hn
  go_wp2_with fail
  refine (Same37_any _ _ _ [0, 0, 2, 3] [0, 0, 2, 3] ?h1 ?h2).mono ?_
  case h1 => exact hx.ext ((Ext.refl _).alloc _)
  case h2 => exact Ints.lit _ [0, 0, 2, 3] _ (by simp) (by decide) (by decide)
  rintro e w12 ⟨rfl, hz⟩
  have hZ := ((Ext.refl w11).alloc _).trans hz
  have hX := hX.trans hZ
  have hy := hy.ext hZ
  have hm : decide (([0, 0, 2, 3] : List Int) = [0, 0, 2, 3]) = true := by decide
  rw [hm]
  clear hm hz hZ hx
  go_wp2_with fail
  refine (Same37_any _ _ _ [0, 1, 2, 3] [0, 1, 2, 3] ?h1 ?h2).mono ?_
  case h1 => exact hy.ext ((Ext.refl _).alloc _)
  case h2 => exact Ints.lit _ [0, 1, 2, 3] _ (by simp) (by decide) (by decide)
  rintro e w13 ⟨rfl, hz⟩
  have hZ := ((Ext.refl w12).alloc _).trans hz
  have hX := hX.trans hZ
  have hm : decide (([0, 1, 2, 3] : List Int) = [0, 1, 2, 3]) = true := by decide
  rw [hm]
  clear hm hz hZ hy
  go_wp2_with fail
  go_ret
  exact ⟨rfl, hX⟩

end Go.Proofs.Ytdlhfihddipjaab
