/-
  The examples of the package wittinglaw03 hold: awake returns true.
-/
import Derived.Test.YtdlhfihddipjaaaPart5
namespace Go.Proofs.Ytdlhfihddipjaaa
open Go.RowKit

theorem join_example {q : List Int} (h : JoinSpec [0, 0, 0, 3] [0, 1, 0, 1] q) : q = [0, 0, 0, 0] := by
  have hl : q.length = 4 := h.len
  have p0 := h.ok 0 (by omega)
  have o1 := h.one 1 (by decide)
  have o2 := h.one 2 (by decide)
  have t3 := h.two 3 (by decide)
  have n1 : (nth [0, 0, 0, 3] 1).toNat = 0 := by decide
  have n2 : (nth [0, 0, 0, 3] 2).toNat = 0 := by decide
  have n3 : (nth [0, 1, 0, 1] 3).toNat = 1 := by decide
  rw [n1] at o1
  rw [n2] at o2
  rw [n3] at t3
  have z : nth q 0 = 0 := by have := p0.1; have := p0.2.1; omega
  refine ext_nth hl fun k hk => ?_
  have : k = 0 ∨ k = 1 ∨ k = 2 ∨ k = 3 := by omega
  rcases this with rfl | rfl | rfl | rfl
  · rw [z]; rfl
  · rw [o1, z]; rfl
  · rw [o2, z]; rfl
  · rw [t3, o1, z]; rfl

set_option maxRecDepth 100000 in
set_option maxHeartbeats 4000000 in
theorem awake3 (w : World) : Calls Try.prog 21 #[] w fun e w' => e = .returned (.bool true) ∧ Ext w w' := by
  have hx0 := Ext.refl w
  go_enter Try.func21, Try.ntmps21
  go_wp2_with fail
  refine (meet_ok _ _ _ [0, 0, 0, 3] [0, 1, 0, 1] ?h1 ?h2 rfl (by decide) (by decide) (by decide)).mono ?_
  case h1 => exact (Ints.lit _ [0, 0, 0, 3] _ (by simp) (by decide) (by decide)).ext ((Ext.refl _).alloc _)
  case h2 => exact Ints.lit _ [0, 1, 0, 1] _ (by simp) (by decide) (by decide)
  rintro e w1 ⟨v1, rfl, hv1, hx1⟩
  have hm : pDiv ([0, 0, 0, 3] : List Int).length [0, 0, 0, 3] [0, 1, 0, 1] = [0, 1, 0, 3] := by decide
  rw [hm] at hv1
  have hp : Ints .i64 w1 (.slice (some ⟨w.heap.size, 0, none⟩) 4 4) [0, 1, 0, 3] :=
    (Ints.lit w [0, 1, 0, 3] 3 rfl (by decide) (by decide)).ext ((((Ext.refl _).alloc _).alloc _).trans hx1)
  have hX := (((hx0.alloc _).alloc _).alloc _).trans hx1
  clear hm hx1
  go_wp2_with fail
  refine (join_any _ _ _ [0, 0, 0, 3] [0, 1, 0, 1] ?h1 ?h2 rfl (by decide) (by decide) (by decide)).mono ?_
  case h1 => exact (Ints.lit _ [0, 0, 0, 3] _ (by simp) (by decide) (by decide)).ext ((Ext.refl _).alloc _)
  case h2 => exact Ints.lit _ [0, 1, 0, 1] _ (by simp) (by decide) (by decide)
  rintro e w2 ⟨v2, q, rfl, hv2, hq, hx2⟩
  obtain rfl := join_example hq
  have hy := (((Ext.refl w1).alloc _).alloc _).trans hx2
  have hv1 := hv1.ext hy
  have hp := hp.ext hy
  have hX := hX.trans hy
  clear hq hx2 hy
  go_wp2_with fail
  refine (split_ok _ _ _ [0, 0, 0, 3] [5, 7, 5, 5] ?h1 ?h2 rfl (by decide) (by decide)).mono ?_
  case h1 => exact (Ints.lit _ [0, 0, 0, 3] _ (by simp) (by decide) (by decide)).ext ((Ext.refl _).alloc _)
  case h2 => exact Ints.lit _ [5, 7, 5, 5] _ (by simp) (by decide) (by decide)
  rintro e w3 ⟨v3, rfl, hv3, hx3⟩
  have hm : pDiv ([0, 0, 0, 3] : List Int).length [0, 0, 0, 3] [5, 7, 5, 5] = [0, 1, 0, 3] := by decide
  rw [hm] at hv3
  have hy := (((Ext.refl w2).alloc _).alloc _).trans hx3
  have hv1 := hv1.ext hy
  have hv2 := hv2.ext hy
  have hp := hp.ext hy
  have hX := hX.trans hy
  clear hx3 hy hm
  go_wp2_with fail
  refine (blocks_ok _ _ [0, 1, 0, 3] hp (by decide) (by decide)).mono ?_
  rintro e w4 ⟨v4, rfl, hv4, hy⟩
  have hm : blocksTo [0, 1, 0, 3] ([0, 1, 0, 3] : List Int).length = [5, 2, 8] := by decide
  rw [hm] at hv4
  have hv1 := hv1.ext hy
  have hv2 := hv2.ext hy
  have hv3 := hv3.ext hy
  have hp := hp.ext hy
  have hX := hX.trans hy
  clear hy hm
  go_wp2_with fail
  refine (equalS_yes _ _ _ [5, 2, 8] ?h1 ?h2).mono ?_
  case h1 => exact hv4.ext ((Ext.refl _).alloc _)
  case h2 => exact Sets.lit _ [5, 2, 8] _ (by simp) (by decide) (by decide)
  rintro e w5 ⟨rfl, hx5⟩
  have hy := ((Ext.refl w4).alloc _).trans hx5
  have hv1 := hv1.ext hy
  have hv2 := hv2.ext hy
  have hv3 := hv3.ext hy
  have hp := hp.ext hy
  have hX := hX.trans hy
  clear hx5 hy hv4
  go_wp2_with fail
  refine (pcheck_bad _ _ [0, 0, 1] ?h1 (by decide) (by decide)).mono ?_
  case h1 => exact Ints.lit _ [0, 0, 1] _ (by simp) (by decide) (by decide)
  rintro e w6 ⟨rfl, rfl⟩
  have hy := ((Ext.refl w5).alloc (.cells #[.int .i64 0, .int .i64 0, .int .i64 1] 3))
  have hv1 := hv1.ext hy
  have hv2 := hv2.ext hy
  have hv3 := hv3.ext hy
  have hp := hp.ext hy
  have hX := hX.trans hy
  clear hy
  go_wp2_with fail
  refine (equal_yes _ _ _ [0, 1, 0, 3] hv1 hp).mono ?_
  rintro e w7 ⟨rfl, hy⟩
  have hv2 := hv2.ext hy
  have hv3 := hv3.ext hy
  have hp := hp.ext hy
  have hX := hX.trans hy
  clear hy hv1
  go_wp2_with fail
  refine (equal_yes _ _ _ [0, 0, 0, 0] ?h1 ?h2).mono ?_
  case h1 => exact hv2.ext ((Ext.refl _).alloc _)
  case h2 => exact Ints.lit _ [0, 0, 0, 0] _ (by simp) (by decide) (by decide)
  rintro e w8 ⟨rfl, hx8⟩
  have hy := ((Ext.refl w7).alloc _).trans hx8
  have hv2 := hv2.ext hy
  have hv3 := hv3.ext hy
  have hp := hp.ext hy
  have hX := hX.trans hy
  clear hx8 hy
  go_wp2_with fail
  refine (equal_yes _ _ _ [0, 1, 0, 3] hv3 hp).mono ?_
  rintro e w9 ⟨rfl, hy⟩
  have hv2 := hv2.ext hy
  have hp := hp.ext hy
  have hX := hX.trans hy
  clear hy hv3
  go_wp2_with fail
  refine (count_ok _ _ [0, 1, 0, 3] hp (by decide) (by decide)).mono ?_
  rintro e w10 ⟨rfl, hy⟩
  have hm : (blocksTo [0, 1, 0, 3] ([0, 1, 0, 3] : List Int).length).length = 3 := by decide
  rw [hm]
  have hv2 := hv2.ext hy
  have hp := hp.ext hy
  have hX := hX.trans hy
  clear hy hm
  go_wp2_with fail
  refine (refines_yes _ _ _ [0, 1, 0, 3] [0, 0, 0, 0] hp hv2 rfl (by decide) (by decide) (by decide) (by unfold Refines; decide)).mono ?_
  rintro e w11 ⟨rfl, hy⟩
  have hp := hp.ext hy
  have hX := hX.trans hy
  clear hy hv2
  go_wp2_with fail
  refine (block_ok _ _ [0, 1, 0, 3] 2 hp (by decide) (by decide) (by decide)).mono ?_
  rintro e w12 ⟨rfl, hy⟩
  have hm : ((blockOf [0, 1, 0, 3] 2 : Nat) : Int) = 5 := by decide
  rw [hm]
  have hX := hX.trans hy
  clear hy hm hp
  go_wp2_with fail
  go_ret
  exact ⟨rfl, hX⟩

end Go.Proofs.Ytdlhfihddipjaaa
