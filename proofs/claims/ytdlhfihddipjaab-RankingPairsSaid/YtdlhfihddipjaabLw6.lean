/-
  The walk of RankingPairs: conditional belief and independence.
-/
import Derived.Test.YtdlhfihddipjaabAwk37
import Derived.Test.YtdlhfihddipjaabInd2
namespace Go.Proofs.Ytdlhfihddipjaab
open Go.RowKit

theorem cells2' (w : World) (a b : Value) (t : TypeId) : (w.alloc (.cells #[a, b] t)).cell? ⟨w.heap.size, 0, none⟩ = some a ∧ (w.alloc (.cells #[a, b] t)).cell? ⟨w.heap.size, 1, none⟩ = some b :=
  ⟨cell_of_row _ _ _ _ _ _ (heap_alloc_new w (.cells #[a, b] t)), cell_of_row _ _ _ _ _ _ (heap_alloc_new w (.cells #[a, b] t))⟩

set_option maxRecDepth 100000 in
set_option maxHeartbeats 4000000 in
theorem pairs37_any (w : World) (v : Value) (n : Int) (r : List Int) (x y : Nat) (h : Ints .i64 w v r) (hx64 : x < 18446744073709551616) (hy64 : y < 18446744073709551616) :
    Calls Try.prog 4 #[.int .i64 n, v, .agg #[.int .u64 x, .int .u64 y]] w fun e w' => e = .returned (.bool true) ∧ Ext w w' := by
  have CA := Lib.hid awake37_any
  have H := Lib.hid h
  have hq := cells2' w (.int .u64 x) (.int .u64 y) 32
  obtain ⟨hq0, hq1⟩ := hq
  have hx := (Ext.refl w).alloc (.cells #[.int .u64 x, .int .u64 y] 32)
  obtain ⟨A, c, rfl, hs, hf⟩ := h
  have hle := hs.le
  have hcap := hs.cap
  clear hs hf
  obtain ⟨L0, hL0⟩ : ∃ L, L = belvR n r x y := ⟨_, rfl⟩
  obtain ⟨L1, hL1⟩ : ∃ L, L = indR n r x y := ⟨_, rfl⟩
  have hA : ∀ w1, Ext w w1 → _ := fun w1 hx => Believes_any w1 (.slice A r.length c) n r x y (H.out.ext hx) hx64 hy64
  rw [← hL0] at hA
  have A1 := Lib.hid hA
  clear hA
  have hB : ∀ w1, Ext w w1 → _ := fun w1 hx => refBelieves_any w1 (.slice A r.length c) n r x y (H.out.ext hx) hx64 hy64
  rw [← hL0] at hB
  have B1 := Lib.hid hB
  clear hB
  have hC : ∀ w1, Ext w w1 → _ := fun w1 hx => Independent_any w1 (.slice A r.length c) n r x y (H.out.ext hx) hx64 hy64
  rw [← hL1] at hC
  have C1 := Lib.hid hC
  clear hC
  have hD : ∀ w1, Ext w w1 → _ := fun w1 hx => refIndependent_any w1 (.slice A r.length c) n r x y (H.out.ext hx) hx64 hy64
  rw [← hL1] at hD
  have D1 := Lib.hid hD
  clear hD
  clear hL0 hL1 hx64 hy64
  by_cases hl : 100 < r.length
  · go_enter Try.func4, Try.ntmps4
    go_wp2_with fail
    refine (CA.out _).mono ?_
    rintro e w1 ⟨rfl, hy⟩
    go_wp2_with fail
    go_ret
    exact ⟨rfl, hx.trans hy⟩
  · go_enter Try.func4, Try.ntmps4
    go_wp2_with fail
    refine (A1.out _ hx).mono ?_
    rintro e wA ⟨rfl, hy⟩
    have hx := hx.trans hy
    have hlt : w.heap.size < wA.heap.size := by have := hy.size; simp at this; omega
    have hq0 := (hy.cell (by simp <;> omega)).trans hq0
    have hq1 := (hy.cell (by simp <;> omega)).trans hq1
    clear hy
    go_wp2_with fail
    refine (B1.out _ hx).mono ?_
    rintro e wB ⟨rfl, rfl⟩
    go_wp2_with fail
    refine (C1.out _ hx).mono ?_
    rintro e wC ⟨rfl, hy⟩
    have hx := hx.trans hy
    have hq0 := (hy.cell hlt).trans hq0
    have hq1 := (hy.cell hlt).trans hq1
    clear hy
    go_wp2_with fail
    refine (D1.out _ hx).mono ?_
    rintro e wD ⟨rfl, rfl⟩
    go_wp2_with fail
    refine (CA.out _).mono ?_
    rintro e w1 ⟨rfl, hy⟩
    go_wp2_with fail
    go_ret
    exact ⟨rfl, hx.trans hy⟩

end Go.Proofs.Ytdlhfihddipjaab
