/-
  The walk of RankingConditions: conditioning, revision, natural revision and contraction of the program and of its reference; then the examples.
-/
import Derived.Test.YtdlhfihddipjaaaAwk37
import Derived.Test.YtdlhfihddipjaaaRank13
namespace Go.Proofs.Ytdlhfihddipjaaa
open Go.RowKit

theorem cells2 (w : World) (a b : Value) (t : TypeId) : (w.alloc (.cells #[a, b] t)).cell? ⟨w.heap.size, 0, none⟩ = some a ∧ (w.alloc (.cells #[a, b] t)).cell? ⟨w.heap.size, 1, none⟩ = some b :=
  ⟨cell_of_row _ _ _ _ _ _ (heap_alloc_new w (.cells #[a, b] t)), cell_of_row _ _ _ _ _ _ (heap_alloc_new w (.cells #[a, b] t))⟩

theorem same37_self (w : World) (v v2 : Value) (l : List Int) (h : Ints .i64 w v l) (h2 : Ints .i64 w v2 l) : Calls Try.prog 42 #[v, v2] w fun e w' => e = .returned (.bool true) ∧ Ext w w' :=
  (Same37_any w v v2 l l h h2).mono fun _ _ k => ⟨by rw [k.1, decide_eq_true rfl], k.2⟩

set_option maxRecDepth 100000 in
set_option maxHeartbeats 4000000 in
theorem conditions37_any (w : World) (v : Value) (n : Int) (r : List Int) (s b : Nat) (h : Ints .i64 w v r) (hs64 : s < 18446744073709551616) :
    Calls Try.prog 9 #[.int .i64 n, v, .agg #[.int .u64 s, .int .u64 b]] w fun e w' => e = .returned (.bool true) ∧ Ext w w' := by
  have CA := Lib.hid awake37_any
  have CS := Lib.hid same37_self
  have H := Lib.hid h
  have hq := cells2 w (.int .u64 s) (.int .u64 b) 46
  obtain ⟨hq0, hq1⟩ := hq
  have hx := (Ext.refl w).alloc (.cells #[.int .u64 s, .int .u64 b] 46)
  obtain ⟨A, c, rfl, hs, hf⟩ := h
  have hle := hs.le
  have hcap := hs.cap
  clear hs hf
  obtain ⟨L0, hL0⟩ : ∃ L, L = condR n r s (wrap64 b) := ⟨_, rfl⟩
  have hA0 := fun w1 (hx : Ext w w1) => Condition_any w1 _ n r s (wrap64 b) (H.out.ext hx) hs64
  have hB0 := fun w1 (hx : Ext w w1) => refCondition_any w1 _ n r s (wrap64 b) (H.out.ext hx) hs64
  rw [← hL0] at hA0 hB0
  have A0 := Lib.hid hA0
  have B0 := Lib.hid hB0
  clear hA0 hB0 hL0
  obtain ⟨L1, hL1⟩ : ∃ L, L = revR n r s := ⟨_, rfl⟩
  have hA1 := fun w1 (hx : Ext w w1) => Revise_any w1 _ n r s (H.out.ext hx) hs64
  have hB1 := fun w1 (hx : Ext w w1) => refRevise_any w1 _ n r s (H.out.ext hx) hs64
  rw [← hL1] at hA1 hB1
  have A1 := Lib.hid hA1
  have B1 := Lib.hid hB1
  clear hA1 hB1 hL1
  obtain ⟨L2, hL2⟩ : ∃ L, L = natR n r s := ⟨_, rfl⟩
  have hA2 := fun w1 (hx : Ext w w1) => Natural_any w1 _ n r s (H.out.ext hx) hs64
  have hB2 := fun w1 (hx : Ext w w1) => refNatural_any w1 _ n r s (H.out.ext hx) hs64
  rw [← hL2] at hA2 hB2
  have A2 := Lib.hid hA2
  have B2 := Lib.hid hB2
  clear hA2 hB2 hL2
  obtain ⟨L3, hL3⟩ : ∃ L, L = conR n r s := ⟨_, rfl⟩
  have hA3 := fun w1 (hx : Ext w w1) => Contract_any w1 _ n r s (H.out.ext hx) hs64
  have hB3 := fun w1 (hx : Ext w w1) => refContract_any w1 _ n r s (H.out.ext hx) hs64
  rw [← hL3] at hA3 hB3
  have A3 := Lib.hid hA3
  have B3 := Lib.hid hB3
  clear hA3 hB3 hL3
  by_cases hl : 100 < r.length
  · go_enter Try.func9, Try.ntmps9
    go_wp2_with fail
    refine (CA.out _).mono ?_
    rintro e w1 ⟨rfl, hy⟩
    go_wp2_with fail
    go_ret
    exact ⟨rfl, hx.trans hy⟩
  · go_enter Try.func9, Try.ntmps9
    go_wp2
    go_quiet (fail)
    have hx := hx.drewN nq
    clear hq0 hq1
    go_wp2_with fail
    refine (A0.out _ hx).mono ?_
    rintro e wa ⟨va, rfl, ha, hy⟩
    have hx := hx.trans hy
    clear hy
    go_wp2_with fail
    refine (B0.out _ hx).mono ?_
    rintro e wb ⟨vb, rfl, hb, hy⟩
    have hx := hx.trans hy
    have ha := ha.ext hy
    clear hy
    go_wp2_with fail
    refine (CS.out _ _ _ _ ha hb).mono ?_
    rintro e wc ⟨rfl, hy⟩
    have hx := hx.trans hy
    clear hy ha hb
    go_wp2_with fail
    refine (A1.out _ hx).mono ?_
    rintro e wa ⟨va, rfl, ha, hy⟩
    have hx := hx.trans hy
    clear hy
    go_wp2_with fail
    refine (B1.out _ hx).mono ?_
    rintro e wb ⟨vb, rfl, hb, hy⟩
    have hx := hx.trans hy
    have ha := ha.ext hy
    clear hy
    go_wp2_with fail
    refine (CS.out _ _ _ _ ha hb).mono ?_
    rintro e wc ⟨rfl, hy⟩
    have hx := hx.trans hy
    clear hy ha hb
    go_wp2_with fail
    refine (A2.out _ hx).mono ?_
    rintro e wa ⟨va, rfl, ha, hy⟩
    have hx := hx.trans hy
    clear hy
    go_wp2_with fail
    refine (B2.out _ hx).mono ?_
    rintro e wb ⟨vb, rfl, hb, hy⟩
    have hx := hx.trans hy
    have ha := ha.ext hy
    clear hy
    go_wp2_with fail
    refine (CS.out _ _ _ _ ha hb).mono ?_
    rintro e wc ⟨rfl, hy⟩
    have hx := hx.trans hy
    clear hy ha hb
    go_wp2_with fail
    refine (A3.out _ hx).mono ?_
    rintro e wa ⟨va, rfl, ha, hy⟩
    have hx := hx.trans hy
    clear hy
    go_wp2_with fail
    refine (B3.out _ hx).mono ?_
    rintro e wb ⟨vb, rfl, hb, hy⟩
    have hx := hx.trans hy
    have ha := ha.ext hy
    clear hy
    go_wp2_with fail
    refine (CS.out _ _ _ _ ha hb).mono ?_
    rintro e wc ⟨rfl, hy⟩
    have hx := hx.trans hy
    clear hy ha hb
    go_wp2_with fail
    refine (CA.out _).mono ?_
    rintro e w1 ⟨rfl, hy⟩
    go_wp2_with fail
    go_ret
    exact ⟨rfl, hx.trans hy⟩

end Go.Proofs.Ytdlhfihddipjaaa
