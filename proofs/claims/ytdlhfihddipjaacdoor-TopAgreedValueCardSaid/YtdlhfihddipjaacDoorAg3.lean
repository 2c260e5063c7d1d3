/-
  The agreement texts: posteriors.
-/
import Derived.Test.YtdlhfihddipjaacDoorAg2r
import Derived.Deep.RegionWith
namespace Go.Proofs.YtdlhfihddipjaacDoor
open Go.RowKit

def fracV (f : Nat × Nat) : Value := .agg #[.int .i64 (f.1 : Nat), .int .i64 (f.2 : Nat)]
/-- The posterior of an event for an agent at a world, in lowest terms. -/
def post (W : List Int) (C : List (List Int)) (a k e : Nat) : Nat × Nat :=
  ((wt W (blockOf (nthL C a) k &&& e)).toNat / Nat.gcd (wt W (blockOf (nthL C a) k &&& e)).toNat (wt W (blockOf (nthL C a) k)).toNat, (wt W (blockOf (nthL C a) k)).toNat / Nat.gcd (wt W (blockOf (nthL C a) k &&& e)).toNat (wt W (blockOf (nthL C a) k)).toNat)
theorem frozenP (w : World) (a b : Value) (t : TypeId) (i : Nat) : (w.alloc (.cells #[a, b] t)).frozen? ⟨w.heap.size, i, none⟩ = false :=
  (World.rowIs_alloc w #[a, b] t (fun i => if i = 0 then a else b) (fun i hi => by
    have : i = 0 ∨ i = 1 := by simp at hi; omega
    rcases this with rfl | rfl <;> rfl)).frozen i
theorem wt_nat {W : List Int} {C : List (List Int)} (h : PrOk W C) (e : Nat) : ((wt W e).toNat : Int) = wt W e ∧ (wt W e).toNat ≤ 1000000 := by
  have := wtTo_bd h.wok e W.length (Nat.le_refl _)
  have := h.n64
  unfold wt
  omega
theorem wtTo_pos {W : List Int} (h : ∀ i, i < W.length → 1 ≤ nth W i ∧ nth W i ≤ 1000) {e i k : Nat} (hk : k ≤ W.length) (hi : i < k) (hb : e.testBit i = true) : 0 < wtTo W e k := by
  induction k with
  | zero => omega
  | succ k ih =>
    rw [wtTo]
    have := wtTo_bd h e k (by omega)
    have := h k (by omega)
    by_cases q : i = k
    · subst q; rw [if_pos hb]; omega
    · have := ih (by omega) (by omega)
      split <;> omega
theorem wt_block_pos {W : List Int} {C : List (List Int)} (h : PrOk W C) {a k : Nat} (ha : a < C.length) (hk : k < W.length) : 0 < (wt W (blockOf (nthL C a) k)).toNat := by
  have : 0 < wtTo W (blockOf (nthL C a) k) W.length := wtTo_pos h.wok (Nat.le_refl _) hk (by rw [blockOf_bit, h.cl a ha]; simp [hk])
  unfold wt
  omega

set_option maxRecDepth 100000 in
set_option maxHeartbeats 4000000 in
theorem posterior_any (w : World) (v1 v2 : Value) (W : List Int) (C : List (List Int)) (h : Prior w v1 v2 W C) (hP : PrOk W C) (a k e : Nat) (ha : a < C.length) (hk : k < W.length) (he : e < 18446744073709551616) :
    Calls Tryd.prog 44 #[.agg #[v1, v2], .int .i64 a, .int .i64 k, .int .u64 e] w fun x w' => x = .returned (fracV (post W C a k e)) ∧ Ext w w' := by
  obtain ⟨h1, h2⟩ := h
  have hcl := hP.cl a ha
  have h64 := hP.n64
  have hB64 : blockOf (nthL C a) k < 18446744073709551616 := blockOf_lt _ _ (by omega)
  have hand := u64_and (blockOf (nthL C a) k) e hB64 he
  have hE64 : blockOf (nthL C a) k &&& e < 18446744073709551616 := Nat.lt_of_le_of_lt Nat.and_le_left hB64
  have n1 := wt_nat hP (blockOf (nthL C a) k &&& e)
  have n2 := wt_nat hP (blockOf (nthL C a) k)
  have n3 := wt_block_pos hP ha hk
  have hpost : post W C a k e = ((wt W (blockOf (nthL C a) k &&& e)).toNat / Nat.gcd (wt W (blockOf (nthL C a) k &&& e)).toNat (wt W (blockOf (nthL C a) k)).toNat, (wt W (blockOf (nthL C a) k)).toNat / Nat.gcd (wt W (blockOf (nthL C a) k &&& e)).toNat (wt W (blockOf (nthL C a) k)).toNat) := rfl
  have hW1 : ∀ w1, Ext w w1 → _ := fun w1 hx => weight_any w1 v1 v2 W (h1.ext hx) h64 hP.wok (blockOf (nthL C a) k &&& e) hE64
  have hW2 : ∀ w1, Ext w w1 → _ := fun w1 hx => weight_any w1 v1 v2 W (h1.ext hx) h64 hP.wok (blockOf (nthL C a) k) hB64
  have hF : ∀ w1, _ := fun w1 => fraction_any w1 (wt W (blockOf (nthL C a) k &&& e)).toNat (wt W (blockOf (nthL C a) k)).toNat n3 n1.2 n2.2
  have hBk : ∀ w1 v, Ints .i64 w1 v (nthL C a) → Calls Tryd.prog 32 #[v, .int .i64 k] w1 fun x w' => x = .returned (.int .u64 (blockOf (nthL C a) k : Nat)) ∧ Ext w1 w' := fun w1 v h => block_ok w1 v (nthL C a) k h (by omega) (hP.cok a ha) (by omega)
  rw [← n1.1] at hW1
  rw [← n2.1] at hW2
  rw [hpost]
  obtain ⟨X, hX⟩ : ∃ X, X = (wt W (blockOf (nthL C a) k &&& e)).toNat := ⟨_, rfl⟩
  obtain ⟨Y, hY⟩ : ∃ X, X = (wt W (blockOf (nthL C a) k)).toNat := ⟨_, rfl⟩
  rw [← hX] at hW1 hF ⊢
  rw [← hY] at hW2 hF ⊢
  obtain ⟨E, hE⟩ : ∃ E, E = blockOf (nthL C a) k &&& e := ⟨_, rfl⟩
  rw [← hE] at hand hW1
  obtain ⟨B, hB⟩ : ∃ B, B = blockOf (nthL C a) k := ⟨_, rfl⟩
  rw [← hB] at hand hW2 hBk
  obtain ⟨Fx, hFx⟩ : ∃ F, F = X / Nat.gcd X Y := ⟨_, rfl⟩
  obtain ⟨Fy, hFy⟩ : ∃ F, F = Y / Nat.gcd X Y := ⟨_, rfl⟩
  rw [← hFx, ← hFy] at hF ⊢
  have CW1 := Lib.hid hW1
  have CW2 := Lib.hid hW2
  have CF := Lib.hid hF
  have CB := Lib.hid hBk
  obtain ⟨A, c, rfl, hs, hf⟩ := h1
  have H2 := Lib.hid h2
  obtain ⟨A2, c2, vs, rfl, hs2, _⟩ := h2
  have hle2 := hs2.le
  have hcap2 := hs2.cap
  obtain ⟨q0, q1⟩ := cellsP w (.slice A W.length c) (.slice A2 C.length c2) 37
  have hx0 := (Ext.refl w).alloc (.cells #[.slice A W.length c, .slice A2 C.length c2] 37)
  have hz0 := (Ext.refl (w.alloc (.cells #[.slice A W.length c, .slice A2 C.length c2] 37))).alloc (.cells #[.int .i64 0, .int .i64 0] 52)
  have hx1 := hx0.alloc (.cells #[.int .i64 0, .int .i64 0] 52)
  obtain ⟨r0, r1⟩ := cellsP (w.alloc (.cells #[.slice A W.length c, .slice A2 C.length c2] 37)) (.int .i64 0) (.int .i64 0) 52
  have f0 := frozenP (w.alloc (.cells #[.slice A W.length c, .slice A2 C.length c2] 37)) (.int .i64 0) (.int .i64 0) 52 0
  have f1 := frozenP (w.alloc (.cells #[.slice A W.length c, .slice A2 C.length c2] 37)) (.int .i64 0) (.int .i64 0) 52 1
  rw [show (w.alloc (.cells #[.slice A W.length c, .slice A2 C.length c2] 37)).heap.size = w.heap.size + 1 by simp] at r0 r1 f0 f1
  have q0 := (hz0.cell (by simp)).trans q0
  have q1 := (hz0.cell (by simp)).trans q1
  obtain ⟨ad, A', c', rfl, hb, hc, hle', hcap', hI⟩ := (H2.out.ext hx1).get ha
  have CB1 := Lib.hid (CB.out _ _ hI)
  have haC : (a : Int) < C.length := by omega
  obtain ⟨L, hL⟩ : ∃ L, L = nthL C a := ⟨_, rfl⟩
  rw [← hL] at hc hle' CB1
  clear hL hX hY hE hB hFx hFy hW1 hW2 hF hBk hs hf hs2 hpost n1 n2 n3 hI H2 CB hcl h64 hz0 hP he hB64 hE64
  go_enter Tryd.func44, Tryd.ntmps44
  go_wp2_with fail
  refine CB1.out.mono ?_
  rintro x w2 ⟨rfl, hy⟩
  have hx2 := hx1.trans hy
  have l0 : w.heap.size + 1 < w2.heap.size := by have := hy.size; simp at this; omega
  have q0 := (hy.cell (by simp <;> omega)).trans q0
  have q1 := (hy.cell (by simp <;> omega)).trans q1
  have r0 := (hy.cell (by simp)).trans r0
  have r1 := (hy.cell (by simp)).trans r1
  have f0 := (Below.frozen hy (by simp)).trans f0
  have f1 := (Below.frozen hy (by simp)).trans f1
  clear hy CB1 hc
  go_wp2_with fail
  go_region_with (first | (go_at_call_of 66 E; refine (CW1.out _ ?_).mono ?_; (first | exact hx2.drew | exact hx2 | exact hx2.drew.trans (by assumption)); rintro x w3 ⟨rfl, hy⟩; have hx2 := hx2.drew.trans hy; have q0 := (hy.cell (show w.heap.size < _ by simp <;> omega)).trans q0; have q1 := (hy.cell (show w.heap.size < _ by simp <;> omega)).trans q1; have r0 := (hy.cell (show w.heap.size + 1 < _ by simp <;> omega)).trans r0; have r1 := (hy.cell (show w.heap.size + 1 < _ by simp <;> omega)).trans r1; have f0 := (Below.frozen hy (show w.heap.size + 1 < _ by simp <;> omega)).trans f0; have f1 := (Below.frozen hy (show w.heap.size + 1 < _ by simp <;> omega)).trans f1; have l0 : w.heap.size + 1 < w3.heap.size := by (have := hy.size; simp at this; omega)) | (go_at_call_of 66 B; refine (CW2.out _ ?_).mono ?_; (exact hx2); rintro x w4 ⟨rfl, hy⟩; have hx2 := hx2.trans hy; have q0 := (hy.cell (show w.heap.size < _ by omega)).trans q0; have q1 := (hy.cell (show w.heap.size < _ by omega)).trans q1; have r0 := (hy.cell l0).trans r0; have r1 := (hy.cell l0).trans r1; have f0 := (Below.frozen hy l0).trans f0; have f1 := (Below.frozen hy l0).trans f1; have l0 : w.heap.size + 1 < w4.heap.size := by (have := hy.size; omega)) | (go_at_call 65; refine (CF.out _).mono ?_; rintro x w5 ⟨rfl, hy⟩; have hx2 := hx2.trans hy; have r0 := (hy.cell l0).trans r0; have r1 := (hy.cell l0).trans r1; have f0 := (Below.frozen hy l0).trans f0; have f1 := (Below.frozen hy l0).trans f1; have l0 : w.heap.size + 1 < w5.heap.size := by (have := hy.size; omega)))
  all_goals
    go_wp2
    refine bodyPost_ret (v := .agg #[.int .i64 (Fx : Nat), .int .i64 (Fy : Nat)]) (by simp [results, Tryd.results44, go_sem, r0, r1]) rfl ⟨rfl, ?_⟩
    exact (hx2.setCell (by simp) _).setCell (by simp) _

end Go.Proofs.YtdlhfihddipjaacDoor
