/-
  The agreement texts: Few, the example of the chapter.
-/
import Derived.Test.YtdlhfihddipjaacDoorAgD
namespace Go.Proofs.YtdlhfihddipjaacDoor
open Go.RowKit

/-- Whether a prior is small. -/
def fewB (W : List Int) (C : List (List Int)) (n : Int) : Bool := !(decide (n < W.length) || decide (8 < C.length) || C.any fun c => decide (70 < c.length))
theorem few_yes {W : List Int} {C : List (List Int)} {n : Int} (h1 : (W.length : Int) ≤ n) (h2 : C.length ≤ 8) (h3 : ∀ a, a < C.length → (nthL C a).length ≤ 70) : fewB W C n = true := by
  unfold fewB
  rw [decide_eq_false (by omega), decide_eq_false (by omega)]
  have : (C.any fun c => decide (70 < c.length)) = false := by
    rw [Bool.eq_false_iff]
    intro k
    obtain ⟨i, hi, q⟩ := any_nthL.1 k
    have := h3 i hi
    simp at q; omega
  rw [this]; rfl
theorem few_no1 {W : List Int} {C : List (List Int)} {n : Int} (h1 : n < (W.length : Int)) : fewB W C n = false := by unfold fewB; rw [decide_eq_true h1]; rfl
theorem few_no2 {W : List Int} {C : List (List Int)} {n : Int} (h2 : 8 < C.length) : fewB W C n = false := by unfold fewB; rw [decide_eq_true h2]; simp
theorem few_no3 {W : List Int} {C : List (List Int)} {n : Int} {a : Nat} (ha : a < C.length) (h : 70 < (nthL C a).length) : fewB W C n = false := by
  unfold fewB
  have : (C.any fun c => decide (70 < c.length)) = true := any_nthL.2 ⟨a, ha, by simpa using h⟩
  rw [this]; simp
theorem few_len {W : List Int} {C : List (List Int)} {n : Int} (h : fewB W C n = true) : (W.length : Int) ≤ n ∧ C.length ≤ 8 := by
  refine ⟨?_, ?_⟩
  · apply Classical.byContradiction
    intro k
    rw [few_no1 (by omega)] at h; cases h
  · apply Classical.byContradiction
    intro k
    rw [few_no2 (by omega)] at h; cases h

set_option maxRecDepth 100000 in
set_option maxHeartbeats 2000000 in
theorem few_any (w : World) (v1 v2 : Value) (W : List Int) (C : List (List Int)) (h : Prior w v1 v2 W C) (n : Int) :
    Calls Tryd.prog 12 #[.agg #[v1, v2], .int .i64 n] w fun x w' => x = .returned (.bool (fewB W C n)) ∧ Ext w w' := by
  obtain ⟨h1, h2⟩ := h
  have H2 := Lib.hid h2
  obtain ⟨A, c, rfl, hs, _⟩ := h1
  have hle := hs.le
  have hcap := hs.cap
  obtain ⟨A2, c2, vs, rfl, hs2, _⟩ := h2
  have hle2 := hs2.le
  have hcap2 := hs2.cap
  clear hs hs2
  obtain ⟨q0, q1⟩ := cellsP w (.slice A W.length c) (.slice A2 C.length c2) 37
  have hx1 := (Ext.refl w).alloc (.cells #[.slice A W.length c, .slice A2 C.length c2] 37)
  obtain ⟨z, hz⟩ : ∃ z, z = fewB W C n := ⟨_, rfl⟩
  rw [← hz]
  have Hz := Lib.hid hz
  clear hz
  by_cases e1 : n < (W.length : Int)
  · have t1 : decide (n < (W.length : Int)) = true := by rw [decide_eq_true_eq]; exact e1
    have hq := Lib.hid (Hz.out.trans (few_no1 e1))
    clear e1
    go_enter Tryd.func12, Tryd.ntmps12
    go_wp2
    go_ret
    exact ⟨by rw [hq.out]; rfl, hx1⟩
  · have t1 : decide (n < (W.length : Int)) = false := by rw [decide_eq_false_iff_not]; exact e1
    have hn : (W.length : Int) ≤ n := by omega
    clear e1
    by_cases e2 : 8 < C.length
    · have hq := Lib.hid (Hz.out.trans (few_no2 e2))
      clear hn
      go_enter Tryd.func12, Tryd.ntmps12
      go_wp2
      go_ret
      exact ⟨by rw [hq.out]; rfl, hx1⟩
    · have Hn := Lib.hid hn
      clear hn
      go_enter Tryd.func12, Tryd.ntmps12
      go_wp2
      go_loopw [5] (fun v wr => ∃ a : Nat, a ≤ C.length ∧ v = .int .i64 a ∧ Hid (∀ j, j < a → (nthL C j).length ≤ 70) ∧ Ext (w.alloc (.cells #[.slice A W.length c, .slice A2 C.length c2] 37)) wr) (fun v _ => C.length - (intOf v).toNat)
      case atStart => exact ⟨0, Nat.zero_le _, rfl, fun j hj => absurd hj (by omega), Ext.refl _⟩
      case round =>
        obtain ⟨a, ha, rfl, hgo, hxr⟩ := hrel
        have hx := hx1.trans hxr
        have q1 := (hxr.cell (by simp)).trans q1
        by_cases hlt : a < C.length
        · obtain ⟨ad, A', c', rfl, hb, hce, hle', hcap', hIc⟩ := (H2.out.ext hx).get hlt
          clear hIc
          by_cases e3 : 70 < (nthL C a).length
          · have hq := Lib.hid (Hz.out.trans (few_no3 hlt e3))
            go_wp2
            go_ret
            exact ⟨by rw [hq.out]; rfl, hx⟩
          · have hg : Hid ((nthL C a).length ≤ 70) := by show (nthL C a).length ≤ 70; omega
            go_wp2
            go_roundw
            case rel => exact ⟨a + 1, by omega, by go_num, fun j hj => by
              by_cases e : j = a
              · rw [e]; exact hg.out
              · exact hgo.out j (by omega), hxr⟩
            case measure => simp [intOf]; omega
        · obtain rfl : a = C.length := by omega
          have hq := Lib.hid (Hz.out.trans (few_yes Hn.out (by omega) hgo.out))
          go_wp2
          go_ret
          exact ⟨by rw [hq.out]; rfl, hx⟩

/-! ### the example -/
def exW : List Int := [1, 1, 1, 1, 1, 1, 1, 1, 1]
def exCC : List (List Int) := [[0, 0, 0, 3, 3, 3, 6, 6, 6], [0, 0, 0, 0, 4, 4, 4, 4, 8]]
theorem Rows.lit2 {w : World} {v0 v1 : Value} {r0 r1 : List Int} {g : Nat} (h0 : Ints .i64 w v0 r0) (h1 : Ints .i64 w v1 r1) (t : TypeId) (hg : g = w.heap.size) : Rows (w.alloc (.cells #[v0, v1] t)) (.slice (some ⟨g, 0, none⟩) 2 2) [r0, r1] := by
  subst hg
  have hr : (w.alloc (.cells #[v0, v1] t)).rowIs w.heap.size t 2 (fun i => if i = 0 then v0 else v1) := SBlk.made w v0 v1 t
  refine ⟨_, _, _, rfl, SlcAt.of_row hr (by omega), fun i hi => ?_⟩
  have : i = 0 ∨ i = 1 := by simp at hi; omega
  rcases this with rfl | rfl
  · exact h0.ext ((Ext.refl w).alloc _)
  · exact h1.ext ((Ext.refl w).alloc _)
end Go.Proofs.YtdlhfihddipjaacDoor
