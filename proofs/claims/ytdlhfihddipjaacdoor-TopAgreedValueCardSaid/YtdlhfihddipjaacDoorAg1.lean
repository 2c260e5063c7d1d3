/-
  The agreement texts: memory words (slices of slices, priors), the error of a prior; contracts of the checks of the program and of its reference.
-/
import Derived.Test.YtdlhfihddipjaacDoorPart4
import Derived.Test.YtdlhfihddipjaacDoorRef3
import Derived.Test.YtdlhfihddipjaacDoorBits2
namespace Go.Proofs.YtdlhfihddipjaacDoor
open Go.RowKit

/-! ### slices of slices, priors -/
def nthL (cs : List (List Int)) (k : Nat) : List Int := cs.getD k []
theorem nthL_eq {cs : List (List Int)} {k : Nat} (h : k < cs.length) : nthL cs k = cs[k] := by unfold nthL; simp [h]
theorem ext_nthL {p q : List (List Int)} (hl : p.length = q.length) (h : ∀ k, k < p.length → nthL p k = nthL q k) : p = q := by
  refine List.ext_getElem hl fun k h1 h2 => ?_
  have := h k h1
  rwa [nthL_eq h1, nthL_eq h2] at this
/-- A slice of slices of integers that reads as 'cs'. -/
def Rows (w : World) (v : Value) (cs : List (List Int)) : Prop :=
  ∃ A c vs, v = .slice A cs.length c ∧ SlcAt w A c cs.length vs ∧ ∀ i, i < cs.length → Ints .i64 w (vs i) (nthL cs i)
theorem Rows.ext {w w1 : World} {v : Value} {cs : List (List Int)} (h : Rows w v cs) (k : Ext w w1) : Rows w1 v cs := by
  obtain ⟨A, c, vs, e, hs, hi⟩ := h
  exact ⟨A, c, vs, e, hs.ext k, fun i hi' => (hi i hi').ext k⟩
theorem Rows.nil (w : World) : Rows w (.slice none 0 0) [] := ⟨none, 0, fun _ => undef, rfl, SlcAt.nil _ _, fun i h => absurd h (by simp)⟩
/-- What a row holds at an index. -/
theorem Rows.get {w : World} {A : Option Addr} {n c : Nat} {cs : List (List Int)} (h : Rows w (.slice A n c) cs) {i : Nat} (hi : i < cs.length) :
    ∃ ad A' c', A = some ad ∧ ad.block < w.heap.size ∧ w.cell? (ad.add i) = some (.slice A' (nthL cs i).length c') ∧ (nthL cs i).length ≤ c' ∧ c' ≤ 9223372036854775807 ∧ Ints .i64 w (.slice A' (nthL cs i).length c') (nthL cs i) := by
  obtain ⟨A0, c0, vs, e, hs, hI⟩ := h
  injection e with e1 e2 e3
  subst e1
  obtain ⟨ad, e, hb, hc⟩ := hs.get hi
  have h1 := hI i hi
  have h2 := h1
  obtain ⟨A', c', e', hs', _⟩ := h1
  rw [e'] at hc h2
  exact ⟨ad, A', c', e, hb, hc, hs'.le, hs'.cap, h2⟩
/-- A prior: weights and cells. -/
def Prior (w : World) (v1 v2 : Value) (W : List Int) (C : List (List Int)) : Prop := Ints .i64 w v1 W ∧ Rows w v2 C
theorem Prior.ext {w w1 : World} {v1 v2 : Value} {W : List Int} {C : List (List Int)} (h : Prior w v1 v2 W C) (k : Ext w w1) : Prior w1 v1 v2 W C := ⟨h.1.ext k, h.2.ext k⟩
theorem cellsP (w : World) (a b : Value) (t : TypeId) : (w.alloc (.cells #[a, b] t)).cell? ⟨w.heap.size, 0, none⟩ = some a ∧ (w.alloc (.cells #[a, b] t)).cell? ⟨w.heap.size, 1, none⟩ = some b :=
  ⟨cell_of_row _ _ _ _ _ _ (heap_alloc_new w (.cells #[a, b] t)), cell_of_row _ _ _ _ _ _ (heap_alloc_new w (.cells #[a, b] t))⟩

/-! ### the error of a prior -/
def pErr (p : List Int) : Int := if 64 < p.length then 8 else if pOk p then 0 else 3
def wBad (x : Int) : Bool := decide (x < 1) || decide (1000 < x)
def cBad (n : Nat) (c : List Int) : Bool := !decide (c.length = n ∧ pErr c = 0)
def agErr (W : List Int) (C : List (List Int)) : Int := if W.length < 1 ∨ 64 < W.length then 2 else if 4 < C.length then 8 else if W.any wBad then 2 else if C.any (cBad W.length) then 3 else 0
theorem any_nthI {r : List Int} {Q : Int → Bool} : r.any Q = true ↔ ∃ i, i < r.length ∧ Q (nth r i) = true := by
  rw [List.any_eq_true]
  constructor
  · rintro ⟨x, hx, hq⟩
    obtain ⟨i, hi, rfl⟩ := List.mem_iff_getElem.1 hx
    exact ⟨i, hi, by rw [nth_eq hi]; exact hq⟩
  · rintro ⟨i, hi, hq⟩
    exact ⟨_, nth_mem hi, hq⟩
theorem any_nthL {r : List (List Int)} {Q : List Int → Bool} : r.any Q = true ↔ ∃ i, i < r.length ∧ Q (nthL r i) = true := by
  rw [List.any_eq_true]
  constructor
  · rintro ⟨x, hx, hq⟩
    obtain ⟨i, hi, rfl⟩ := List.mem_iff_getElem.1 hx
    exact ⟨i, hi, by rw [nthL_eq hi]; exact hq⟩
  · rintro ⟨i, hi, hq⟩
    exact ⟨_, by rw [nthL_eq hi]; exact List.getElem_mem hi, hq⟩
/-- A valid prior. -/
structure PrOk (W : List Int) (C : List (List Int)) : Prop where
  n0 : 0 < W.length
  n64 : W.length ≤ 64
  c4 : C.length ≤ 4
  wok : ∀ i, i < W.length → 1 ≤ nth W i ∧ nth W i ≤ 1000
  cl : ∀ a, a < C.length → (nthL C a).length = W.length
  cok : ∀ a, a < C.length → pOk (nthL C a)
theorem pErr_ok {p : List Int} (h : p.length ≤ 64) (hp : pOk p) : pErr p = 0 := by unfold pErr; rw [if_neg (by omega), if_pos hp]
theorem pErr_zero {p : List Int} (h : pErr p = 0) : p.length ≤ 64 ∧ pOk p := by
  unfold pErr at h
  by_cases h1 : 64 < p.length
  · rw [if_pos h1] at h; cases h
  · rw [if_neg h1] at h
    by_cases h2 : pOk p
    · exact ⟨by omega, h2⟩
    · rw [if_neg h2] at h; cases h
theorem agErr_zero {W : List Int} {C : List (List Int)} (h : agErr W C = 0) : PrOk W C := by
  unfold agErr at h
  by_cases h1 : W.length < 1 ∨ 64 < W.length
  · rw [if_pos h1] at h; cases h
  rw [if_neg h1] at h
  by_cases h2 : 4 < C.length
  · rw [if_pos h2] at h; cases h
  rw [if_neg h2] at h
  by_cases h3 : W.any wBad = true
  · rw [if_pos h3] at h; cases h
  rw [if_neg h3] at h
  by_cases h4 : C.any (cBad W.length) = true
  · rw [if_pos h4] at h; cases h
  have hc : ∀ a, a < C.length → (nthL C a).length = W.length ∧ pErr (nthL C a) = 0 := fun a ha => by
    apply Classical.byContradiction
    intro k
    exact h4 (any_nthL.2 ⟨a, ha, by unfold cBad; simp only [Bool.not_eq_true', decide_eq_false_iff_not]; exact k⟩)
  exact ⟨by omega, by omega, by omega, fun i hi => by
    apply Classical.byContradiction
    intro k
    exact h3 (any_nthI.2 ⟨i, hi, by unfold wBad; simp; omega⟩), fun a ha => (hc a ha).1, fun a ha => (pErr_zero (hc a ha).2).2⟩
theorem agErr_ok {W : List Int} {C : List (List Int)} (h : PrOk W C) : agErr W C = 0 := by
  unfold agErr
  have := h.n0
  have := h.n64
  have := h.c4
  rw [if_neg (by omega), if_neg (by omega), if_neg, if_neg]
  · rw [any_nthL]
    rintro ⟨a, ha, hq⟩
    unfold cBad at hq
    rw [Bool.not_eq_true', decide_eq_false_iff_not] at hq
    exact hq ⟨h.cl a ha, pErr_ok (by rw [h.cl a ha]; exact h.n64) (h.cok a ha)⟩
  · rw [any_nthI]
    rintro ⟨i, hi, hq⟩
    have := h.wok i hi
    unfold wBad at hq
    simp at hq
    omega

theorem pcheck_any (w : World) (v : Value) (p : List Int) (h : Ints .i64 w v p) : Calls Tryd.prog 37 #[v] w fun e w' => e = .returned (.int .i64 (pErr p)) ∧ w = w' := by
  unfold pErr
  by_cases h1 : 64 < p.length
  · rw [if_pos h1]; exact pcheck_big w v p h h1
  · rw [if_neg h1]
    by_cases h2 : pOk p
    · rw [if_pos h2]; exact pcheck_ok w v p h (by omega) h2
    · rw [if_neg h2]; exact pcheck_bad w v p h (by omega) h2
set_option maxRecDepth 100000 in
set_option maxHeartbeats 2000000 in
theorem agCheck_any (w : World) (v1 v2 : Value) (W : List Int) (C : List (List Int)) (h : Prior w v1 v2 W C) :
    Calls Tryd.prog 16 #[.agg #[v1, v2]] w fun e w' => e = .returned (.int .i64 (agErr W C)) ∧ Ext w w' := by
  obtain ⟨h1, h2⟩ := h
  have HC : Hid (∀ (w : World) (v : Value) (p : List Int), Ints .i64 w v p → Calls Tryd.prog 37 #[v] w fun e w' => e = .returned (.int .i64 (pErr p)) ∧ w = w') := pcheck_any
  obtain ⟨A, c, rfl, hs, hf⟩ := h1
  have hle := hs.le
  have hcap := hs.cap
  have H2 := Lib.hid h2
  obtain ⟨A2, c2, vs, rfl, hs2, _⟩ := h2
  have hle2 := hs2.le
  have hcap2 := hs2.cap
  clear hf hs2
  obtain ⟨q0, q1⟩ := cellsP w (.slice A W.length c) (.slice A2 C.length c2) 37
  have hx := (Ext.refl w).alloc (.cells #[.slice A W.length c, .slice A2 C.length c2] 37)
  unfold agErr
  by_cases e1 : W.length < 1
  · rw [if_pos (.inl e1)]
    have t1 : decide ((W.length : Int) < 1) = true := by rw [decide_eq_true_eq]; omega
    clear e1 q1 hs
    go_enter Tryd.func16, Tryd.ntmps16
    go_wp2
    go_ret
    exact ⟨rfl, hx⟩
  have t1 : decide ((W.length : Int) < 1) = false := by rw [decide_eq_false_iff_not]; omega
  by_cases e2 : 64 < W.length
  · rw [if_pos (.inr e2)]
    clear e1 q1 hs
    go_enter Tryd.func16, Tryd.ntmps16
    go_wp2
    go_ret
    exact ⟨rfl, hx⟩
  rw [if_neg (by omega)]
  by_cases e3 : 4 < C.length
  · rw [if_pos e3]
    clear e1 hs
    go_enter Tryd.func16, Tryd.ntmps16
    go_wp2
    go_ret
    exact ⟨rfl, hx⟩
  rw [if_neg e3]
  obtain ⟨z, hz⟩ : ∃ z : Int, z = if W.any wBad then 2 else if C.any (cBad W.length) then 3 else 0 := ⟨_, rfl⟩
  rw [← hz]
  have Hz := Lib.hid hz
  have hs' := hs.ext hx
  have H2' := Lib.hid (H2.out.ext hx)
  clear hz e1 hs H2
  go_enter Tryd.func16, Tryd.ntmps16
  go_wp2
  go_loop [24] (fun i => ∃ k : Nat, k ≤ W.length ∧ i = .int .i64 k ∧ Hid (∀ j, j < k → wBad (nth W j) = false)) (fun i => W.length - (intOf i).toNat)
  case atStart => exact ⟨0, Nat.zero_le _, rfl, fun j hj => absurd hj (by omega)⟩
  case round =>
    obtain ⟨k, hk, rfl, hgo⟩ := hrel
    by_cases hlt : k < W.length
    · obtain ⟨ad, rfl, hb, hc⟩ := hs'.get hlt
      by_cases g0 : nth W k < 1
      · go_wp2
        go_ret
        exact ⟨by rw [Hz.out, if_pos (any_nthI.2 ⟨k, hlt, by unfold wBad; simp [g0]⟩)]; rfl, hx⟩
      by_cases g1 : 1000 < nth W k
      · go_wp2
        go_ret
        exact ⟨by rw [Hz.out, if_pos (any_nthI.2 ⟨k, hlt, by unfold wBad; simp [g1]⟩)]; rfl, hx⟩
      have hg : Hid (wBad (nth W k) = false) := by show wBad (nth W k) = false; unfold wBad; simp; omega
      go_wp2
      go_round
      case rel => exact ⟨k + 1, by omega, by go_num, fun j hj => by
        by_cases e : j = k
        · rw [e]; exact hg.out
        · exact hgo.out j (by omega)⟩
      case measure => simp [intOf]; omega
    · obtain rfl : k = W.length := by omega
      have hW : Hid (¬ W.any wBad = true) := fun e => by
        obtain ⟨i, hi, q⟩ := any_nthI.1 e
        rw [hgo.out i hi] at q; cases q
      go_wp2
      go_loop [38] (fun i => ∃ k : Nat, k ≤ C.length ∧ i = .int .i64 k ∧ Hid (∀ j, j < k → cBad W.length (nthL C j) = false)) (fun i => C.length - (intOf i).toNat)
      case atStart => exact ⟨0, Nat.zero_le _, rfl, fun j hj => absurd hj (by omega)⟩
      case round =>
        obtain ⟨k, hk, rfl, hgo⟩ := hrel
        by_cases hlt : k < C.length
        · obtain ⟨ad, A', c', rfl, hb, hc, hle', hcap', hI⟩ := H2'.out.get hlt
          have CC := Lib.hid (HC.out _ _ _ hI)
          have hB : cBad W.length (nthL C k) = !decide ((nthL C k).length = W.length ∧ pErr (nthL C k) = 0) := rfl
          obtain ⟨c3, hc3⟩ : ∃ c3, c3 = nthL C k := ⟨_, rfl⟩
          rw [← hc3] at hc hle' CC hB
          have Hc3 := Lib.hid hc3
          clear hc3 hI
          obtain ⟨pe, hpe⟩ : ∃ pe, pe = pErr c3 := ⟨_, rfl⟩
          rw [← hpe] at CC hB
          clear hpe
          by_cases g0 : pe = 0
          · have t : (pe != 0) = false := by rw [g0]; rfl
            by_cases g1 : c3.length = W.length
            · have t2 : ((c3.length : Int) != (W.length : Int)) = false := by simp [g1]
              have hg := Lib.hid (show cBad W.length c3 = false by rw [hB]; simp [g0, g1])
              clear g0 g1 hB
              go_wp2_with fail
              refine CC.out.mono ?_
              rintro e w1 ⟨rfl, rfl⟩
              go_wp2
              go_round
              case rel => exact ⟨k + 1, by omega, by go_num, fun j hj => by
                by_cases e : j = k
                · rw [e, ← Hc3.out]; exact hg.out
                · exact hgo.out j (by omega)⟩
              case measure => simp [intOf]; omega
            · have t2 : ((c3.length : Int) != (W.length : Int)) = true := by rw [bne_iff_ne]; omega
              have hg := Lib.hid (show cBad W.length (nthL C k) = true by rw [← Hc3.out, hB]; simp [g1])
              clear g0 g1 hB
              go_wp2_with fail
              refine CC.out.mono ?_
              rintro e w1 ⟨rfl, rfl⟩
              go_wp2
              go_ret
              exact ⟨by rw [Hz.out, if_neg hW.out, if_pos (any_nthL.2 ⟨k, hlt, hg.out⟩)]; rfl, hx⟩
          · have t : (pe != 0) = true := by rw [bne_iff_ne]; exact g0
            have hg := Lib.hid (show cBad W.length (nthL C k) = true by rw [← Hc3.out, hB]; simp [g0])
            clear g0 hB
            go_wp2_with fail
            refine CC.out.mono ?_
            rintro e w1 ⟨rfl, rfl⟩
            go_wp2
            go_ret
            exact ⟨by rw [Hz.out, if_neg hW.out, if_pos (any_nthL.2 ⟨k, hlt, hg.out⟩)]; rfl, hx⟩
        · obtain rfl : k = C.length := by omega
          have hCC : Hid (¬ C.any (cBad W.length) = true) := fun e => by
            obtain ⟨i, hi, q⟩ := any_nthL.1 e
            rw [hgo.out i hi] at q; cases q
          go_wp2
          go_ret
          exact ⟨by rw [Hz.out, if_neg hW.out, if_neg hCC.out]; rfl, hx⟩

end Go.Proofs.YtdlhfihddipjaacDoor
