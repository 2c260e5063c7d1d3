/-
  Contract: the reference's check of a prior.
-/
import Derived.Test.YtdlhfihddipjaabAg1
namespace Go.Proofs.Ytdlhfihddipjaab
open Go.RowKit

set_option maxRecDepth 100000 in
set_option maxHeartbeats 2000000 in
theorem refAgCheck_any (w : World) (v1 v2 : Value) (W : List Int) (C : List (List Int)) (h : Prior w v1 v2 W C) :
    Calls Try.prog 44 #[.agg #[v1, v2]] w fun e w' => e = .returned (.int .i64 (agErr W C)) ∧ Ext w w' := by
  obtain ⟨h1, h2⟩ := h
  have HC : Hid (∀ (w : World) (v : Value) (p : List Int), Ints .i64 w v p → Calls Try.prog 92 #[v] w fun e w' => e = .returned (.int .i64 (pErr p)) ∧ w = w') := rcheck_any
  obtain ⟨A, c, rfl, hs, hf⟩ := h1
  have hle := hs.le
  have hcap := hs.cap
  have H2 := Lib.hid h2
  obtain ⟨A2, c2, vs, rfl, hs2, _⟩ := h2
  have hle2 := hs2.le
  have hcap2 := hs2.cap
  clear hf hs2
  obtain ⟨q0, q1⟩ := cellsP w (.slice A W.length c) (.slice A2 C.length c2) 45
  have hx := (Ext.refl w).alloc (.cells #[.slice A W.length c, .slice A2 C.length c2] 45)
  unfold agErr
  by_cases e1 : W.length < 1
  · rw [if_pos (.inl e1)]
    have t1 : decide ((W.length : Int) < 1) = true := by rw [decide_eq_true_eq]; omega
    clear e1 q1 hs
    go_enter Try.func44, Try.ntmps44
    go_wp2
    go_ret
    exact ⟨rfl, hx⟩
  have t1 : decide ((W.length : Int) < 1) = false := by rw [decide_eq_false_iff_not]; omega
  by_cases e2 : 64 < W.length
  · rw [if_pos (.inr e2)]
    clear e1 q1 hs
    go_enter Try.func44, Try.ntmps44
    go_wp2
    go_ret
    exact ⟨rfl, hx⟩
  rw [if_neg (by omega)]
  by_cases e3 : 4 < C.length
  · rw [if_pos e3]
    clear e1 hs
    go_enter Try.func44, Try.ntmps44
    go_wp2
    go_ret
    exact ⟨rfl, hx⟩
  rw [if_neg e3]
  obtain ⟨z, hz⟩ : ∃ z : Int, z = if W.any wBad then 2 else if C.any (cBad W.length) then 3 else 0 := ⟨_, rfl⟩
  rw [← hz]
  have Hz := Lib.hid hz
  have hs' := hs.ext hx
  have H2' := Lib.hid (H2.out.ext hx)
  clear hz e1 hs H2
  go_enter Try.func44, Try.ntmps44
  go_wp2
  go_loop [4] (fun i => ∃ k : Nat, k ≤ W.length ∧ i = .int .i64 k ∧ Hid (∀ j, j < k → wBad (nth W j) = false)) (fun i => W.length - (intOf i).toNat)
  case atStart => exact ⟨0, Nat.zero_le _, rfl, fun j hj => absurd hj (by omega)⟩
  case round =>
    obtain ⟨k, hk, rfl, hgo⟩ := hrel
    by_cases hlt : k < W.length
    · obtain ⟨ad, rfl, hb, hc⟩ := hs'.get hlt
      by_cases g0 : nth W k < 1
      · go_wp2
        go_ret
        exact ⟨by rw [Hz.out, if_pos (any_nthI.2 ⟨k, hlt, by unfold wBad; simp [g0]⟩)]; rfl, hx⟩
      by_cases g1 : 1000 < nth W k
      · go_wp2
        go_ret
        exact ⟨by rw [Hz.out, if_pos (any_nthI.2 ⟨k, hlt, by unfold wBad; simp [g1]⟩)]; rfl, hx⟩
      have hg : Hid (wBad (nth W k) = false) := by show wBad (nth W k) = false; unfold wBad; simp; omega
      go_wp2
      go_round
      case rel => exact ⟨k + 1, by omega, by go_num, fun j hj => by
        by_cases e : j = k
        · rw [e]; exact hg.out
        · exact hgo.out j (by omega)⟩
      case measure => simp [intOf]; omega
    · obtain rfl : k = W.length := by omega
      have hW : Hid (¬ W.any wBad = true) := fun e => by
        obtain ⟨i, hi, q⟩ := any_nthI.1 e
        rw [hgo.out i hi] at q; cases q
      go_wp2
      go_loop [5] (fun i => ∃ k : Nat, k ≤ C.length ∧ i = .int .i64 k ∧ Hid (∀ j, j < k → cBad W.length (nthL C j) = false)) (fun i => C.length - (intOf i).toNat)
      case atStart => exact ⟨0, Nat.zero_le _, rfl, fun j hj => absurd hj (by omega)⟩
      case round =>
        obtain ⟨k, hk, rfl, hgo⟩ := hrel
        by_cases hlt : k < C.length
        · obtain ⟨ad, A', c', rfl, hb, hc, hle', hcap', hI⟩ := H2'.out.get hlt
          have CC := Lib.hid (HC.out _ _ _ hI)
          have hB : cBad W.length (nthL C k) = !decide ((nthL C k).length = W.length ∧ pErr (nthL C k) = 0) := rfl
          obtain ⟨c3, hc3⟩ : ∃ c3, c3 = nthL C k := ⟨_, rfl⟩
          rw [← hc3] at hc hle' CC hB
          have Hc3 := Lib.hid hc3
          clear hc3 hI
          obtain ⟨pe, hpe⟩ : ∃ pe, pe = pErr c3 := ⟨_, rfl⟩
          rw [← hpe] at CC hB
          clear hpe
          by_cases g1 : c3.length = W.length
          · have t2 : ((c3.length : Int) != (W.length : Int)) = false := by simp [g1]
            by_cases g0 : pe = 0
            · have t : (pe != 0) = false := by rw [g0]; rfl
              have hg := Lib.hid (show cBad W.length c3 = false by rw [hB]; simp [g0, g1])
              clear g0 g1 hB
              go_wp2_with fail
              refine CC.out.mono ?_
              rintro e w1 ⟨rfl, rfl⟩
              go_wp2
              go_round
              case rel => exact ⟨k + 1, by omega, by go_num, fun j hj => by
                by_cases e : j = k
                · rw [e, ← Hc3.out]; exact hg.out
                · exact hgo.out j (by omega)⟩
              case measure => simp [intOf]; omega
            · have t : (pe != 0) = true := by rw [bne_iff_ne]; exact g0
              have hg := Lib.hid (show cBad W.length (nthL C k) = true by rw [← Hc3.out, hB]; simp [g0])
              clear g0 g1 hB
              go_wp2_with fail
              refine CC.out.mono ?_
              rintro e w1 ⟨rfl, rfl⟩
              go_wp2
              go_ret
              exact ⟨by rw [Hz.out, if_neg hW.out, if_pos (any_nthL.2 ⟨k, hlt, hg.out⟩)]; rfl, hx⟩
          · have t2 : ((c3.length : Int) != (W.length : Int)) = true := by rw [bne_iff_ne]; omega
            have hg := Lib.hid (show cBad W.length (nthL C k) = true by rw [← Hc3.out, hB]; simp [g1])
            clear g1 hB CC
            go_wp2
            go_ret
            exact ⟨by rw [Hz.out, if_neg hW.out, if_pos (any_nthL.2 ⟨k, hlt, hg.out⟩)]; rfl, hx⟩
        · obtain rfl : k = C.length := by omega
          have hCC : Hid (¬ C.any (cBad W.length) = true) := fun e => by
            obtain ⟨i, hi, q⟩ := any_nthL.1 e
            rw [hgo.out i hi] at q; cases q
          go_wp2
          go_ret
          exact ⟨by rw [Hz.out, if_neg hW.out, if_neg hCC.out]; rfl, hx⟩

end Go.Proofs.Ytdlhfihddipjaab
