/-
  The agreement texts: the errors of a prior with an agent, a world, an event.
-/
import Derived.Test.YtdlhfihddipjaacDoorAg3
namespace Go.Proofs.YtdlhfihddipjaacDoor
open Go.RowKit

theorem shr_ne24 (s n : Nat) : ((s : Int) / 2 ^ n != 0) = decide (2 ^ n ≤ s) := by
  have e : (s : Int) / 2 ^ n = ((s / 2 ^ n : Nat) : Int) := by simp
  rw [e]
  by_cases h : 2 ^ n ≤ s
  · have : 0 < s / 2 ^ n := Nat.div_pos h (Nat.two_pow_pos n)
    rw [decide_eq_true h, bne_iff_ne]
    omega
  · have : s / 2 ^ n = 0 := Nat.div_eq_of_lt (by omega)
    rw [decide_eq_false h, this]; rfl
/-- The error of a prior, an agent, a world and an event. -/
def chkErr (W : List Int) (C : List (List Int)) (a k : Int) (e : Nat) : Int := if agErr W C ≠ 0 then agErr W C else if (a < 0 ∨ (C.length : Int) ≤ a) ∨ (k < 0 ∨ (W.length : Int) ≤ k) ∨ 2 ^ W.length ≤ e then 2 else 0
def anyErr (W : List Int) (C : List (List Int)) (k : Int) (e : Nat) : Int := if agErr W C ≠ 0 then agErr W C else if (k < 0 ∨ (W.length : Int) ≤ k) ∨ 2 ^ W.length ≤ e then 2 else 0
def evErr (W : List Int) (C : List (List Int)) (e : Nat) : Int := if agErr W C ≠ 0 then agErr W C else if 2 ^ W.length ≤ e then 2 else 0

set_option maxRecDepth 100000 in
set_option maxHeartbeats 4000000 in
theorem check_any (w : World) (v1 v2 : Value) (W : List Int) (C : List (List Int)) (h : Prior w v1 v2 W C) (a k : Int) (e : Nat) (he : e < 18446744073709551616) :
    Calls Tryd.prog 43 #[.agg #[v1, v2], .int .i64 a, .int .i64 k, .int .u64 e] w fun x w' => x = .returned (.int .i64 (chkErr W C a k e)) ∧ Ext w w' := by
  obtain ⟨h1, h2⟩ := h
  have hK : ∀ w1, Ext w w1 → _ := fun w1 hx => agCheck_any w1 v1 v2 W C ⟨h1.ext hx, h2.ext hx⟩
  obtain ⟨A, c, rfl, hs, hf⟩ := h1
  have hle := hs.le
  have hcap := hs.cap
  obtain ⟨A2, c2, vs, rfl, hs2, _⟩ := h2
  have hle2 := hs2.le
  have hcap2 := hs2.cap
  clear hs hf hs2
  obtain ⟨q0, q1⟩ := cellsP w (.slice A W.length c) (.slice A2 C.length c2) 37
  have hx0 := (Ext.refl w).alloc (.cells #[.slice A W.length c, .slice A2 C.length c2] 37)
  have CK := hK _ hx0
  clear hK
  have hsh := shr_ne24 e W.length
  unfold chkErr
  by_cases h0 : agErr W C = 0
  rotate_left 1
  · rw [if_pos (by simpa using h0)]
    have t : (agErr W C != 0) = true := by rw [bne_iff_ne]; exact h0
    obtain ⟨z, hz⟩ : ∃ z, z = agErr W C := ⟨_, rfl⟩
    rw [← hz] at t CK ⊢
    have CK := Lib.hid CK
    clear h0 hz hsh
    go_enter Tryd.func43, Tryd.ntmps43
    go_wp2_with fail
    refine CK.out.mono ?_
    rintro x w1 ⟨rfl, hy⟩
    have hx := hx0.trans hy
    have q0 := (hy.cell (by simp)).trans q0
    have q1 := (hy.cell (by simp)).trans q1
    clear hy CK
    go_wp2
    go_ret
    exact ⟨rfl, hx⟩
  rw [if_neg (by simpa using h0)]
  have hP := agErr_zero h0
  rw [h0] at CK
  have CK := Lib.hid CK
  have n64 := hP.n64
  clear h0 hP
  by_cases a0 : a < 0
  · rw [if_pos (.inl (.inl a0))]
    clear hsh
    go_enter Tryd.func43, Tryd.ntmps43
    go_wp2_with fail
    refine CK.out.mono ?_
    rintro x w1 ⟨rfl, hy⟩
    have hx := hx0.trans hy
    have q0 := (hy.cell (by simp)).trans q0
    have q1 := (hy.cell (by simp)).trans q1
    clear hy CK
    go_wp2
    go_ret
    exact ⟨rfl, hx⟩
  by_cases a1 : (C.length : Int) ≤ a
  · rw [if_pos (.inl (.inr a1))]
    clear hsh
    go_enter Tryd.func43, Tryd.ntmps43
    go_wp2_with fail
    refine CK.out.mono ?_
    rintro x w1 ⟨rfl, hy⟩
    have hx := hx0.trans hy
    have q0 := (hy.cell (by simp)).trans q0
    have q1 := (hy.cell (by simp)).trans q1
    clear hy CK
    go_wp2
    go_ret
    exact ⟨rfl, hx⟩
  by_cases k0 : k < 0
  · rw [if_pos (.inr (.inl (.inl k0)))]
    clear hsh
    go_enter Tryd.func43, Tryd.ntmps43
    go_wp2_with fail
    refine CK.out.mono ?_
    rintro x w1 ⟨rfl, hy⟩
    have hx := hx0.trans hy
    have q0 := (hy.cell (by simp)).trans q0
    have q1 := (hy.cell (by simp)).trans q1
    clear hy CK
    go_wp2
    go_ret
    exact ⟨rfl, hx⟩
  by_cases k1 : (W.length : Int) ≤ k
  · rw [if_pos (.inr (.inl (.inr k1)))]
    clear hsh
    go_enter Tryd.func43, Tryd.ntmps43
    go_wp2_with fail
    refine CK.out.mono ?_
    rintro x w1 ⟨rfl, hy⟩
    have hx := hx0.trans hy
    have q0 := (hy.cell (by simp)).trans q0
    have q1 := (hy.cell (by simp)).trans q1
    clear hy CK
    go_wp2
    go_ret
    exact ⟨rfl, hx⟩
  by_cases e0 : 2 ^ W.length ≤ e
  · have hl : W.length < 64 := by
      apply Classical.byContradiction
      intro q
      have : W.length = 64 := by omega
      rw [this] at e0
      have : (2 : Nat) ^ 64 = 18446744073709551616 := by decide
      omega
    have hli : decide ((W.length : Int) < 64) = true := by rw [decide_eq_true_eq]; omega
    rw [if_pos (.inr (.inr e0))]
    rw [decide_eq_true e0] at hsh
    clear e0
    go_enter Tryd.func43, Tryd.ntmps43
    go_wp2_with fail
    refine CK.out.mono ?_
    rintro x w1 ⟨rfl, hy⟩
    have hx := hx0.trans hy
    have q0 := (hy.cell (by simp)).trans q0
    have q1 := (hy.cell (by simp)).trans q1
    clear hy CK
    go_wp2
    go_ret
    exact ⟨rfl, hx⟩
  · rw [if_neg (by omega)]
    rw [decide_eq_false e0] at hsh
    by_cases hl : W.length < 64
    · have hli : decide ((W.length : Int) < 64) = true := by rw [decide_eq_true_eq]; omega
      clear e0
      go_enter Tryd.func43, Tryd.ntmps43
      go_wp2_with fail
      refine CK.out.mono ?_
      rintro x w1 ⟨rfl, hy⟩
      have hx := hx0.trans hy
      have q0 := (hy.cell (by simp)).trans q0
      have q1 := (hy.cell (by simp)).trans q1
      clear hy CK
      go_wp2
      go_ret
      exact ⟨rfl, hx⟩
    · have hli : decide ((W.length : Int) < 64) = false := by rw [decide_eq_false_iff_not]; omega
      clear e0 hsh
      go_enter Tryd.func43, Tryd.ntmps43
      go_wp2_with fail
      refine CK.out.mono ?_
      rintro x w1 ⟨rfl, hy⟩
      have hx := hx0.trans hy
      have q0 := (hy.cell (by simp)).trans q0
      have q1 := (hy.cell (by simp)).trans q1
      clear hy CK
      go_wp2
      go_ret
      exact ⟨rfl, hx⟩

set_option maxRecDepth 100000 in
set_option maxHeartbeats 4000000 in
theorem anybody_any (w : World) (v1 v2 : Value) (W : List Int) (C : List (List Int)) (h : Prior w v1 v2 W C) (k : Int) (e : Nat) (he : e < 18446744073709551616) :
    Calls Tryd.prog 29 #[.agg #[v1, v2], .int .i64 k, .int .u64 e] w fun x w' => x = .returned (.int .i64 (anyErr W C k e)) ∧ Ext w w' := by
  obtain ⟨h1, h2⟩ := h
  have hK : ∀ w1, Ext w w1 → _ := fun w1 hx => agCheck_any w1 v1 v2 W C ⟨h1.ext hx, h2.ext hx⟩
  obtain ⟨A, c, rfl, hs, hf⟩ := h1
  have hle := hs.le
  have hcap := hs.cap
  obtain ⟨A2, c2, vs, rfl, hs2, _⟩ := h2
  have hle2 := hs2.le
  have hcap2 := hs2.cap
  clear hs hf hs2
  obtain ⟨q0, q1⟩ := cellsP w (.slice A W.length c) (.slice A2 C.length c2) 37
  have hx0 := (Ext.refl w).alloc (.cells #[.slice A W.length c, .slice A2 C.length c2] 37)
  have CK := hK _ hx0
  clear hK
  have hsh := shr_ne24 e W.length
  unfold anyErr
  by_cases h0 : agErr W C = 0
  rotate_left 1
  · rw [if_pos (by simpa using h0)]
    have t : (agErr W C != 0) = true := by rw [bne_iff_ne]; exact h0
    obtain ⟨z, hz⟩ : ∃ z, z = agErr W C := ⟨_, rfl⟩
    rw [← hz] at t CK ⊢
    have CK := Lib.hid CK
    clear h0 hz hsh
    go_enter Tryd.func29, Tryd.ntmps29
    go_wp2_with fail
    refine CK.out.mono ?_
    rintro x w1 ⟨rfl, hy⟩
    have hx := hx0.trans hy
    have q0 := (hy.cell (by simp)).trans q0
    have q1 := (hy.cell (by simp)).trans q1
    clear hy CK
    go_wp2
    go_ret
    exact ⟨rfl, hx⟩
  rw [if_neg (by simpa using h0)]
  have hP := agErr_zero h0
  rw [h0] at CK
  have CK := Lib.hid CK
  have n64 := hP.n64
  clear h0 hP
  by_cases k0 : k < 0
  · rw [if_pos (.inl (.inl k0))]
    clear hsh
    go_enter Tryd.func29, Tryd.ntmps29
    go_wp2_with fail
    refine CK.out.mono ?_
    rintro x w1 ⟨rfl, hy⟩
    have hx := hx0.trans hy
    have q0 := (hy.cell (by simp)).trans q0
    have q1 := (hy.cell (by simp)).trans q1
    clear hy CK
    go_wp2
    go_ret
    exact ⟨rfl, hx⟩
  by_cases k1 : (W.length : Int) ≤ k
  · rw [if_pos (.inl (.inr k1))]
    clear hsh
    go_enter Tryd.func29, Tryd.ntmps29
    go_wp2_with fail
    refine CK.out.mono ?_
    rintro x w1 ⟨rfl, hy⟩
    have hx := hx0.trans hy
    have q0 := (hy.cell (by simp)).trans q0
    have q1 := (hy.cell (by simp)).trans q1
    clear hy CK
    go_wp2
    go_ret
    exact ⟨rfl, hx⟩
  by_cases e0 : 2 ^ W.length ≤ e
  · have hl : W.length < 64 := by
      apply Classical.byContradiction
      intro q
      have : W.length = 64 := by omega
      rw [this] at e0
      have : (2 : Nat) ^ 64 = 18446744073709551616 := by decide
      omega
    have hli : decide ((W.length : Int) < 64) = true := by rw [decide_eq_true_eq]; omega
    rw [if_pos (.inr e0)]
    rw [decide_eq_true e0] at hsh
    clear e0
    go_enter Tryd.func29, Tryd.ntmps29
    go_wp2_with fail
    refine CK.out.mono ?_
    rintro x w1 ⟨rfl, hy⟩
    have hx := hx0.trans hy
    have q0 := (hy.cell (by simp)).trans q0
    have q1 := (hy.cell (by simp)).trans q1
    clear hy CK
    go_wp2
    go_ret
    exact ⟨rfl, hx⟩
  · rw [if_neg (by omega)]
    rw [decide_eq_false e0] at hsh
    by_cases hl : W.length < 64
    · have hli : decide ((W.length : Int) < 64) = true := by rw [decide_eq_true_eq]; omega
      clear e0
      go_enter Tryd.func29, Tryd.ntmps29
      go_wp2_with fail
      refine CK.out.mono ?_
      rintro x w1 ⟨rfl, hy⟩
      have hx := hx0.trans hy
      have q0 := (hy.cell (by simp)).trans q0
      have q1 := (hy.cell (by simp)).trans q1
      clear hy CK
      go_wp2
      go_ret
      exact ⟨rfl, hx⟩
    · have hli : decide ((W.length : Int) < 64) = false := by rw [decide_eq_false_iff_not]; omega
      clear e0 hsh
      go_enter Tryd.func29, Tryd.ntmps29
      go_wp2_with fail
      refine CK.out.mono ?_
      rintro x w1 ⟨rfl, hy⟩
      have hx := hx0.trans hy
      have q0 := (hy.cell (by simp)).trans q0
      have q1 := (hy.cell (by simp)).trans q1
      clear hy CK
      go_wp2
      go_ret
      exact ⟨rfl, hx⟩

end Go.Proofs.YtdlhfihddipjaacDoor
