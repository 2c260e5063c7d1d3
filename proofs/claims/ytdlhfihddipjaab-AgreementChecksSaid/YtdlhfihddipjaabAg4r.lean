/-
  The agreement texts: the reference's error of a prior and an event.
-/
import Derived.Test.YtdlhfihddipjaabAg4
import Derived.Test.YtdlhfihddipjaabAg1r
namespace Go.Proofs.Ytdlhfihddipjaab
open Go.RowKit

set_option maxRecDepth 100000 in
set_option maxHeartbeats 4000000 in
theorem events_any (w : World) (v1 v2 : Value) (W : List Int) (C : List (List Int)) (h : Prior w v1 v2 W C) (e : Nat) (he : e < 18446744073709551616) :
    Calls Try.prog 76 #[.agg #[v1, v2], .int .u64 e] w fun x w' => x = .returned (.int .i64 (evErr W C e)) ∧ Ext w w' := by
  obtain ⟨h1, h2⟩ := h
  have hK : ∀ w1, Ext w w1 → _ := fun w1 hx => refAgCheck_any w1 v1 v2 W C ⟨h1.ext hx, h2.ext hx⟩
  obtain ⟨A, c, rfl, hs, hf⟩ := h1
  have hle := hs.le
  have hcap := hs.cap
  obtain ⟨A2, c2, vs, rfl, hs2, _⟩ := h2
  clear hs hf hs2
  obtain ⟨q0, q1⟩ := cellsP w (.slice A W.length c) (.slice A2 C.length c2) 45
  have hx0 := (Ext.refl w).alloc (.cells #[.slice A W.length c, .slice A2 C.length c2] 45)
  have CK := hK _ hx0
  clear hK
  unfold evErr
  by_cases h0 : agErr W C = 0
  rotate_left 1
  · rw [if_pos (by simpa using h0)]
    have t : (agErr W C != 0) = true := by rw [bne_iff_ne]; exact h0
    obtain ⟨z, hz⟩ : ∃ z, z = agErr W C := ⟨_, rfl⟩
    rw [← hz] at t CK ⊢
    have CK := Lib.hid CK
    clear h0 hz
    go_enter Try.func76, Try.ntmps76
    go_wp2_with fail
    refine CK.out.mono ?_
    rintro x w1 ⟨rfl, hy⟩
    have hx := hx0.trans hy
    clear hy CK
    go_wp2
    go_ret
    exact ⟨rfl, hx⟩
  rw [if_neg (by simpa using h0)]
  have hP := agErr_zero h0
  rw [h0] at CK
  have CK := Lib.hid CK
  have n64 := hP.n64
  have HA : Hid (∀ w1, Calls Try.prog 105 #[.int .i64 (W.length : Nat)] w1 fun x w' => x = .returned (.int .u64 (full W.length : Nat)) ∧ w1 = w') := fun w1 => all01_ok w1 W.length n64
  have hsd := u64_andNot e (full W.length) he (full_lt64 n64)
  have hiff : sdiff e (full W.length) = 0 ↔ e < 2 ^ W.length := sdiff_full
  obtain ⟨D, hD⟩ : ∃ D, D = sdiff e (full W.length) := ⟨_, rfl⟩
  rw [← hD] at hsd hiff
  obtain ⟨f, hf⟩ : ∃ f, f = full W.length := ⟨_, rfl⟩
  rw [← hf] at hsd HA
  clear h0 hP hD hf
  by_cases e0 : 2 ^ W.length ≤ e
  · rw [if_pos e0]
    have t : ((D : Int) != 0) = true := by
      rw [bne_iff_ne]
      intro q
      have := hiff.1 (by omega)
      omega
    clear e0 hiff
    go_enter Try.func76, Try.ntmps76
    go_wp2_with fail
    refine CK.out.mono ?_
    rintro x w1 ⟨rfl, hy⟩
    have hx := hx0.trans hy
    have q0 := (hy.cell (by simp)).trans q0
    clear hy CK q1
    go_wp2_with fail
    refine (HA.out _).mono ?_
    rintro x w1 ⟨rfl, rfl⟩
    go_wp2
    go_ret
    exact ⟨rfl, hx⟩
  · rw [if_neg e0]
    have t : ((D : Int) != 0) = false := by
      rw [hiff.2 (by omega)]; rfl
    clear e0 hiff
    go_enter Try.func76, Try.ntmps76
    go_wp2_with fail
    refine CK.out.mono ?_
    rintro x w1 ⟨rfl, hy⟩
    have hx := hx0.trans hy
    have q0 := (hy.cell (by simp)).trans q0
    clear hy CK q1
    go_wp2_with fail
    refine (HA.out _).mono ?_
    rintro x w1 ⟨rfl, rfl⟩
    go_wp2
    go_ret
    exact ⟨rfl, hx⟩

end Go.Proofs.Ytdlhfihddipjaab
