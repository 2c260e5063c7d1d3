/-
  The agreement texts: Posterior, of the program and of its reference.
-/
import Derived.Test.YtdlhfihddipjaacDoorAg3r
import Derived.Test.YtdlhfihddipjaacDoorAg4r
namespace Go.Proofs.YtdlhfihddipjaacDoor
open Go.RowKit

def postR (W : List Int) (C : List (List Int)) (a k : Int) (e : Nat) : (Nat × Nat) × Int := if chkErr W C a k e ≠ 0 then ((0, 0), chkErr W C a k e) else (post W C a.toNat k.toNat e, 0)
theorem chkErr_zero {W : List Int} {C : List (List Int)} {a k : Int} {e : Nat} (h : chkErr W C a k e = 0) : PrOk W C ∧ ∃ a' k' : Nat, a = a' ∧ k = k' ∧ a' < C.length ∧ k' < W.length ∧ e < 2 ^ W.length := by
  unfold chkErr at h
  by_cases h0 : agErr W C = 0
  · rw [if_neg (by simpa using h0)] at h
    by_cases h1 : (a < 0 ∨ (C.length : Int) ≤ a) ∨ (k < 0 ∨ (W.length : Int) ≤ k) ∨ 2 ^ W.length ≤ e
    · rw [if_pos h1] at h; cases h
    · obtain ⟨a', rfl⟩ := Int.eq_ofNat_of_zero_le (show 0 ≤ a by omega)
      obtain ⟨k', rfl⟩ := Int.eq_ofNat_of_zero_le (show 0 ≤ k by omega)
      exact ⟨agErr_zero h0, a', k', rfl, rfl, by omega, by omega, by omega⟩
  · rw [if_pos (by simpa using h0)] at h; exact absurd h h0
theorem chk_ev (W : List Int) (C : List (List Int)) (a k : Int) (e : Nat) : chkErr W C a k e = if evErr W C e ≠ 0 then evErr W C e else if (a < 0 ∨ (C.length : Int) ≤ a) ∨ (k < 0 ∨ (W.length : Int) ≤ k) then 2 else 0 := by
  by_cases h0 : agErr W C = 0
  · have ev : evErr W C e = if 2 ^ W.length ≤ e then 2 else 0 := by unfold evErr; rw [if_neg (by simpa using h0)]
    have ck : chkErr W C a k e = if (a < 0 ∨ (C.length : Int) ≤ a) ∨ (k < 0 ∨ (W.length : Int) ≤ k) ∨ 2 ^ W.length ≤ e then 2 else 0 := by unfold chkErr; rw [if_neg (by simpa using h0)]
    rw [ev, ck]
    by_cases h1 : 2 ^ W.length ≤ e
    · rw [if_pos h1, if_pos (.inr (.inr h1)), if_pos (by decide)]
    · rw [if_neg h1, if_neg (show ¬ ((0 : Int) ≠ 0) by decide)]
      by_cases h2 : (a < 0 ∨ (C.length : Int) ≤ a) ∨ (k < 0 ∨ (W.length : Int) ≤ k)
      · rw [if_pos h2, if_pos (by omega)]
      · rw [if_neg h2, if_neg (by omega)]
  · have ev : evErr W C e = agErr W C := by unfold evErr; rw [if_pos (by simpa using h0)]
    have ck : chkErr W C a k e = agErr W C := by unfold chkErr; rw [if_pos (by simpa using h0)]
    rw [ev, ck, if_pos (by simpa using h0)]

set_option maxRecDepth 100000 in
set_option maxHeartbeats 4000000 in
theorem Posterior_any (w : World) (v1 v2 : Value) (W : List Int) (C : List (List Int)) (h : Prior w v1 v2 W C) (a k : Int) (e : Nat) (he : e < 18446744073709551616) :
    Calls Tryd.prog 19 #[.agg #[v1, v2], .int .i64 a, .int .i64 k, .int .u64 e] w fun x w' => x = .returned (.tuple #[fracV (postR W C a k e).1, .int .i64 (postR W C a k e).2]) ∧ Ext w w' := by
  obtain ⟨h1, h2⟩ := h
  obtain ⟨A, c, rfl, hs, hf⟩ := id h1
  have hle := hs.le
  have hcap := hs.cap
  obtain ⟨A2, c2, vs, rfl, hs2, _⟩ := id h2
  have hle2 := hs2.le
  have hcap2 := hs2.cap
  clear hs hf hs2
  obtain ⟨q0, q1⟩ := cellsP w (.slice A W.length c) (.slice A2 C.length c2) 37
  have hx0 := (Ext.refl w).alloc (.cells #[.slice A W.length c, .slice A2 C.length c2] 37)
  have hz0 := (Ext.refl (w.alloc (.cells #[.slice A W.length c, .slice A2 C.length c2] 37))).alloc (.cells #[.int .i64 0, .int .i64 0] 52)
  have hx1 := hx0.alloc (.cells #[.int .i64 0, .int .i64 0] 52)
  obtain ⟨r0, r1⟩ := cellsP (w.alloc (.cells #[.slice A W.length c, .slice A2 C.length c2] 37)) (.int .i64 0) (.int .i64 0) 52
  have f0 := frozenP (w.alloc (.cells #[.slice A W.length c, .slice A2 C.length c2] 37)) (.int .i64 0) (.int .i64 0) 52 0
  have f1 := frozenP (w.alloc (.cells #[.slice A W.length c, .slice A2 C.length c2] 37)) (.int .i64 0) (.int .i64 0) 52 1
  rw [show (w.alloc (.cells #[.slice A W.length c, .slice A2 C.length c2] 37)).heap.size = w.heap.size + 1 by simp] at r0 r1 f0 f1
  have q0 := (hz0.cell (by simp)).trans q0
  have q1 := (hz0.cell (by simp)).trans q1
  have CK := check_any _ _ _ W C ⟨h1.ext hx1, h2.ext hx1⟩ a k e he
  by_cases h0 : chkErr W C a k e = 0
  rotate_left 1
  · unfold postR
    rw [if_pos (by simpa using h0)]
    have t : (chkErr W C a k e != 0) = true := by rw [bne_iff_ne]; exact h0
    obtain ⟨z, hz⟩ : ∃ z, z = chkErr W C a k e := ⟨_, rfl⟩
    rw [← hz] at t CK ⊢
    have CK := Lib.hid CK
    clear h0 hz h1 h2
    go_enter Tryd.func19, Tryd.ntmps19
    go_wp2_with fail
    refine CK.out.mono ?_
    rintro x w2 ⟨rfl, hy⟩
    have hx2 := hx1.trans hy
    have l0 : w.heap.size + 1 < w2.heap.size := by have := hy.size; simp at this; omega
    have q0 := (hy.cell (by simp <;> omega)).trans q0
    have q1 := (hy.cell (by simp <;> omega)).trans q1
    have r0 := (hy.cell (by simp)).trans r0
    have r1 := (hy.cell (by simp)).trans r1
    have f0 := (Below.frozen hy (by simp)).trans f0
    have f1 := (Below.frozen hy (by simp)).trans f1
    clear hy CK hz0
    go_wp2
    refine bodyPost_ret (v := .tuple #[.agg #[.int .i64 0, .int .i64 0], .int .i64 z]) (by simp [results, Tryd.results19, go_sem, r0, r1]) rfl ⟨rfl, ?_⟩
    exact (hx2.setCell (by simp) _).setCell (by simp) _
  obtain ⟨hP, a', k', rfl, rfl, ha, hk, hel⟩ := chkErr_zero h0
  rw [h0] at CK
  have CK := Lib.hid CK
  have HPo : Hid (∀ w1, Ext w w1 → Calls Tryd.prog 44 #[.agg #[.slice A W.length c, .slice A2 C.length c2], .int .i64 (a' : Nat), .int .i64 (k' : Nat), .int .u64 e] w1 fun x w' => x = .returned (fracV (post W C a' k' e)) ∧ Ext w1 w') := fun w1 hx => posterior_any w1 _ _ W C ⟨h1.ext hx, h2.ext hx⟩ hP a' k' e ha hk he
  have e9 : postR W C (a' : Nat) (k' : Nat) e = (post W C a' k' e, 0) := by unfold postR; rw [if_neg (by simpa using h0)]; simp
  rw [e9]
  obtain ⟨F, hF⟩ : ∃ F, F = post W C a' k' e := ⟨_, rfl⟩
  rw [← hF] at HPo ⊢
  obtain ⟨Fx, Fy⟩ := F
  have HP2 : Hid (∀ w1, Ext w w1 → Calls Tryd.prog 44 #[.agg #[.slice A W.length c, .slice A2 C.length c2], .int .i64 (a' : Nat), .int .i64 (k' : Nat), .int .u64 e] w1 fun x w' => x = .returned (.agg #[.int .i64 (Fx : Nat), .int .i64 (Fy : Nat)]) ∧ Ext w1 w') := HPo.out
  clear hF e9 hP HPo h1 h2 h0 hel ha hk
  go_enter Tryd.func19, Tryd.ntmps19
  go_wp2_with fail
  refine CK.out.mono ?_
  rintro x w2 ⟨rfl, hy⟩
  have hx2 := hx1.trans hy
  have l0 : w.heap.size + 1 < w2.heap.size := by have := hy.size; simp at this; omega
  have q0 := (hy.cell (by simp <;> omega)).trans q0
  have q1 := (hy.cell (by simp <;> omega)).trans q1
  have r0 := (hy.cell (by simp)).trans r0
  have r1 := (hy.cell (by simp)).trans r1
  have f0 := (Below.frozen hy (by simp)).trans f0
  have f1 := (Below.frozen hy (by simp)).trans f1
  clear hy CK hz0
  go_wp2_with fail
  refine (HP2.out _ hx2).mono ?_
  rintro x w3 ⟨rfl, hy⟩
  have hx2 := hx2.trans hy
  have r0 := (hy.cell l0).trans r0
  have r1 := (hy.cell l0).trans r1
  have f0 := (Below.frozen hy l0).trans f0
  have f1 := (Below.frozen hy l0).trans f1
  clear hy HP2
  go_wp2
  refine bodyPost_ret (v := .tuple #[.agg #[.int .i64 (Fx : Nat), .int .i64 (Fy : Nat)], .int .i64 0]) (by simp [results, Tryd.results19, go_sem, r0, r1]) rfl ⟨rfl, ?_⟩
  exact (hx2.setCell (by simp) _).setCell (by simp) _

end Go.Proofs.YtdlhfihddipjaacDoor
