/-
  The agreement texts: Posteriors, of the program and of its reference; lists of fractions compared.
-/
import Derived.Test.YtdlhfihddipjaabAg6
namespace Go.Proofs.Ytdlhfihddipjaab
open Go.RowKit

def postsR (W : List Int) (C : List (List Int)) (a : Int) (e : Nat) : List (Nat × Nat) × Int := if chkErr W C a 0 e ≠ 0 then ([], chkErr W C a 0 e) else (posts W C a.toNat e W.length, 0)

set_option maxRecDepth 100000 in
set_option maxHeartbeats 4000000 in
theorem Posteriors_any (w : World) (v1 v2 : Value) (W : List Int) (C : List (List Int)) (h : Prior w v1 v2 W C) (a : Int) (e : Nat) (he : e < 18446744073709551616) :
    Calls Try.prog 34 #[.agg #[v1, v2], .int .i64 a, .int .u64 e] w fun x w' => ∃ v', x = .returned (.tuple #[v', .int .i64 (postsR W C a e).2]) ∧ Fracs w' v' (postsR W C a e).1 ∧ Ext w w' := by
  obtain ⟨h1, h2⟩ := h
  obtain ⟨A, c, rfl, hs, hf⟩ := id h1
  have hle := hs.le
  have hcap := hs.cap
  obtain ⟨A2, c2, vs, rfl, hs2, _⟩ := id h2
  have hle2 := hs2.le
  have hcap2 := hs2.cap
  clear hs hf hs2
  obtain ⟨q0, q1⟩ := cellsP w (.slice A W.length c) (.slice A2 C.length c2) 45
  have hx0 := (Ext.refl w).alloc (.cells #[.slice A W.length c, .slice A2 C.length c2] 45)
  have CK := check_any _ _ _ W C ⟨h1.ext hx0, h2.ext hx0⟩ a 0 e he
  by_cases h0 : chkErr W C a 0 e = 0
  rotate_left 1
  · unfold postsR
    rw [if_pos (by simpa using h0)]
    have t : (chkErr W C a 0 e != 0) = true := by rw [bne_iff_ne]; exact h0
    obtain ⟨z, hz⟩ : ∃ z, z = chkErr W C a 0 e := ⟨_, rfl⟩
    rw [← hz] at t CK ⊢
    have CK := Lib.hid CK
    clear h0 hz h1 h2
    go_enter Try.func34, Try.ntmps34
    go_wp2_with fail
    refine CK.out.mono ?_
    rintro x w2 ⟨rfl, hy⟩
    have hx2 := hx0.trans hy
    have l0 : w.heap.size < w2.heap.size := by have := hy.size; simp at this; omega
    have q0 := (hy.cell (by simp)).trans q0
    have q1 := (hy.cell (by simp)).trans q1
    clear hy CK
    go_wp2
    go_ret2
    exact ⟨.slice none 0 0, rfl, Fracs.nil _, hx2⟩
  obtain ⟨hP, a', k', rfl, hk0, ha, hk, hel⟩ := chkErr_zero h0
  rw [h0] at CK
  have CK := Lib.hid CK
  have e9 : postsR W C (a' : Nat) e = (posts W C a' e W.length, 0) := by unfold postsR; rw [if_neg (by simpa using h0)]; simp
  rw [e9]
  have HPo : Hid (∀ w1, Ext w w1 → Calls Try.prog 83 #[.agg #[.slice A W.length c, .slice A2 C.length c2], .int .i64 (a' : Nat), .int .u64 e] w1 fun x w' => ∃ v', x = .returned v' ∧ Fracs w' v' (posts W C a' e W.length) ∧ Ext w1 w') := fun w1 hx => posteriors_any w1 _ _ W C ⟨h1.ext hx, h2.ext hx⟩ hP a' e ha he
  obtain ⟨F, hF⟩ : ∃ F, F = posts W C a' e W.length := ⟨_, rfl⟩
  rw [← hF] at HPo ⊢
  clear hF e9 hP h1 h2 h0 hel ha hk0 hk
  go_enter Try.func34, Try.ntmps34
  go_wp2_with fail
  refine CK.out.mono ?_
  rintro x w2 ⟨rfl, hy⟩
  have hx2 := hx0.trans hy
  have l0 : w.heap.size < w2.heap.size := by have := hy.size; simp at this; omega
  have q0 := (hy.cell (by simp)).trans q0
  have q1 := (hy.cell (by simp)).trans q1
  clear hy CK
  go_wp2_with fail
  refine (HPo.out _ hx2).mono ?_
  rintro x w3 ⟨v', rfl, hI, hy⟩
  have HI := Lib.hid hI
  clear hI
  go_wp2
  go_ret2
  exact ⟨_, rfl, HI.out, hx2.trans hy⟩

set_option maxRecDepth 100000 in
set_option maxHeartbeats 4000000 in
theorem refPosteriors_any (w : World) (v1 v2 : Value) (W : List Int) (C : List (List Int)) (h : Prior w v1 v2 W C) (a : Int) (e : Nat) (he : e < 18446744073709551616) :
    Calls Try.prog 35 #[.agg #[v1, v2], .int .i64 a, .int .u64 e] w fun x w' => ∃ v', x = .returned (.tuple #[v', .int .i64 (postsR W C a e).2]) ∧ Fracs w' v' (postsR W C a e).1 ∧ Ext w w' := by
  obtain ⟨i0, hi0, hz0, hz1, hz2⟩ := info_parts Try.infoFrac
  obtain ⟨h1, h2⟩ := h
  obtain ⟨A, c, rfl, hs, hf⟩ := id h1
  have hle := hs.le
  have hcap := hs.cap
  obtain ⟨A2, c2, vs, rfl, hs2, _⟩ := id h2
  have hle2 := hs2.le
  have hcap2 := hs2.cap
  clear hs hf hs2
  obtain ⟨q0, q1⟩ := cellsP w (.slice A W.length c) (.slice A2 C.length c2) 45
  have hx0 := (Ext.refl w).alloc (.cells #[.slice A W.length c, .slice A2 C.length c2] 45)
  have CK := events_any _ _ _ W C ⟨h1.ext hx0, h2.ext hx0⟩ e he
  have hce := chk_ev W C a 0 e
  by_cases hv : evErr W C e = 0
  rotate_left 1
  · rw [if_pos (by simpa using hv)] at hce
    unfold postsR
    rw [hce, if_pos (by simpa using hv)]
    have t : (evErr W C e != 0) = true := by rw [bne_iff_ne]; exact hv
    obtain ⟨z, hz⟩ : ∃ z, z = evErr W C e := ⟨_, rfl⟩
    rw [← hz] at t CK ⊢
    have CK := Lib.hid CK
    clear hv hz h1 h2 hce
    go_enter Try.func35, Try.ntmps35
    go_wp2_with fail
    refine CK.out.mono ?_
    rintro x w2 ⟨rfl, hy⟩
    have hx2 := hx0.trans hy
    have l0 : w.heap.size < w2.heap.size := by have := hy.size; simp at this; omega
    have q0 := (hy.cell (by simp)).trans q0
    have q1 := (hy.cell (by simp)).trans q1
    clear hy CK
    go_wp2
    go_ret2
    exact ⟨.slice none 0 0, rfl, Fracs.nil _, hx2⟩
  have hn0 : 0 < W.length := by
    unfold evErr at hv
    by_cases q : agErr W C = 0
    · exact (agErr_zero q).n0
    · rw [if_pos (by simpa using q)] at hv; exact absurd hv q
  rw [if_neg (by simpa using hv)] at hce
  rw [hv] at CK
  have CK := Lib.hid CK
  by_cases d0 : a < 0
  · rw [if_pos (.inl (.inl d0))] at hce
    unfold postsR
    rw [hce, if_pos (by decide)]
    clear h1 h2 hce hv
    go_enter Try.func35, Try.ntmps35
    go_wp2_with fail
    refine CK.out.mono ?_
    rintro x w2 ⟨rfl, hy⟩
    have hx2 := hx0.trans hy
    have l0 : w.heap.size < w2.heap.size := by have := hy.size; simp at this; omega
    have q0 := (hy.cell (by simp)).trans q0
    have q1 := (hy.cell (by simp)).trans q1
    clear hy CK
    go_wp2
    go_ret2
    exact ⟨.slice none 0 0, rfl, Fracs.nil _, hx2⟩
  by_cases d1 : (C.length : Int) ≤ a
  · rw [if_pos (.inl (.inr d1))] at hce
    unfold postsR
    rw [hce, if_pos (by decide)]
    clear h1 h2 hce hv
    go_enter Try.func35, Try.ntmps35
    go_wp2_with fail
    refine CK.out.mono ?_
    rintro x w2 ⟨rfl, hy⟩
    have hx2 := hx0.trans hy
    have l0 : w.heap.size < w2.heap.size := by have := hy.size; simp at this; omega
    have q0 := (hy.cell (by simp)).trans q0
    have q1 := (hy.cell (by simp)).trans q1
    clear hy CK
    go_wp2
    go_ret2
    exact ⟨.slice none 0 0, rfl, Fracs.nil _, hx2⟩
  rw [if_neg (by omega)] at hce
  have h0 := hce
  obtain ⟨hP, a', k', rfl, hk0, ha, hk, hel⟩ := chkErr_zero h0
  have e9 : postsR W C (a' : Nat) e = (posts W C a' e W.length, 0) := by unfold postsR; rw [if_neg (by simpa using h0)]; simp
  rw [e9]
  have HPo : Hid (∀ w1, Ext w w1 → ∀ k : Nat, k < W.length → Calls Try.prog 82 #[.agg #[.slice A W.length c, .slice A2 C.length c2], .int .i64 (a' : Nat), .int .i64 (k : Nat), .int .u64 e] w1 fun x w' => x = .returned (fracV (post W C a' k e)) ∧ Ext w1 w') := fun w1 hx k hk => refPosterior_any w1 _ _ W C ⟨h1.ext hx, h2.ext hx⟩ hP a' k e ha hk he
  have n64 := hP.n64
  have t1 : decide ((a' : Int) < 0) = false := by rw [decide_eq_false_iff_not]; omega
  have t2 : decide ((C.length : Int) ≤ (a' : Int)) = false := by rw [decide_eq_false_iff_not]; omega
  have t3 : decide (C.length ≤ a') = false := by rw [decide_eq_false_iff_not]; omega
  clear e9 hP h1 h2 h0 hel hk0 hk hce hv d0 d1
  go_enter Try.func35, Try.ntmps35
  go_wp2_with fail
  refine CK.out.mono ?_
  rintro x w2 ⟨rfl, hy⟩
  have hx2 := hx0.trans hy
  have l0 : w.heap.size < w2.heap.size := by have := hy.size; simp at this; omega
  have q0 := (hy.cell (by simp)).trans q0
  have q1 := (hy.cell (by simp)).trans q1
  clear hy CK
  go_wp2
  go_loopw [9, 10] (fun o i wr => ∃ k : Nat, k ≤ W.length ∧ i = .int .i64 k ∧ wr.ownsRow w2.heap.size 56 2 o k (fracCells (posts W C a' e k)) ∧ Ext w2 wr) (fun _ i _ => W.length - (intOf i).toNat)
  case atStart => exact ⟨0, Nat.zero_le _, rfl, World.ownsRow_nil _ _ _ _, Ext.refl _⟩
  case round =>
    obtain ⟨k, hk, rfl, hown, hxr⟩ := hrel
    have q0 := (hxr.cell l0).trans q0
    have q1 := (hxr.cell l0).trans q1
    by_cases hlt : k < W.length
    · have Hown := Lib.hid hown
      have hxw := hx2.trans hxr
      have C1 := HPo.out wr hxw k hlt
      obtain ⟨F, hF⟩ : ∃ F, F = post W C a' k e := ⟨_, rfl⟩
      rw [← hF] at C1
      have HF := Lib.hid hF
      obtain ⟨Fx, Fy⟩ := F
      have C2 : Hid (Calls Try.prog 82 #[.agg #[.slice A W.length c, .slice A2 C.length c2], .int .i64 a', .int .i64 (k : Nat), .int .u64 e] wr fun x w' => x = .returned (.agg #[.int .i64 (Fx : Nat), .int .i64 (Fy : Nat)]) ∧ Ext wr w') := C1
      clear hown C1 hF
      go_wp2_with fail
      refine C2.out.mono ?_
      rintro x w3 ⟨rfl, hy⟩
      have hown2 := own_ext24 Hown.out hy
      have hx3 := hxw.trans hy
      have hxr2 := hxr.trans hy
      clear C2
      go_wp2_with (at_builtin; refine wpList_append_own _ rfl (.tmp 33) (.tmp 39) _ rfl w2.heap.size 56 i0 (.agg #[.int .i64 0, .int .i64 0]) 2 16 Try.underlying59 hi0 hz0 hz1 hz2 rfl (by omega) u9 k (fracCells (posts W C a' e k)) rfl (hown2.alloc _) ⟨w3.heap.size, 0, none⟩ 1 1 [.int .i64 (Fx : Nat), .int .i64 (Fy : Nat)] rfl rfl (cell_two_new _ _ _ _) (by simp [Value.oneCell']) (by unfold maxLen; omega) (by omega) (by have := hxr2.size; simp; omega) ?_; intro v2 w3 hown3 hg3 _)
      go_roundw
      case rel =>
        refine ⟨k + 1, by omega, by go_num, ?_, hxr2.append hown2 (Nat.le_refl _) hg3⟩
        rw [posts_succ, fracCells_append, ← HF.out]; exact hown3
      case measure => simp [intOf]; omega
    · obtain rfl : k = W.length := by omega
      have hI : Hid (Fracs wr u9 (posts W C a' e W.length)) := Fracs.of_own hown (by omega)
      clear hown
      go_wp2
      go_ret2
      exact ⟨_, rfl, hI.out, hx2.trans hxr⟩

end Go.Proofs.Ytdlhfihddipjaab
