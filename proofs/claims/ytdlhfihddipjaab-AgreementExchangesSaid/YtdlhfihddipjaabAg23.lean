/-
  The agreement texts: Exchange of the reference.
-/
import Derived.Test.YtdlhfihddipjaabAg20
import Derived.Test.YtdlhfihddipjaabAg22
namespace Go.Proofs.Ytdlhfihddipjaab
open Go.RowKit

set_option maxRecDepth 100000 in
set_option maxHeartbeats 4000000 in
theorem refExchange_any (w : World) (v1 v2 : Value) (W : List Int) (C : List (List Int)) (h : Prior w v1 v2 W C) (e : Nat) (he : e < 18446744073709551616) :
    Calls Try.prog 28 #[.agg #[v1, v2], .int .u64 e] w fun x w' => ∃ o, x = .returned (.tuple #[o, .int .i64 (evErr W C e)]) ∧ Pris w' o W (exR W C e) ∧ Ext w w' := by
  obtain ⟨i2, hi2, hj0, hj1, hj2⟩ := info_parts Try.infoPri
  obtain ⟨h1, h2⟩ := h
  have HEv : Hid (∀ w1, Ext w w1 → Calls Try.prog 76 #[.agg #[v1, v2], .int .u64 e] w1 fun x w' => x = .returned (.int .i64 (evErr W C e)) ∧ Ext w1 w') := fun w1 hx => events_any w1 v1 v2 W C ⟨h1.ext hx, h2.ext hx⟩ e he
  have HCo : Hid (∀ w1, Ext w w1 → PrOk W C → Calls Try.prog 77 #[.agg #[v1, v2]] w1 fun x w' => ∃ o1 o2, x = .returned (.agg #[o1, o2]) ∧ OPr w' 0 o1 o2 W C ∧ Ext w1 w') := fun w1 hx hP => refCopy_any w1 v1 v2 W C ⟨h1.ext hx, h2.ext hx⟩ hP
  have hew : e < 2 ^ W.length ∨ evErr W C e ≠ 0 := by
    by_cases q : evErr W C e = 0
    · left
      obtain ⟨_, _, _, _, hh⟩ := anyErr_zero ((any0_ev W C e).trans q)
      exact hh
    · exact .inr q
  have HRd : Hid (∀ w1 u1 u2 D, Prior w1 u1 u2 W D → PrOk W D → evErr W C e = 0 → Calls Try.prog 49 #[.agg #[u1, u2], .int .u64 e] w1 fun x w' => ∃ o1 o2, x = .returned (.tuple #[.agg #[o1, o2], .int .i64 0]) ∧ OPr w' 0 o1 o2 W (rnd W D e) ∧ Ext w1 w') := fun w1 u1 u2 D hp hP hz => by
    have hz2 : evErr W D e = 0 := by
      unfold evErr
      rw [agErr_ok hP, if_neg (by simp)]
      rcases hew with q | q
      · rw [if_neg (by omega)]
      · exact absurd hz q
    refine (refRound_any w1 u1 u2 W D hp e he).mono fun x w' ⟨o1, o2, q1, _, q3, q4⟩ => ⟨o1, o2, by rw [q1, hz2], q3 hz2, q4⟩
  have HEq : Hid (∀ w1 u1 u2 D x1 x2 E, Prior w1 u1 u2 W D → Prior w1 x1 x2 W E → Calls Try.prog 29 #[.agg #[u1, u2], .agg #[x1, x2]] w1 fun e w' => e = .returned (.bool (decide (D = E))) ∧ Ext w1 w') := fun w1 u1 u2 D x1 x2 E ha hb => by
    have := same24_any w1 u1 u2 x1 x2 W W D E ha hb
    rwa [show decide (W = W ∧ D = E) = decide (D = E) from by simp] at this
  obtain ⟨A, c, rfl, hs, _⟩ := h1
  obtain ⟨A2, c2, vs, rfl, hs2, _⟩ := h2
  clear hs hs2 hew
  obtain ⟨q0, q1⟩ := cellsP w (.slice A W.length c) (.slice A2 C.length c2) 45
  have hx1 := (Ext.refl w).alloc (.cells #[.slice A W.length c, .slice A2 C.length c2] 45)
  have CA := Lib.hid (HEv.out _ hx1)
  obtain ⟨z, hz⟩ : ∃ z, z = evErr W C e := ⟨_, rfl⟩
  rw [← hz] at CA ⊢
  have HZ := Lib.hid hz
  clear hz
  go_enter Try.func28, Try.ntmps28
  go_wp2_with fail
  refine CA.out.mono ?_
  rintro x w2 ⟨rfl, hy⟩
  have hx2 := hx1.trans hy
  have p0 := (hy.cell (by simp)).trans q0
  have p1 := (hy.cell (by simp)).trans q1
  clear q0 q1 CA
  by_cases e0 : z = 0
  · have t : (z != 0) = false := by rw [e0]; rfl
    have hP := Lib.hid (ev_ok (HZ.out.symm.trans e0))
    have hE := Lib.hid (HZ.out.symm.trans e0)
    have CD := Lib.hid (HCo.out w2 hx2 hP.out)
    have E0 := Lib.hid e0
    clear e0
    go_wp2_with fail
    refine CD.out.mono ?_
    rintro x w3 ⟨o1, o2, rfl, hO, hy3⟩
    have hx3 := hx2.trans hy3
    obtain ⟨B1, m1, d1, e1⟩ := hO.wz.isSl
    obtain ⟨B2, m2, d2, e2⟩ := hO.rows.isSl
    subst e1 e2
    have hX0 : XRel (w3.alloc (.cells #[.slice B1 m1 d1, .slice B2 m2 d2] 45)) w.heap.size (.slice (some ⟨w3.heap.size, 0, none⟩) 1 1) W C e 1 [(.slice B1 m1 d1, .slice B2 m2 d2)] :=
      ⟨World.ownsRow_lit w3 #[.slice B1 m1 d1, .slice B2 m2 d2] 1 hx3.size (by unfold maxLen; omega) rfl, fun i hi => by
        have : i = 0 := by omega
        subst this
        exact hO.ext ((Ext.refl w3).alloc _)⟩
    have HX0 := Lib.hid hX0
    have hx4 := hx3.alloc (.cells #[.slice B1 m1 d1, .slice B2 m2 d2] 45)
    have hN : Hid (W.length * C.length ≤ 256) := Nat.mul_le_mul hP.out.n64 hP.out.c4
    clear hO CD hX0
    go_wp2
    go_loopw [7] (fun v wr => ∃ k : Nat, lenV v = k ∧ 0 < k ∧ k ≤ 257 ∧ (∃ ps, Hid (XRel wr w.heap.size v W C e k ps)) ∧ Hid (∀ j, j + 1 < k → exC W C e (j + 1) ≠ exC W C e j) ∧ Ext w wr) (fun v _ => 258 - lenV v)
    case atStart => exact ⟨1, rfl, by omega, by omega, ⟨_, HX0.out⟩, fun j hj => absurd hj (by omega), hx4⟩
    case round =>
      obtain ⟨k, hk, hk0, hk7, ⟨ps, hX⟩, hne, hxr⟩ := hrel
      clear hk
      obtain ⟨m, rfl⟩ : ∃ m, k = m + 1 := ⟨k - 1, by omega⟩
      obtain ⟨g, cap, rfl, hgl, hcapl, hm7⟩ : ∃ g cap, u7 = .slice (some ⟨g, 0, none⟩) (m + 1) cap ∧ g < wr.heap.size ∧ m + 1 ≤ cap ∧ cap ≤ 9223372036854775807 := by
        rcases hX.out.own.2 with ⟨_, q⟩ | ⟨g, cap, cur, e, _, hh, h1, h2, _⟩
        · omega
        · exact ⟨g, cap, e, (Array.getElem?_eq_some_iff.1 hh).1, h1, by unfold maxLen at h2; exact h2⟩
      obtain ⟨k1, k2⟩ := hX.out.cells (show m < m + 1 by omega)
      have hOm := hX.out.els m (by omega)
      obtain ⟨a1, hp1⟩ : ∃ a, a = (ps.getD m (undef, undef)).1 := ⟨_, rfl⟩
      obtain ⟨a2, hp2⟩ : ∃ a, a = (ps.getD m (undef, undef)).2 := ⟨_, rfl⟩
      rw [← hp1] at k1 hOm
      rw [← hp2] at k2 hOm
      obtain ⟨B3, m3, d3, e3⟩ := hOm.wz.isSl
      obtain ⟨B4, m4, d4, e4⟩ := hOm.rows.isSl
      subst e3 e4
      have hOk := exC_ok hP.out e m
      have hPm := hOm.prior hOk.c4
      have CR := Lib.hid (HRd.out _ _ _ _ hPm hOk hE.out)
      have HPm := Lib.hid hPm
      have Hok := Lib.hid hOk
      clear hp1 hp2 hOm hOk hPm
      go_wp2_with fail
      refine CR.out.mono ?_
      rintro x w4 ⟨o1, o2, rfl, hO, hy4⟩
      have hx4 := hxr.trans hy4
      obtain ⟨B5, m5, d5, e5⟩ := hO.wz.isSl
      obtain ⟨B6, m6, d6, e6⟩ := hO.rows.isSl
      subst e5 e6
      have hxa := (Ext.refl w4).alloc (.cells #[.slice B5 m5 d5, .slice B6 m6 d6] 45)
      obtain ⟨x0, x1⟩ := cellsP w4 (.slice B5 m5 d5) (.slice B6 m6 d6) 45
      have l0 := ((hy4.trans hxa).cell (p := ⟨g, m * 2, none⟩) hgl).trans k1
      have l1 := ((hy4.trans hxa).cell (p := ⟨g, m * 2 + 1, none⟩) hgl).trans k2
      have hrl : (rnd W (exC W C e m) e).length ≤ 4 := by rw [rnd_len]; exact Hok.out.c4
      have CE := HEq.out (w4.alloc (.cells #[.slice B5 m5 d5, .slice B6 m6 d6] 45)).drew _ _ _ _ _ _ ((hO.prior hrl).ext hxa.drew) (HPm.out.ext (hy4.trans hxa.drew))
      obtain ⟨y, hyy⟩ : ∃ y, y = decide (rnd W (exC W C e m) e = exC W C e m) := ⟨_, rfl⟩
      rw [← hyy] at CE
      have Hy := Lib.hid hyy
      have CE := Lib.hid CE
      have HO := Lib.hid hO
      have hsub : IntKind.i64.wrap ((m : Int) + 1 - 1) = (m : Int) := by rw [IntKind.wrap_i64]; omega
      have hsub2 : IntKind.i64.wrap (m : Int) = (m : Int) := by rw [IntKind.wrap_i64]; omega
      have hnn : (0 : Int) ≤ (m : Int) := by omega
      have hmm : (m : Int) < (m : Int) + 1 := by omega
      clear hO hyy CR hrl
      go_wp2
      go_region_with (go_at_call 29; refine CE.out.mono ?_; rintro x w5 ⟨rfl, hy5⟩)
      all_goals
        clear hsub hsub2 hnn hmm
        have hyd := hxa.drew.trans hy5
        have hx5 := hx4.trans hyd
        have hyr5 := hy4.trans hyd
        have d0 := (hy5.cell (show w4.heap.size < _ by simp)).trans x0
        have d1' := (hy5.cell (show w4.heap.size < _ by simp)).trans x1
        cases y with
        | true =>
          have hfix : Hid (exN W C e = m) := by
            show exN W C e = m
            exact exN_unique hP.out (of_decide_eq_true Hy.out.symm) fun j hj => hne.out j (by omega)
          have hR := Lib.hid ((hX.out.ext hyr5).pris (by omega) hP.out.c4)
          go_wp2
          go_ret2
          exact ⟨.slice (some ⟨g, 0, none⟩) (m + 1) cap, by rw [E0.out]; rfl, by unfold exR; rw [any0_ev, if_neg (by rw [← HZ.out, E0.out]; simp), hfix.out]; exact hR.out, hx5⟩
        | false =>
          have hfix : Hid (exC W C e (m + 1) ≠ exC W C e m) := fun q => (of_decide_eq_false Hy.out.symm) q
          have hX5 := hX.out.ext hyr5
          have hown5 := hX5.own
          have HX5 := Lib.hid hX5
          clear hX5
          have hb6 : m + 1 ≤ 256 := by
            have := exC_bound hP.out e (k := m + 1) fun j hj => by
              by_cases q : j = m
              · rw [q]; exact hfix.out
              · exact hne.out j (by omega)
            have := hN.out
            omega
          go_wp2_with (at_builtin; refine wpList_append_own _ rfl (.tmp 39) (.tmp 41) _ rfl w.heap.size 45 i2 (.agg #[.slice none 0 0, .slice none 0 0]) 2 48 Try.underlying47 hi2 hj0 hj1 hj2 rfl (by omega) (.slice (some ⟨g, 0, none⟩) (m + 1) cap) (m + 1) (priCells ps) rfl (hown5.alloc _) ⟨w5.heap.size, 0, none⟩ 1 1 [.slice B5 m5 d5, .slice B6 m6 d6] rfl rfl (cell_two_new _ _ _ _) (by simp [Value.oneCell']) (by unfold maxLen; omega) (by omega) (by have := hx5.size; simp; omega) ?_; intro v6 w6 hown6 hg6 _)
          have hl6 : lenV v6 = m + 1 + 1 := by
            obtain ⟨A6, c6, e6, _, _⟩ := own_slice2 hown6 (by omega)
            rw [e6]; rfl
          have hX6 := HX5.out.push (by omega) (HO.out.ext hyd) hg6 hown6
          refine ⟨⟨m + 1 + 1, hl6, by omega, by omega, ⟨_, hX6⟩, fun j hj => ?_, Ext.append2 hx5 hown5 (Nat.le_refl _) hg6⟩, ?_⟩
          · by_cases q : j = m
            · rw [q]; exact hfix.out
            · exact hne.out j (by omega)
          · rw [hl6]; show 258 - (m + 1 + 1) < 258 - (m + 1); omega
  · have t : (z != 0) = true := by rw [bne_iff_ne]; exact e0
    have E0 := Lib.hid e0
    clear e0
    go_wp2
    go_ret2
    exact ⟨_, rfl, by unfold exR; rw [any0_ev, if_pos (by rw [← HZ.out]; exact E0.out)]; exact Pris.nil _ _, hx2⟩

end Go.Proofs.Ytdlhfihddipjaab
