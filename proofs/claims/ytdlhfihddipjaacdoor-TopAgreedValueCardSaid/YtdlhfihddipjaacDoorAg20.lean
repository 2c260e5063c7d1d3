/-
  The agreement texts: Exchange of the program.
-/
import Derived.Test.YtdlhfihddipjaacDoorAg17
import Derived.Test.YtdlhfihddipjaacDoorAg19
namespace Go.Proofs.YtdlhfihddipjaacDoor
open Go.RowKit

theorem Tryd.infoPri : (Tryd.prog.info? 37).map (fun i => (i.zero, i.size, i.bytes)) = some (some (.agg #[.slice none 0 0, .slice none 0 0]), 2, 48) := by kernel_rfl

def exR (W : List Int) (C : List (List Int)) (e : Nat) : List (List (List Int)) := if anyErr W C 0 e ≠ 0 then [] else exL W C e (exN W C e + 1)
theorem nthC_exL {W : List Int} {C : List (List Int)} {e m k : Nat} (h : k < m) : nthC (exL W C e m) k = exC W C e k := by
  rw [nthC_eq (by rw [exL_len]; exact h)]; simp [exL]
def lenV : Value → Nat
  | .slice _ n _ => n
  | _ => 0
/-- The row of priors of an exchange. -/
structure XRel (w : World) (B : Nat) (v : Value) (W : List Int) (C : List (List Int)) (e k : Nat) (ps : List (Value × Value)) : Prop where
  own : w.ownsRow B 37 2 v k (priCells ps)
  els : ∀ i, i < k → OPr w 0 (ps.getD i (undef, undef)).1 (ps.getD i (undef, undef)).2 W (exC W C e i)
theorem XRel.len {w : World} {B : Nat} {v : Value} {W : List Int} {C : List (List Int)} {e k : Nat} {ps : List (Value × Value)} (h : XRel w B v W C e k ps) : ps.length = k := by
  have h1 := h.own.1
  rw [priCells_len] at h1; omega
theorem XRel.ext {w w1 : World} {B : Nat} {v : Value} {W : List Int} {C : List (List Int)} {e k : Nat} {ps : List (Value × Value)} (h : XRel w B v W C e k ps) (x : Ext w w1) : XRel w1 B v W C e k ps :=
  ⟨own_ext24 h.own x, fun i hi => (h.els i hi).ext x⟩
theorem getD_snocP (ps : List (Value × Value)) (p : Value × Value) (n : Nat) (h : ps.length = n) : (ps ++ [p]).getD n (undef, undef) = p := by subst h; simp
theorem getD_preP (ps : List (Value × Value)) (p : Value × Value) (j : Nat) (h : j < ps.length) : (ps ++ [p]).getD j (undef, undef) = ps.getD j (undef, undef) := by simp [List.getElem?_append_left h]
theorem priCells_head (ps : List (Value × Value)) (h : 0 < ps.length) : (priCells ps).getD 0 undef = (ps.getD 0 (undef, undef)).1 := by
  have := (priCells_at ps 0 h).1
  rw [List.getD_eq_getElem?_getD, this]; rfl
theorem XRel.push {w w5 : World} {B : Nat} {v v5 o1 o2 : Value} {W : List Int} {C : List (List Int)} {e k : Nat} {ps : List (Value × Value)} {ob : Obj} (h : XRel w B v W C e k ps) (hk : 0 < k) (hO : OPr w 0 o1 o2 W (exC W C e k))
    (hg : (w.alloc ob).grownBy w5 v.ownBlock) (hown : w5.ownsRow B 37 2 v5 (k + 1) (priCells ps ++ [o1, o2])) : XRel w5 B v5 W C e (k + 1) (ps ++ [(o1, o2)]) := by
  have hl := h.len
  have hx : Ext w (w.alloc ob) := (Ext.refl w).alloc ob
  have h0 : IsSl ((priCells ps).getD 0 undef) := by rw [priCells_head ps (by omega)]; exact (h.els 0 hk).wz.isSl
  refine ⟨by rw [priCells_append]; exact hown, fun i hi => ?_⟩
  by_cases q : i = k
  · subst q
    rw [getD_snocP _ _ _ hl]
    exact (hO.ext hx).grown (h.own.alloc ob) (by decide) (by omega) h0 hg
  · rw [getD_preP _ _ _ (by omega)]
    exact ((h.els i (by omega)).ext hx).grown (h.own.alloc ob) (by decide) (by omega) h0 hg
theorem XRel.pris {w : World} {B : Nat} {v : Value} {W : List Int} {C : List (List Int)} {e k : Nat} {ps : List (Value × Value)} (h : XRel w B v W C e k ps) (hk : k ≤ 1000) (h4 : C.length ≤ 4) : Pris w v W (exL W C e k) := by
  refine Pris.of_own (ps := ps) (by rw [exL_len]; exact h.own) (by rw [exL_len]; omega) fun i hi => ?_
  rw [exL_len] at hi
  rw [nthC_exL hi]
  exact (h.els i hi).prior (by rw [exC_len]; exact h4)
theorem XRel.cells {w : World} {B g cap : Nat} {W : List Int} {C : List (List Int)} {e k : Nat} {ps : List (Value × Value)} (h : XRel w B (.slice (some ⟨g, 0, none⟩) k cap) W C e k ps) {i : Nat} (hi : i < k) :
    w.cell? ⟨g, i * 2, none⟩ = some (ps.getD i (undef, undef)).1 ∧ w.cell? ⟨g, i * 2 + 1, none⟩ = some (ps.getD i (undef, undef)).2 := by
  obtain ⟨c1, c2⟩ := priCells_at ps i (by rw [h.len]; exact hi)
  have k1 := h.own.cells rfl _ _ c1
  have k2 := h.own.cells rfl _ _ c2
  rw [add_zeroOff, Nat.mul_comm] at k1 k2
  exact ⟨k1, k2⟩

theorem own_slice2 {w : World} {base : Nat} {e : TypeId} {s : Nat} {v : Value} {n : Nat} {xs : List Value} (h : w.ownsRow base e s v n xs) (h0 : 0 < n) : ∃ A c, v = .slice A n c ∧ n ≤ c ∧ 0 < n := by
  rcases h.2 with ⟨_, q⟩ | ⟨g, cap, cur, e, _, _, h1, _⟩
  · omega
  · exact ⟨_, cap, e, h1, h0⟩
theorem Ext.append2 {w wr w1 : World} {B : Nat} {e : TypeId} {size n : Nat} {v : Value} {xs : List Value} {o : Obj} (hx : Ext w wr) (hown : wr.ownsRow B e size v n xs) (hB : w.heap.size ≤ B)
    (hg : (wr.alloc o).grownBy w1 v.ownBlock) : Ext w w1 := hx.append hown hB hg

set_option maxRecDepth 100000 in
set_option maxHeartbeats 4000000 in
theorem Exchange_any (w : World) (v1 v2 : Value) (W : List Int) (C : List (List Int)) (h : Prior w v1 v2 W C) (e : Nat) (he : e < 18446744073709551616) :
    Calls Tryd.prog 17 #[.agg #[v1, v2], .int .u64 e] w fun x w' => ∃ o, x = .returned (.tuple #[o, .int .i64 (anyErr W C 0 e)]) ∧ Pris w' o W (exR W C e) ∧ Ext w w' := by
  obtain ⟨i2, hi2, hj0, hj1, hj2⟩ := info_parts Tryd.infoPri
  obtain ⟨h1, h2⟩ := h
  have HAn : Hid (∀ w1, Ext w w1 → Calls Tryd.prog 29 #[.agg #[v1, v2], .int .i64 0, .int .u64 e] w1 fun x w' => x = .returned (.int .i64 (anyErr W C 0 e)) ∧ Ext w1 w') := fun w1 hx => anybody_any w1 v1 v2 W C ⟨h1.ext hx, h2.ext hx⟩ 0 e he
  have HDi : Hid (∀ w1, Ext w w1 → PrOk W C → Calls Tryd.prog 38 #[.agg #[v1, v2], .slice none 0 0] w1 fun x w' => ∃ o1 o2, x = .returned (.agg #[o1, o2]) ∧ OPr w' 0 o1 o2 W C ∧ Ext w1 w') := fun w1 hx hP => by
    have := divide24_any w1 v1 v2 _ W C [] ⟨h1.ext hx, h2.ext hx⟩ hP (FRows.nil w1) (fun j hj => absurd hj (by simp))
    rwa [show C.map (divC W.length []) = C from (List.map_congr_left fun c _ => rfl).trans (List.map_id _)] at this
  have HRd : Hid (∀ w1 u1 u2 D, Prior w1 u1 u2 W D → PrOk W D → Calls Tryd.prog 39 #[.agg #[u1, u2], .int .u64 e] w1 fun x w' => ∃ o1 o2, x = .returned (.agg #[o1, o2]) ∧ OPr w' 0 o1 o2 W (rnd W D e) ∧ Ext w1 w') := fun w1 u1 u2 D hp hP => round24_any w1 u1 u2 W D hp hP e he
  have HEq : Hid (∀ w1 v v2 a b, Rows w1 v a → Rows w1 v2 b → Calls Tryd.prog 40 #[v, v2, .func (.func 41) #[] #[]] w1 fun e w' => e = .returned (.bool (decide (a = b))) ∧ Ext w1 w') := eqFunc_any
  obtain ⟨A, c, rfl, hs, _⟩ := h1
  obtain ⟨A2, c2, vs, rfl, hs2, _⟩ := h2
  clear hs hs2
  obtain ⟨q0, q1⟩ := cellsP w (.slice A W.length c) (.slice A2 C.length c2) 37
  have hx1 := (Ext.refl w).alloc (.cells #[.slice A W.length c, .slice A2 C.length c2] 37)
  have CA := Lib.hid (HAn.out _ hx1)
  obtain ⟨z, hz⟩ : ∃ z, z = anyErr W C 0 e := ⟨_, rfl⟩
  rw [← hz] at CA ⊢
  have HZ := Lib.hid hz
  clear hz
  go_enter Tryd.func17, Tryd.ntmps17
  go_wp2_with fail
  refine CA.out.mono ?_
  rintro x w2 ⟨rfl, hy⟩
  have hx2 := hx1.trans hy
  have p0 := (hy.cell (by simp)).trans q0
  have p1 := (hy.cell (by simp)).trans q1
  clear q0 q1 CA
  by_cases e0 : z = 0
  · have t : (z != 0) = false := by rw [e0]; rfl
    have hP := Lib.hid (anyErr_zero (HZ.out.symm.trans e0)).1
    have CD := Lib.hid (HDi.out w2 hx2 hP.out)
    have E0 := Lib.hid e0
    clear e0
    go_wp2_with fail
    refine CD.out.mono ?_
    rintro x w3 ⟨o1, o2, rfl, hO, hy3⟩
    have hx3 := hx2.trans hy3
    obtain ⟨B1, m1, d1, e1⟩ := hO.wz.isSl
    obtain ⟨B2, m2, d2, e2⟩ := hO.rows.isSl
    subst e1 e2
    have hX0 : XRel (w3.alloc (.cells #[.slice B1 m1 d1, .slice B2 m2 d2] 37)) w.heap.size (.slice (some ⟨w3.heap.size, 0, none⟩) 1 1) W C e 1 [(.slice B1 m1 d1, .slice B2 m2 d2)] :=
      ⟨World.ownsRow_lit w3 #[.slice B1 m1 d1, .slice B2 m2 d2] 1 hx3.size (by unfold maxLen; omega) rfl, fun i hi => by
        have : i = 0 := by omega
        subst this
        exact hO.ext ((Ext.refl w3).alloc _)⟩
    have HX0 := Lib.hid hX0
    have hx4 := hx3.alloc (.cells #[.slice B1 m1 d1, .slice B2 m2 d2] 37)
    have hN : Hid (W.length * C.length ≤ 256) := Nat.mul_le_mul hP.out.n64 hP.out.c4
    clear hO CD hX0
    go_wp2
    go_loopw [7] (fun v wr => ∃ k : Nat, lenV v = k ∧ 0 < k ∧ k ≤ 257 ∧ (∃ ps, Hid (XRel wr w.heap.size v W C e k ps)) ∧ Hid (∀ j, j + 1 < k → exC W C e (j + 1) ≠ exC W C e j) ∧ Ext w wr) (fun v _ => 258 - lenV v)
    case atStart => exact ⟨1, rfl, by omega, by omega, ⟨_, HX0.out⟩, fun j hj => absurd hj (by omega), hx4⟩
    case round =>
      obtain ⟨k, hk, hk0, hk7, ⟨ps, hX⟩, hne, hxr⟩ := hrel
      clear hk
      obtain ⟨m, rfl⟩ : ∃ m, k = m + 1 := ⟨k - 1, by omega⟩
      obtain ⟨g, cap, rfl, hgl, hcapl, hm7⟩ : ∃ g cap, u7 = .slice (some ⟨g, 0, none⟩) (m + 1) cap ∧ g < wr.heap.size ∧ m + 1 ≤ cap ∧ cap ≤ 9223372036854775807 := by
        rcases hX.out.own.2 with ⟨_, q⟩ | ⟨g, cap, cur, e, _, hh, h1, h2, _⟩
        · omega
        · exact ⟨g, cap, e, (Array.getElem?_eq_some_iff.1 hh).1, h1, by unfold maxLen at h2; exact h2⟩
      obtain ⟨k1, k2⟩ := hX.out.cells (show m < m + 1 by omega)
      have hOm := hX.out.els m (by omega)
      obtain ⟨a1, hp1⟩ : ∃ a, a = (ps.getD m (undef, undef)).1 := ⟨_, rfl⟩
      obtain ⟨a2, hp2⟩ : ∃ a, a = (ps.getD m (undef, undef)).2 := ⟨_, rfl⟩
      rw [← hp1] at k1 hOm
      rw [← hp2] at k2 hOm
      obtain ⟨B3, m3, d3, e3⟩ := hOm.wz.isSl
      obtain ⟨B4, m4, d4, e4⟩ := hOm.rows.isSl
      subst e3 e4
      have hOk := exC_ok hP.out e m
      have hPm := (hOm.prior hOk.c4).ext ((Ext.refl wr).alloc (.cells #[.slice B3 m3 d3, .slice B4 m4 d4] 37))
      obtain ⟨b0, b1⟩ := cellsP wr (.slice B3 m3 d3) (.slice B4 m4 d4) 37
      have CR := Lib.hid (HRd.out _ _ _ _ hPm hOk)
      have HPm := Lib.hid hPm
      have Hok := Lib.hid hOk
      clear hp1 hp2 hOm hOk hPm
      go_wp2_with fail
      refine CR.out.mono ?_
      rintro x w4 ⟨o1, o2, rfl, hO, hy4⟩
      have hx4 := (hxr.alloc (.cells #[.slice B3 m3 d3, .slice B4 m4 d4] 37)).trans hy4
      have hyr := ((Ext.refl wr).alloc (.cells #[.slice B3 m3 d3, .slice B4 m4 d4] 37)).trans hy4
      obtain ⟨B5, m5, d5, e5⟩ := hO.wz.isSl
      obtain ⟨B6, m6, d6, e6⟩ := hO.rows.isSl
      subst e5 e6
      have b1 := (hy4.cell (by simp)).trans b1
      have b1' := ((Ext.refl w4).alloc (.cells #[.slice B5 m5 d5, .slice B6 m6 d6] 37)).cell (show wr.heap.size < w4.heap.size by have := hy4.size; simp at this; omega) |>.trans b1
      obtain ⟨d0, d1⟩ := cellsP w4 (.slice B5 m5 d5) (.slice B6 m6 d6) 37
      have hxa := (Ext.refl w4).alloc (.cells #[.slice B5 m5 d5, .slice B6 m6 d6] 37)
      have hrl : (rnd W (exC W C e m) e).length ≤ 4 := by rw [rnd_len]; exact Hok.out.c4
      have CE := HEq.out _ _ _ _ _ ((HPm.out.2.ext hy4).ext hxa) ((hO.prior hrl).2.ext hxa)
      obtain ⟨y, hyy⟩ : ∃ y, y = decide (exC W C e m = rnd W (exC W C e m) e) := ⟨_, rfl⟩
      rw [← hyy] at CE
      have Hy := Lib.hid hyy
      have CE := Lib.hid CE
      have HO := Lib.hid hO
      clear hO hyy CR hrl
      go_wp2_with fail
      refine CE.out.mono ?_
      rintro x w5 ⟨rfl, hy5⟩
      have hx5 := (hx4.trans hxa).trans hy5
      have hyr5 := (hyr.trans hxa).trans hy5
      have hy45 := hxa.trans hy5
      have d0 := (hy5.cell (by simp)).trans d0
      have d1 := (hy5.cell (by simp)).trans d1
      clear CE
      cases y with
      | true =>
        have hfix : Hid (exN W C e = m) := by
          show exN W C e = m
          exact exN_unique hP.out (of_decide_eq_true Hy.out.symm).symm fun j hj => hne.out j (by omega)
        have hR := Lib.hid ((hX.out.ext hyr5).pris (by omega) hP.out.c4)
        go_wp2
        go_ret2
        exact ⟨.slice (some ⟨g, 0, none⟩) (m + 1) cap, by rw [E0.out]; rfl, by unfold exR; rw [if_neg (by rw [← HZ.out, E0.out]; simp), hfix.out]; exact hR.out, hx5⟩
      | false =>
        have hfix : Hid (exC W C e (m + 1) ≠ exC W C e m) := fun q => (of_decide_eq_false Hy.out.symm) q.symm
        have hX5 := hX.out.ext hyr5
        have hown5 := hX5.own
        have HX5 := Lib.hid hX5
        clear hX5
        have hb6 : m + 1 ≤ 256 := by
          have := exC_bound hP.out e (k := m + 1) fun j hj => by
            by_cases q : j = m
            · rw [q]; exact hfix.out
            · exact hne.out j (by omega)
          have := hN.out
          omega
        go_wp2_with (at_builtin; refine wpList_append_own _ rfl (.tmp 34) (.tmp 36) _ rfl w.heap.size 37 i2 (.agg #[.slice none 0 0, .slice none 0 0]) 2 48 Tryd.underlying47 hi2 hj0 hj1 hj2 rfl (by omega) (.slice (some ⟨g, 0, none⟩) (m + 1) cap) (m + 1) (priCells ps) rfl (hown5.alloc _) ⟨w5.heap.size, 0, none⟩ 1 1 [.slice B5 m5 d5, .slice B6 m6 d6] rfl rfl (cell_two_new _ _ _ _) (by simp [Value.oneCell']) (by unfold maxLen; omega) (by omega) (by have := hx5.size; simp; omega) ?_; intro v6 w6 hown6 hg6 _)
        have hl6 : lenV v6 = m + 1 + 1 := by
          obtain ⟨A6, c6, e6, _, _⟩ := own_slice2 hown6 (by omega)
          rw [e6]; rfl
        have hX6 := HX5.out.push (by omega) ((HO.out.ext hxa).ext hy5) hg6 hown6
        refine ⟨⟨m + 1 + 1, hl6, by omega, by omega, ⟨_, hX6⟩, fun j hj => ?_, Ext.append2 hx5 hown5 (Nat.le_refl _) hg6⟩, ?_⟩
        · by_cases q : j = m
          · rw [q]; exact hfix.out
          · exact hne.out j (by omega)
        · rw [hl6]; show 258 - (m + 1 + 1) < 258 - (m + 1); omega
  · have t : (z != 0) = true := by rw [bne_iff_ne]; exact e0
    have E0 := Lib.hid e0
    clear e0
    go_wp2
    go_ret2
    exact ⟨_, rfl, by unfold exR; rw [if_pos (by rw [← HZ.out]; exact E0.out)]; exact Pris.nil _ _, hx2⟩

end Go.Proofs.YtdlhfihddipjaacDoor
