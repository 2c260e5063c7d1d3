/-
  The doors: the small example (cAwake12), the walk of TopCommonReached.
-/
import Derived.Test.YtdlhfihddipjaacDoorGm4
import Derived.Test.YtdlhfihddipjaacDoorAgW
import Derived.Test.YtdlhfihddipjaacDoorAg20
import Derived.Test.YtdlhfihddipjaacDoorAg24
import Derived.Test.YtdlhfihddipjaacDoorAgM2
namespace Go.Proofs.YtdlhfihddipjaacDoor
open Go.RowKit

def smW : List Int := [1, 2, 3]
def smC : List (List Int) := [[0, 0, 2], [0, 1, 1]]
theorem sm_ok : agErr smW smC = 0 := by decide +kernel
theorem sm_any : anyErr smW smC 0 1 = 0 := by decide +kernel
theorem sm_ex : (exR smW smC 1).length = 2 := by decide +kernel
theorem sm_comm : IsComm 3 smC (upTo 3 fun _ => 0) := by
  refine ⟨⟨by decide, by decide +kernel⟩, ?_, ?_⟩
  · intro a ha
    have : a = 0 ∨ a = 1 := by simp [smC] at ha; omega
    rcases this with rfl | rfl <;> (intro i hi; revert i; decide +kernel)
  · intro r hr hall
    have h0 := hall 0 (by decide)
    have h1 := hall 1 (by decide)
    have e1 : nth r 1 = nth r 0 := h0 1 (by decide)
    have e2 : nth r 2 = nth r 1 := h1 2 (by decide)
    intro i hi
    rw [upTo_len] at hi
    rw [upTo_nth hi]
    have : i = 0 ∨ i = 1 ∨ i = 2 := by omega
    show nth r i = nth r 0
    rcases this with rfl | rfl | rfl <;> omega
theorem sm_blk : blockOf (upTo 3 fun _ => 0) 0 = 7 := by decide +kernel
theorem Mdl.form5 {w : World} {x y z : Value} {n : Int} {V : List Nat} {R : List (List Nat)} (h : Mdl w x y z n V R) : ∃ A m c A' m' c', x = .int .i64 n ∧ y = .slice A m c ∧ z = .slice A' m' c' := by
  obtain ⟨rfl, ⟨A, c, e, _⟩, ⟨A', c', _, e', _⟩⟩ := h
  exact ⟨_, _, _, _, _, _, rfl, e, e'⟩
theorem Pris.form5 {w : World} {v : Value} {W : List Int} {css : List (List (List Int))} (h : Pris w v W css) : ∃ A c, v = .slice A css.length c ∧ css.length ≤ c ∧ c ≤ 9223372036854775807 := by
  obtain ⟨A, c, e, h1, h2, _⟩ := h
  exact ⟨A, c, e, h1, h2⟩

set_option maxRecDepth 100000 in
set_option maxHeartbeats 4000000 in
theorem cawake12_any (w : World) (hD : DeB w) : Calls Tryd.prog 11 #[] w fun e w' => e = .returned (.bool true) ∧ Ext w w' := by
  have HM : Hid (∀ w1 v1 v2, Prior w1 v1 v2 smW smC → Calls Tryd.prog 14 #[.agg #[v1, v2]] w1 fun x w' => ∃ o1 o2 o3, x = .returned (.tuple #[.agg #[o1, o2, o3], .int .i64 0]) ∧ Mdl w' o1 o2 o3 3 [] (smC.map relOf) ∧ Ext w1 w') := fun w1 v1 v2 h => by
    have := Model_any w1 v1 v2 smW smC h
    unfold mdN mdR at this
    rw [sm_ok, if_neg (by decide), if_neg (by decide)] at this
    exact this
  have HG : Hid (∀ w1 y z, Ext w w1 → Sets w1 y [] → SRows w1 z (smC.map relOf) → Calls Tryd.prog 15 #[.agg #[.int .i64 3, y, z], .int .u64 1] w1 fun e w' => e = .returned (.tuple #[.int .u64 7, .int .i64 0]) ∧ Ext w1 w') := fun w1 y z hx hy hz => by
    have := gen_ok w1 y z smW smC 0 _ (hD.ext hx) (agErr_zero sm_ok) sm_comm (by decide) hy hz
    rw [sm_blk] at this
    exact this
  have HX : Hid (∀ w1 v1 v2, Prior w1 v1 v2 smW smC → Calls Tryd.prog 17 #[.agg #[v1, v2], .int .u64 1] w1 fun x w' => ∃ A c, x = .returned (.tuple #[.slice A 2 c, .int .i64 0]) ∧ Ext w1 w') := fun w1 v1 v2 h => by
    have := Exchange_any w1 v1 v2 smW smC h 1 (by decide)
    rw [sm_any] at this
    refine this.mono fun x w' ⟨o, e1, e2, e3⟩ => ?_
    obtain ⟨A, c, rfl, _, _⟩ := e2.form5
    rw [sm_ex] at e1
    exact ⟨A, c, e1, e3⟩
  obtain ⟨W4, hW4⟩ : ∃ W4, W4 = (((w.alloc (.cells #[.int .i64 1, .int .i64 2, .int .i64 3] 3)).alloc (.cells #[.int .i64 0, .int .i64 0, .int .i64 2] 3)).alloc (.cells #[.int .i64 0, .int .i64 1, .int .i64 1] 3)).alloc (.cells #[.slice (some ⟨w.heap.size + 1, 0, none⟩) 3 3, .slice (some ⟨w.heap.size + 1 + 1, 0, none⟩) 3 3] 30) := ⟨_, rfl⟩
  have hs4 : W4.heap.size = w.heap.size + 1 + 1 + 1 + 1 := by rw [hW4]; simp
  have hx4 : Ext w W4 := by rw [hW4]; exact ((((Ext.refl w).alloc _).alloc _).alloc _).alloc _
  have hPr : Prior W4 (.slice (some ⟨w.heap.size, 0, none⟩) 3 3) (.slice (some ⟨w.heap.size + 1 + 1 + 1, 0, none⟩) 2 2) smW smC := by
    rw [hW4]
    refine ⟨?_, ?_⟩
    · repeat (first | exact Ints.lit _ smW _ (by simp) (by decide) (by decide) | refine Ints.ext ?_ ((Ext.refl _).alloc _))
    · refine Rows.lit2 ?_ ?_ _ (by simp)
      · repeat (first | exact Ints.lit _ [0, 0, 2] _ (by simp) (by decide) (by decide) | refine Ints.ext ?_ ((Ext.refl _).alloc _))
      · repeat (first | exact Ints.lit _ [0, 1, 1] _ (by simp) (by decide) (by decide) | refine Ints.ext ?_ ((Ext.refl _).alloc _))
  obtain ⟨W5, hW5⟩ : ∃ W5, W5 = W4.alloc (.cells #[.slice (some ⟨w.heap.size, 0, none⟩) 3 3, .slice (some ⟨w.heap.size + 1 + 1 + 1, 0, none⟩) 2 2] 37) := ⟨_, rfl⟩
  have h5 : Ext W4 W5 := by rw [hW5]; exact (Ext.refl W4).alloc _
  obtain ⟨q0, q1⟩ := cellsP W4 (.slice (some ⟨w.heap.size, 0, none⟩) 3 3) (.slice (some ⟨w.heap.size + 1 + 1 + 1, 0, none⟩) 2 2) 37
  rw [← hW5, hs4] at q0 q1
  have hs5 : w.heap.size + 1 + 1 + 1 + 1 < W5.heap.size := by rw [hW5]; simp [hs4]
  have HPr := Lib.hid (hPr.ext h5)
  have HW4 := Lib.hid hW4
  have HW5 := Lib.hid hW5
  have Q0 := Lib.hid q0
  have Q1 := Lib.hid q1
  have hx5 := hx4.trans h5
  have CM := Lib.hid (HM.out W5 _ _ (hPr.ext h5))
  rw [hW5, hW4] at CM
  clear hPr hW4 hW5 h5 q0 q1
  go_enter Tryd.func11, Tryd.ntmps11
  go_wp2_with fail
  refine CM.out.mono ?_
  rintro _ w2 ⟨o1, o2, o3, rfl, hm, hy2⟩
  rw [← HW4.out, ← HW5.out] at hy2
  obtain ⟨A1, n1, c1, A2, n2, c2, rfl, rfl, rfl⟩ := hm.form5
  have q0 := (hy2.cell hs5).trans Q0.out
  have q1 := (hy2.cell hs5).trans Q1.out
  have hM := cellsM3 w2 (.int .i64 3) (.slice A1 n1 c1) (.slice A2 n2 c2) 42
  have hx3 := ((Ext.refl w2).alloc (.cells #[.int .i64 3, .slice A1 n1 c1, .slice A2 n2 c2] 42))
  obtain ⟨m0, m1, m2⟩ := hM _ (Ext.refl _)
  have CG := Lib.hid (HG.out _ _ _ ((hx5.trans hy2).trans hx3) (hm.2.1.ext hx3) (hm.2.2.ext hx3))
  have hy23 := Lib.hid (hy2.trans hx3)
  clear hM hm
  go_wp2_with fail
  refine CG.out.mono ?_
  rintro _ w3 ⟨rfl, hy3⟩
  have hy53 := hy23.out.trans hy3
  have q0 := (hy53.cell hs5).trans Q0.out
  have q1 := (hy53.cell hs5).trans Q1.out
  have CX := Lib.hid (HX.out w3 _ _ (HPr.out.ext hy53))
  clear m0 m1 m2
  go_wp2_with fail
  refine CX.out.mono ?_
  rintro _ w6 ⟨A, c, rfl, hy6⟩
  go_wp2
  go_ret
  exact ⟨rfl, (hx5.trans hy53).trans hy6⟩

theorem cellsQG (w : World) (v1 v2 : Value) (t : TypeId) : ∀ w', Ext (w.alloc (.cells #[v1, v2] t)) w' → w'.cell? ⟨w.heap.size, 0, none⟩ = some v1 ∧ w'.cell? ⟨w.heap.size, 1, none⟩ = some v2 := fun w' k => by
  obtain ⟨p0, p1⟩ := cellsP w v1 v2 t
  exact ⟨(k.cell (by simp)).trans p0, (k.cell (by simp)).trans p1⟩

set_option maxRecDepth 100000 in
set_option maxHeartbeats 4000000 in
theorem commonReached_any (w : World) (hD : DeB w) (v1 v2 : Value) (W : List Int) (C : List (List Int)) (h : Prior w v1 v2 W C) (a : Int) :
    Calls Tryd.prog 4 #[.agg #[v1, v2], .int .i64 a] w fun x w' => x = .returned (.bool true) ∧ Ext w w' := by
  have HAw : Hid (∀ w1, Ext w w1 → Calls Tryd.prog 11 #[] w1 fun x w' => x = .returned (.bool true) ∧ Ext w1 w') := fun w1 hx => cawake12_any w1 (hD.ext hx)
  have HFe : Hid (∀ w1, Ext w w1 → Calls Tryd.prog 12 #[.agg #[v1, v2], .int .i64 16] w1 fun x w' => x = .returned (.bool (fewB W C 16)) ∧ Ext w1 w') := fun w1 hx => few_any w1 v1 v2 W C (h.ext hx) 16
  obtain ⟨y, hy⟩ : ∃ y, y = agErr W C := ⟨_, rfl⟩
  obtain ⟨z, hz⟩ : ∃ z, z = commErr W C a := ⟨_, rfl⟩
  have HCm : Hid (∀ w1, Ext w w1 → Calls Tryd.prog 13 #[.agg #[v1, v2], .int .i64 a] w1 fun x w' => ∃ c : Nat, x = .returned (.tuple #[.int .u64 c, .int .i64 z]) ∧ CommIs W C a c ∧ Ext w1 w') := fun w1 hx => by
    have := Common_any w1 v1 v2 W C (h.ext hx) a
    rwa [← hz] at this
  obtain ⟨N, hN⟩ : ∃ x, x = mdN W C := ⟨_, rfl⟩
  obtain ⟨R, hR⟩ : ∃ x, x = mdR W C := ⟨_, rfl⟩
  have HMd : Hid (∀ w1, Ext w w1 → Calls Tryd.prog 14 #[.agg #[v1, v2]] w1 fun x w' => ∃ o1 o2 o3, x = .returned (.tuple #[.agg #[o1, o2, o3], .int .i64 y]) ∧ Mdl w' o1 o2 o3 N [] R ∧ Ext w1 w') := fun w1 hx => by
    have := Model_any w1 v1 v2 W C (h.ext hx)
    rwa [← hy, ← hN, ← hR] at this
  have HGn : Hid (∀ w1 y z (k : Nat) j, Ext w w1 → PrOk W C → IsComm W.length C j → k < W.length → Sets w1 y [] → SRows w1 z (C.map relOf) → Calls Tryd.prog 15 #[.agg #[.int .i64 (W.length : Nat), y, z], .int .u64 (2 ^ k : Nat)] w1 fun e w' => e = .returned (.tuple #[.int .u64 (blockOf j k : Nat), .int .i64 0]) ∧ Ext w1 w') := fun w1 y z k j hx hP hj hk hy hz => gen_ok w1 y z W C k j (hD.ext hx) hP hj hk hy hz
  obtain ⟨q, hq⟩ : ∃ q, q = fewB W C 16 := ⟨_, rfl⟩
  have hfl : q = true → W.length ≤ 16 := fun e => by have := (few_len (hq.symm.trans e)).1; omega
  rw [← hq] at HFe
  obtain ⟨⟨A, c, rfl, hs, _⟩, ⟨A2, c2, vs, rfl, hs2, _⟩⟩ := h
  have HUp := Lib.hid (cellsQG w (.slice A W.length c) (.slice A2 C.length c2) 37)
  have hx1 : Ext w (w.alloc (.cells #[.slice A W.length c, .slice A2 C.length c2] 37)) := (Ext.refl w).alloc _
  have CA := Lib.hid (HAw.out _ hx1)
  have HY := Lib.hid hy
  have HZ := Lib.hid hz
  have HN := Lib.hid hN
  have HR := Lib.hid hR
  have Hfl := Lib.hid hfl
  clear hs hs2 hz hq hy hN hR hD hfl
  obtain ⟨p0, p1⟩ := HUp.out _ (Ext.refl _)
  go_enter Tryd.func4, Tryd.ntmps4
  go_wp2_with fail
  refine CA.out.mono ?_
  rintro x w0 ⟨rfl, hy0⟩
  obtain ⟨p0, p1⟩ := HUp.out _ hy0
  go_wp2_with fail
  refine (HFe.out _ (hx1.trans hy0)).mono ?_
  rintro x w2 ⟨rfl, hy2⟩
  have hz2 := hy0.trans hy2
  obtain ⟨p0, p1⟩ := HUp.out _ hz2
  have hx2 := hx1.trans hz2
  clear hy0 hy2
  cases q with
  | false =>
    go_wp2_with fail
    refine (HAw.out _ hx2).mono ?_
    rintro x w3 ⟨rfl, hy3⟩
    go_wp2
    go_ret
    exact ⟨rfl, hx2.trans hy3⟩
  | true =>
    have hn16 := Hfl.out rfl
    go_wp2_with fail
    refine (HCm.out _ hx2).mono ?_
    rintro x w3 ⟨cc, rfl, hcc, hy3⟩
    have hz3 := hz2.trans hy3
    obtain ⟨p0, p1⟩ := HUp.out _ hz3
    have hx3 := hx1.trans hz3
    have Hcc := Lib.hid hcc
    clear hcc
    go_wp2_with fail
    refine (HMd.out _ hx3).mono ?_
    rintro x w4 ⟨o1, o2, o3, rfl, hm, hy4⟩
    obtain ⟨B1, n1, d1, B2, n2, d2, rfl, rfl, rfl⟩ := hm.form5
    have hx4 := (hx3.trans hy4).alloc (.cells #[.int .i64 N, .slice B1 n1 d1, .slice B2 n2 d2] 42)
    obtain ⟨m0, m1, m2⟩ := cellsM3 w4 (.int .i64 N) (.slice B1 n1 d1) (.slice B2 n2 d2) 42 _ (Ext.refl _)
    have hm := hm.ext ((Ext.refl w4).alloc (.cells #[.int .i64 N, .slice B1 n1 d1, .slice B2 n2 d2] 42))
    by_cases ez : z = 0
    · have t2 : (z != 0) = false := by rw [ez]; rfl
      obtain ⟨hP, k, rfl, hkl, _⟩ := anyErr_zero ((any_comm W C a).trans (HZ.out.symm.trans ez))
      have ey : y = 0 := by rw [HY.out]; exact agErr_ok hP
      have t3 : (y != 0) = false := by rw [ey]; rfl
      have eN : N = (W.length : Nat) := by rw [HN.out]; unfold mdN; rw [if_neg (by rw [agErr_ok hP]; simp)]
      have eR : R = C.map relOf := by rw [HR.out]; unfold mdR; rw [if_neg (by rw [agErr_ok hP]; simp)]
      subst eN eR
      have t4 : decide ((k : Int) < 0) = false := by rw [decide_eq_false_iff_not]; omega
      have t5 : decide ((16 : Int) ≤ (k : Int)) = false := by rw [decide_eq_false_iff_not]; omega
      have t5n : decide (16 ≤ k) = false := by rw [decide_eq_false_iff_not]; omega
      obtain ⟨j, hj, hcj⟩ : ∃ j, IsComm W.length C j ∧ cc = blockOf j k := by
        have := Hcc.out
        unfold CommIs at this
        rw [if_pos (HZ.out.symm.trans ez)] at this
        simpa using this
      have CG := Lib.hid (HGn.out _ _ _ k j hx4 hP hj hkl hm.2.1 hm.2.2)
      rw [← hcj] at CG
      have hw := u64_wrap_pow k (by omega)
      have hkw : IntKind.u64.wrap (k : Int) = (k : Int) := by rw [IntKind.wrap_u64]; omega
      have hmin : min k 64 = k := by omega
      obtain ⟨K, hK⟩ : ∃ K, K = 2 ^ k := ⟨_, rfl⟩
      rw [← hK] at hw CG
      clear hK hcj hm hj ez ey hP
      go_wp2_with fail
      refine CG.out.mono ?_
      rintro x w5 ⟨rfl, hy5⟩
      go_wp2
      go_ret
      exact ⟨by first | rfl | simp, hx4.trans hy5⟩
    · have t2 : (z != 0) = true := by rw [bne_iff_ne]; exact ez
      clear ez hm
      go_wp2
      go_ret
      exact ⟨rfl, hx4⟩

theorem commonReached_row (w : World) (hD : DeB w) (v1 v2 : Value) (W : List Int) (C : List (List Int)) (h : Prior w v1 v2 W C) (a : Int) :
    Calls Tryd.prog 4 #[.agg #[v1, v2], .int .i64 a] w fun x w' => x = .returned (.bool true) ∧ Ext w w' := commonReached_any w hD v1 v2 W C h a

end Go.Proofs.YtdlhfihddipjaacDoor
