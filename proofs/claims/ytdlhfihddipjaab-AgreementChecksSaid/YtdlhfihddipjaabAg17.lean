/-
  The agreement texts: Round and Announce of the program.
-/
import Derived.Test.YtdlhfihddipjaabAg16
namespace Go.Proofs.Ytdlhfihddipjaab
open Go.RowKit

/-- What a function that answers by a prior and an error gives. -/
def priW (z : Int) (W : List Int) : List Int := if z ≠ 0 then [] else W
def priC (z : Int) (C : List (List Int)) : List (List Int) := if z ≠ 0 then [] else C
theorem Prior.none (w : World) (z : Int) (W : List Int) (C : List (List Int)) (hz : z ≠ 0) : Prior w (.slice none 0 0) (.slice none 0 0) (priW z W) (priC z C) := by
  unfold priW priC
  rw [if_pos hz, if_pos hz]
  exact ⟨Ints.nil _ _, Rows.nil _⟩
theorem OPr.priZ {w : World} {b : Nat} {v1 v2 : Value} {W : List Int} {C : List (List Int)} (h : OPr w b v1 v2 W C) (h4 : C.length ≤ 4) {z : Int} (hz : z = 0) : Prior w v1 v2 (priW z W) (priC z C) := by
  unfold priW priC
  rw [if_neg (by simpa using hz), if_neg (by simpa using hz)]
  exact h.prior h4

set_option maxRecDepth 100000 in
set_option maxHeartbeats 4000000 in
theorem Round_any (w : World) (v1 v2 : Value) (W : List Int) (C : List (List Int)) (h : Prior w v1 v2 W C) (e : Nat) (he : e < 18446744073709551616) :
    Calls Try.prog 48 #[.agg #[v1, v2], .int .u64 e] w fun x w' => ∃ o1 o2, x = .returned (.tuple #[.agg #[o1, o2], .int .i64 (anyErr W C 0 e)]) ∧ Prior w' o1 o2 (priW (anyErr W C 0 e) W) (priC (anyErr W C 0 e) (rnd W C e)) ∧ Ext w w' := by
  have hrl : PrOk W C → (rnd W C e).length ≤ 4 := fun hP => (rnd_ok hP e).c4
  obtain ⟨h1, h2⟩ := h
  have HAn : Hid (∀ w1, Ext w w1 → Calls Try.prog 71 #[.agg #[v1, v2], .int .i64 0, .int .u64 e] w1 fun x w' => x = .returned (.int .i64 (anyErr W C 0 e)) ∧ Ext w1 w') := fun w1 hx => anybody_any w1 v1 v2 W C ⟨h1.ext hx, h2.ext hx⟩ 0 e he
  have HRd : Hid (∀ w1, Ext w w1 → PrOk W C → Calls Try.prog 73 #[.agg #[v1, v2], .int .u64 e] w1 fun x w' => ∃ o1 o2, x = .returned (.agg #[o1, o2]) ∧ OPr w' 0 o1 o2 W (rnd W C e) ∧ Ext w1 w') := fun w1 hx hP => round24_any w1 v1 v2 W C ⟨h1.ext hx, h2.ext hx⟩ hP e he
  obtain ⟨A, c, rfl, hs, _⟩ := h1
  obtain ⟨A2, c2, vs, rfl, hs2, _⟩ := h2
  clear hs hs2
  obtain ⟨q0, q1⟩ := cellsP w (.slice A W.length c) (.slice A2 C.length c2) 45
  obtain ⟨W1, hW1⟩ : ∃ W1, W1 = (w.alloc (.cells #[.slice A W.length c, .slice A2 C.length c2] 45)).alloc (.cells #[.slice none 0 0, .slice none 0 0] 45) := ⟨_, rfl⟩
  have hx1 : Ext w W1 := by rw [hW1]; exact ((Ext.refl w).alloc _).alloc _
  have hsz : W1.heap.size = w.heap.size + 2 := by rw [hW1]; simp
  have rb := SBlk.made (w.alloc (.cells #[.slice A W.length c, .slice A2 C.length c2] 45)) (.slice none 0 0) (.slice none 0 0) 45
  have qb0 : W1.cell? ⟨w.heap.size, 0, none⟩ = some (.slice A W.length c) := by rw [hW1]; exact (((Ext.refl _).alloc _).cell (by simp)).trans q0
  have qb1 : W1.cell? ⟨w.heap.size, 1, none⟩ = some (.slice A2 C.length c2) := by rw [hW1]; exact (((Ext.refl _).alloc _).cell (by simp)).trans q1
  have rb : SBlk W1 (w.heap.size + 1) 45 (.slice none 0 0) (.slice none 0 0) := by rw [hW1]; simpa using rb
  have q0' := qb0
  have q1' := qb1
  rw [hW1] at q0' q1'
  have CA := Lib.hid (HAn.out W1 hx1)
  rw [hW1] at CA
  obtain ⟨z, hz⟩ : ∃ z, z = anyErr W C 0 e := ⟨_, rfl⟩
  rw [← hz] at CA ⊢
  have HZ := Lib.hid hz
  have HW1 := Lib.hid hW1
  have QB0 := Lib.hid qb0
  have QB1 := Lib.hid qb1
  have RB := Lib.hid rb
  have HX1 := Lib.hid hx1
  have HSZ := Lib.hid hsz
  clear q0 q1 qb0 qb1 rb hx1 hsz hW1 hz
  go_enter Try.func48, Try.ntmps48
  go_wp2_with fail
  refine CA.out.mono ?_
  rintro x w2 ⟨rfl, hy⟩
  rw [← HW1.out] at hy
  have hx2 := HX1.out.trans hy
  have hS1 := HSZ.out
  have p0 := (hy.cell (show w.heap.size < _ by omega)).trans QB0.out
  have p1 := (hy.cell (show w.heap.size < _ by omega)).trans QB1.out
  have hrb := RB.out.ext hy
  by_cases e0 : z = 0
  · have t : (z != 0) = false := by rw [e0]; rfl
    have hP := Lib.hid (anyErr_zero (HZ.out.symm.trans e0)).1
    have CR := Lib.hid (HRd.out w2 hx2 hP.out)
    have HRb := Lib.hid hrb
    have E0 := Lib.hid e0
    clear e0 hrb
    go_wp2_with fail
    refine CR.out.mono ?_
    rintro x w3 ⟨o1, o2, rfl, hO, hy3⟩
    obtain ⟨B1, m1, d1, e1⟩ := hO.wz.isSl
    obtain ⟨B2, m2, d2, e2⟩ := hO.rows.isSl
    subst e1 e2
    have hrb := HRb.out.ext hy3
    have z0 := SBlk.cell0 hrb
    have z1 := SBlk.cell1 (hrb.set0 (.slice B1 m1 d1))
    have k0 := World.rowIs.frozen hrb 0
    have k1 := World.rowIs.frozen (hrb.set0 (.slice B1 m1 d1)) 1
    have hF := hO.store hrb ⟨_, _, _, rfl⟩ ⟨_, _, _, rfl⟩
    have hS := SBlk.full hrb (x := .slice B1 m1 d1) (y := .slice B2 m2 d2)
    have f0 := SBlk.cell0 hS
    have f1 := SBlk.cell1 hS
    have hxF := ((hx2.trans hy3).setCell (p := ⟨w.heap.size + 1, 0, none⟩) (show w.heap.size ≤ w.heap.size + 1 by omega) (.slice B1 m1 d1)).setCell (p := ⟨w.heap.size + 1, 1, none⟩) (show w.heap.size ≤ w.heap.size + 1 by omega) (.slice B2 m2 d2)
    have HF' := Lib.hid hF
    have HXF := Lib.hid hxF
    clear hO hrb hS CR hF hxF
    go_wp2
    exact bodyPost_ret (v := .tuple #[.agg #[.slice B1 m1 d1, .slice B2 m2 d2], .int .i64 0]) (by simp [results, Try.results48, go_sem, f0, f1]) rfl ⟨_, _, by rw [E0.out], HF'.out.priZ (hrl hP.out) E0.out, HXF.out⟩
  · have t : (z != 0) = true := by rw [bne_iff_ne]; exact e0
    have z0 := SBlk.cell0 hrb
    have z1 := SBlk.cell1 (hrb.set0 (.slice none 0 0))
    have k0 := World.rowIs.frozen hrb 0
    have k1 := World.rowIs.frozen (hrb.set0 (.slice none 0 0)) 1
    have hS := SBlk.full hrb (x := .slice none 0 0) (y := .slice none 0 0)
    have f0 := SBlk.cell0 hS
    have f1 := SBlk.cell1 hS
    have hxF := (hx2.setCell (p := ⟨w.heap.size + 1, 0, none⟩) (show w.heap.size ≤ w.heap.size + 1 by omega) (.slice none 0 0)).setCell (p := ⟨w.heap.size + 1, 1, none⟩) (show w.heap.size ≤ w.heap.size + 1 by omega) (.slice none 0 0)
    have HXF := Lib.hid hxF
    have E0 := Lib.hid e0
    clear hrb hS hxF e0
    go_wp2
    exact bodyPost_ret (v := .tuple #[.agg #[.slice none 0 0, .slice none 0 0], .int .i64 z]) (by simp [results, Try.results48, go_sem, f0, f1]) rfl ⟨_, _, rfl, Prior.none _ _ _ _ E0.out, HXF.out⟩

end Go.Proofs.Ytdlhfihddipjaab
