/-
  The agreement texts: Announce of the program.
-/
import Derived.Test.YtdlhfihddipjaabAg17
namespace Go.Proofs.Ytdlhfihddipjaab
open Go.RowKit

theorem FRows.lit {w : World} {v : Value} {fs : List (Nat × Nat)} {g : Nat} (h : Fracs w v fs) (t : TypeId) (hg : g = w.heap.size) : FRows (w.alloc (.cells #[v] t)) (.slice (some ⟨g, 0, none⟩) 1 1) [fs] := by
  subst hg
  have hr : (w.alloc (.cells #[v] t)).rowIs w.heap.size t 1 (fun _ => v) := World.rowIs_alloc w #[v] t (fun _ => v) (fun i hi => by
    have : i = 0 := by simp at hi; omega
    subst this; rfl)
  exact ⟨_, _, fun _ => v, rfl, SlcAt.of_row hr (by omega), fun i hi => by
    have : i = 0 := by simp at hi; omega
    subst this
    exact h.ext ((Ext.refl w).alloc _)⟩
/-- What an announcement leaves. -/
def ann (W : List Int) (C : List (List Int)) (a e : Nat) : List (List Int) := C.map (divC W.length [posts W C a e W.length])

set_option maxRecDepth 100000 in
set_option maxHeartbeats 4000000 in
theorem Announce_any (w : World) (v1 v2 : Value) (W : List Int) (C : List (List Int)) (h : Prior w v1 v2 W C) (a : Int) (e : Nat) (he : e < 18446744073709551616) :
    Calls Try.prog 46 #[.agg #[v1, v2], .int .i64 a, .int .u64 e] w fun x w' => ∃ o1 o2, x = .returned (.tuple #[.agg #[o1, o2], .int .i64 (chkErr W C a 0 e)]) ∧ Prior w' o1 o2 (priW (chkErr W C a 0 e) W) (priC (chkErr W C a 0 e) (ann W C a.toNat e)) ∧ Ext w w' := by
  have hrl : PrOk W C → (ann W C a.toNat e).length ≤ 4 := fun hP => (hP.div _).c4
  obtain ⟨h1, h2⟩ := h
  have HAn : Hid (∀ w1, Ext w w1 → Calls Try.prog 81 #[.agg #[v1, v2], .int .i64 a, .int .i64 0, .int .u64 e] w1 fun x w' => x = .returned (.int .i64 (chkErr W C a 0 e)) ∧ Ext w1 w') := fun w1 hx => check_any w1 v1 v2 W C ⟨h1.ext hx, h2.ext hx⟩ a 0 e he
  have HPo : Hid (∀ w1, Ext w w1 → chkErr W C a 0 e = 0 → Calls Try.prog 83 #[.agg #[v1, v2], .int .i64 a, .int .u64 e] w1 fun x w' => ∃ v', x = .returned v' ∧ Fracs w' v' (posts W C a.toNat e W.length) ∧ Zero v' ∧ Ext w1 w') := fun w1 hx hz => by
    obtain ⟨hP, a', _, rfl, _, ha, _⟩ := chkErr_zero hz
    exact posteriors0_any w1 v1 v2 W C ⟨h1.ext hx, h2.ext hx⟩ hP a' e ha he
  have HDi : Hid (∀ w1 v3, Ext w w1 → PrOk W C → FRows w1 v3 [posts W C a.toNat e W.length] → Calls Try.prog 72 #[.agg #[v1, v2], v3] w1 fun x w' => ∃ o1 o2, x = .returned (.agg #[o1, o2]) ∧ OPr w' 0 o1 o2 W (ann W C a.toNat e) ∧ Ext w1 w') := fun w1 v3 hx hP hl => divide24_any w1 v1 v2 v3 W C _ ⟨h1.ext hx, h2.ext hx⟩ hP hl (fun j hj => by
    have : j = 0 := by simp at hj; omega
    subst this
    exact posts_len _ _ _ _ _)
  obtain ⟨A, c, rfl, hs, _⟩ := h1
  obtain ⟨A2, c2, vs, rfl, hs2, _⟩ := h2
  clear hs hs2
  obtain ⟨q0, q1⟩ := cellsP w (.slice A W.length c) (.slice A2 C.length c2) 45
  obtain ⟨W1, hW1⟩ : ∃ W1, W1 = (w.alloc (.cells #[.slice A W.length c, .slice A2 C.length c2] 45)).alloc (.cells #[.slice none 0 0, .slice none 0 0] 45) := ⟨_, rfl⟩
  have hx1 : Ext w W1 := by rw [hW1]; exact ((Ext.refl w).alloc _).alloc _
  have hsz : W1.heap.size = w.heap.size + 2 := by rw [hW1]; simp
  have rb := SBlk.made (w.alloc (.cells #[.slice A W.length c, .slice A2 C.length c2] 45)) (.slice none 0 0) (.slice none 0 0) 45
  have qb0 : W1.cell? ⟨w.heap.size, 0, none⟩ = some (.slice A W.length c) := by rw [hW1]; exact (((Ext.refl _).alloc _).cell (by simp)).trans q0
  have qb1 : W1.cell? ⟨w.heap.size, 1, none⟩ = some (.slice A2 C.length c2) := by rw [hW1]; exact (((Ext.refl _).alloc _).cell (by simp)).trans q1
  have rb : SBlk W1 (w.heap.size + 1) 45 (.slice none 0 0) (.slice none 0 0) := by rw [hW1]; simpa using rb
  have q0' := qb0
  have q1' := qb1
  rw [hW1] at q0' q1'
  have CA := Lib.hid (HAn.out W1 hx1)
  rw [hW1] at CA
  obtain ⟨z, hz⟩ : ∃ z, z = chkErr W C a 0 e := ⟨_, rfl⟩
  rw [← hz] at CA ⊢
  have HZ := Lib.hid hz
  have HW1 := Lib.hid hW1
  have QB0 := Lib.hid qb0
  have QB1 := Lib.hid qb1
  have RB := Lib.hid rb
  have HX1 := Lib.hid hx1
  have HSZ := Lib.hid hsz
  clear q0 q1 qb0 qb1 rb hx1 hsz hW1 hz
  go_enter Try.func46, Try.ntmps46
  go_wp2_with fail
  refine CA.out.mono ?_
  rintro x w2 ⟨rfl, hy⟩
  rw [← HW1.out] at hy
  have hx2 := HX1.out.trans hy
  have hS1 := HSZ.out
  have p0 := (hy.cell (show w.heap.size < _ by omega)).trans QB0.out
  have p1 := (hy.cell (show w.heap.size < _ by omega)).trans QB1.out
  have hl2 : w.heap.size + 1 < w2.heap.size := by have := hy.size; omega
  have hrb := RB.out.ext hy
  by_cases e0 : z = 0
  · have t : (z != 0) = false := by rw [e0]; rfl
    have hP := Lib.hid (chkErr_zero (HZ.out.symm.trans e0)).1
    have CP := Lib.hid (HPo.out w2.drew hx2.drew (HZ.out.symm.trans e0))
    have HRb := Lib.hid hrb
    have E0 := Lib.hid e0
    clear e0 hrb
    go_wp2
    go_region_with (first | (go_at_call 83; refine CP.out.mono ?_; rintro x w3 ⟨vf, rfl, hIf, hZf, hy3⟩; obtain ⟨Af, nf, cf, ef⟩ := hZf.isSl; subst ef; have hyr := ((Ext.refl w2).drew).trans hy3; have p0 := (hyr.cell (show w.heap.size < _ by omega)).trans p0; have p1 := (hyr.cell (show w.heap.size < _ by omega)).trans p1; have hl3 : w.heap.size + 1 < w3.heap.size := Nat.lt_of_lt_of_le hl2 hyr.size; have p0a := (((Ext.refl w3).alloc (.cells #[.slice Af nf cf] 59)).cell (show w.heap.size < _ by omega)).trans p0; have p1a := (((Ext.refl w3).alloc (.cells #[.slice Af nf cf] 59)).cell (show w.heap.size < _ by omega)).trans p1) | (go_at_call 72; refine (HDi.out _ _ ?_ hP.out ?_).mono ?_; (exact (hx2.trans hyr).alloc _); (exact FRows.lit hIf _ rfl); rintro x w4 ⟨o1, o2, rfl, hO, hy4⟩; have hx4 := ((hx2.trans hyr).alloc _).trans hy4; have hyb := (hyr.alloc _).trans hy4; obtain ⟨B1, m1, d1, e1⟩ := hO.wz.isSl; obtain ⟨B2, m2, d2, e2⟩ := hO.rows.isSl; subst e1 e2; have hrb := HRb.out.ext hyb; have z0 := SBlk.cell0 hrb; have z1 := SBlk.cell1 (hrb.set0 (.slice B1 m1 d1)); have k0 := World.rowIs.frozen hrb 0; have k1 := World.rowIs.frozen (hrb.set0 (.slice B1 m1 d1)) 1))
    all_goals
      have hF := hO.store hrb ⟨_, _, _, rfl⟩ ⟨_, _, _, rfl⟩
      have hS := SBlk.full hrb (x := .slice B1 m1 d1) (y := .slice B2 m2 d2)
      have f0 := SBlk.cell0 hS
      have f1 := SBlk.cell1 hS
      have hxF := (hx4.setCell (p := ⟨w.heap.size + 1, 0, none⟩) (show w.heap.size ≤ w.heap.size + 1 by omega) (.slice B1 m1 d1)).setCell (p := ⟨w.heap.size + 1, 1, none⟩) (show w.heap.size ≤ w.heap.size + 1 by omega) (.slice B2 m2 d2)
      have HF' := Lib.hid hF
      have HXF := Lib.hid hxF
      clear hO hrb hS hF hxF hIf
      go_wp2
      exact bodyPost_ret (v := .tuple #[.agg #[.slice B1 m1 d1, .slice B2 m2 d2], .int .i64 0]) (by simp [results, Try.results46, go_sem, f0, f1]) rfl ⟨_, _, by rw [E0.out], HF'.out.priZ (hrl hP.out) E0.out, HXF.out⟩
  · have t : (z != 0) = true := by rw [bne_iff_ne]; exact e0
    have z0 := SBlk.cell0 hrb
    have z1 := SBlk.cell1 (hrb.set0 (.slice none 0 0))
    have k0 := World.rowIs.frozen hrb 0
    have k1 := World.rowIs.frozen (hrb.set0 (.slice none 0 0)) 1
    have hS := SBlk.full hrb (x := .slice none 0 0) (y := .slice none 0 0)
    have f0 := SBlk.cell0 hS
    have f1 := SBlk.cell1 hS
    have hxF := (hx2.setCell (p := ⟨w.heap.size + 1, 0, none⟩) (show w.heap.size ≤ w.heap.size + 1 by omega) (.slice none 0 0)).setCell (p := ⟨w.heap.size + 1, 1, none⟩) (show w.heap.size ≤ w.heap.size + 1 by omega) (.slice none 0 0)
    have HXF := Lib.hid hxF
    have E0 := Lib.hid e0
    clear hrb hS hxF e0
    go_wp2
    exact bodyPost_ret (v := .tuple #[.agg #[.slice none 0 0, .slice none 0 0], .int .i64 z]) (by simp [results, Try.results46, go_sem, f0, f1]) rfl ⟨_, _, rfl, Prior.none _ _ _ _ E0.out, HXF.out⟩

end Go.Proofs.Ytdlhfihddipjaab
