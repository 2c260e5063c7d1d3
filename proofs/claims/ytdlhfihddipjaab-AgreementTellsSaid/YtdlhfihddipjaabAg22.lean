/-
  The agreement texts: Round and Announce of the reference.
-/
import Derived.Test.YtdlhfihddipjaabAg13
import Derived.Test.YtdlhfihddipjaabAg18
import Derived.Test.YtdlhfihddipjaabAg21
import Derived.Test.YtdlhfihddipjaabAg4r
namespace Go.Proofs.Ytdlhfihddipjaab
open Go.RowKit

theorem any0_ev (W : List Int) (C : List (List Int)) (e : Nat) : anyErr W C 0 e = evErr W C e := by
  rw [any_ev]
  by_cases h : evErr W C e = 0
  · rw [if_neg (by simpa using h), h]
    have hP : agErr W C = 0 := by
      unfold evErr at h
      by_cases q : agErr W C = 0
      · exact q
      · rw [if_pos q] at h; exact h
    have := (agErr_zero hP).n0
    rw [if_neg (by omega)]
  · rw [if_pos h]
theorem chk0_ev {W : List Int} {C : List (List Int)} {e : Nat} (h : evErr W C e = 0) (a : Int) : chkErr W C a 0 e = if a < 0 ∨ (C.length : Int) ≤ a then 2 else 0 := by
  rw [chk_ev, if_neg (by simpa using h)]
  have hP := (anyErr_zero ((any0_ev W C e).trans h)).1
  have := hP.n0
  by_cases q : a < 0 ∨ (C.length : Int) ≤ a
  · rw [if_pos (.inl q), if_pos q]
  · rw [if_neg (by omega), if_neg q]
theorem ev_ok {W : List Int} {C : List (List Int)} {e : Nat} (h : evErr W C e = 0) : PrOk W C := (anyErr_zero ((any0_ev W C e).trans h)).1
theorem postsR_ok {W : List Int} {C : List (List Int)} {e a : Nat} (h : evErr W C e = 0) (ha : a < C.length) : (postsR W C a e).1 = posts W C a e W.length := by
  unfold postsR
  rw [chk0_ev h, if_neg (by omega)]
  rfl
theorem map_said (W : List Int) (C : List (List Int)) (e a : Nat) : (C.map (divC W.length (saidTo W C e a))).map (fun c => pDiv W.length c (keysF (posts W C a e W.length))) = C.map (divC W.length (saidTo W C e (a + 1))) := by
  rw [List.map_map]
  refine List.map_congr_left fun c _ => ?_
  rw [saidTo_succ, divC_snoc]; rfl

set_option maxRecDepth 100000 in
set_option maxHeartbeats 4000000 in
theorem refRound_any (w : World) (v1 v2 : Value) (W : List Int) (C : List (List Int)) (h : Prior w v1 v2 W C) (e : Nat) (he : e < 18446744073709551616) :
    Calls Try.prog 49 #[.agg #[v1, v2], .int .u64 e] w fun x w' => ∃ o1 o2, x = .returned (.tuple #[.agg #[o1, o2], .int .i64 (evErr W C e)]) ∧ Prior w' o1 o2 (priW (evErr W C e) W) (priC (evErr W C e) (rnd W C e)) ∧ (evErr W C e = 0 → OPr w' 0 o1 o2 W (rnd W C e)) ∧ Ext w w' := by
  have hrl : PrOk W C → (rnd W C e).length ≤ 4 := fun hP => (rnd_ok hP e).c4
  obtain ⟨h1, h2⟩ := h
  have HEv : Hid (∀ w1, Ext w w1 → Calls Try.prog 76 #[.agg #[v1, v2], .int .u64 e] w1 fun x w' => x = .returned (.int .i64 (evErr W C e)) ∧ Ext w1 w') := fun w1 hx => events_any w1 v1 v2 W C ⟨h1.ext hx, h2.ext hx⟩ e he
  have HCo : Hid (∀ w1, Ext w w1 → PrOk W C → Calls Try.prog 77 #[.agg #[v1, v2]] w1 fun x w' => ∃ o1 o2, x = .returned (.agg #[o1, o2]) ∧ OPr w' 0 o1 o2 W C ∧ Ext w1 w') := fun w1 hx hP => refCopy_any w1 v1 v2 W C ⟨h1.ext hx, h2.ext hx⟩ hP
  have HDi : Hid (∀ w1 u1 u2 (a : Nat), Ext w w1 → evErr W C e = 0 → a < C.length → OPr w1 0 u1 u2 W (C.map (divC W.length (saidTo W C e a))) → Calls Try.prog 94 #[.agg #[u1, u2], .agg #[v1, v2], .int .i64 a, .int .u64 e] w1 fun x w' => ∃ o1 o2, x = .returned (.agg #[o1, o2]) ∧ OPr w' 0 o1 o2 W (C.map (divC W.length (saidTo W C e (a + 1)))) ∧ Ext w1 w') := fun w1 u1 u2 a hx hz ha hO => by
    have hP := ev_ok hz
    have hPd := hP.div (saidTo W C e a)
    have hk := postsR_ok hz ha
    have := refDivide_any w1 u1 u2 v1 v2 W W (C.map (divC W.length (saidTo W C e a))) C (hO.prior hPd.c4) ⟨h1.ext hx, h2.ext hx⟩ ⟨hP.n0, hP.n64⟩ (fun i hi => ⟨hPd.cl i hi, hPd.cok i hi⟩) hP.n0 hP.n64 hPd.c4 a e he (by rw [hk]; exact posts_len _ _ _ _ _)
    rwa [hk, map_said] at this
  obtain ⟨A, c, rfl, hs, _⟩ := h1
  obtain ⟨A2, c2, vs, rfl, hs2, _⟩ := h2
  have hle2 := hs2.le
  have hcap2 := hs2.cap
  clear hs hs2
  obtain ⟨q0, q1⟩ := cellsP w (.slice A W.length c) (.slice A2 C.length c2) 45
  obtain ⟨W1, hW1⟩ : ∃ W1, W1 = (w.alloc (.cells #[.slice A W.length c, .slice A2 C.length c2] 45)).alloc (.cells #[.slice none 0 0, .slice none 0 0] 45) := ⟨_, rfl⟩
  have hx1 : Ext w W1 := by rw [hW1]; exact ((Ext.refl w).alloc _).alloc _
  have hsz : W1.heap.size = w.heap.size + 2 := by rw [hW1]; simp
  have rb := SBlk.made (w.alloc (.cells #[.slice A W.length c, .slice A2 C.length c2] 45)) (.slice none 0 0) (.slice none 0 0) 45
  have qb0 : W1.cell? ⟨w.heap.size, 0, none⟩ = some (.slice A W.length c) := by rw [hW1]; exact (((Ext.refl _).alloc _).cell (by simp)).trans q0
  have qb1 : W1.cell? ⟨w.heap.size, 1, none⟩ = some (.slice A2 C.length c2) := by rw [hW1]; exact (((Ext.refl _).alloc _).cell (by simp)).trans q1
  have rb : SBlk W1 (w.heap.size + 1) 45 (.slice none 0 0) (.slice none 0 0) := by rw [hW1]; simpa using rb
  have q0' := qb0
  have q1' := qb1
  rw [hW1] at q0' q1'
  have CA := Lib.hid (HEv.out W1 hx1)
  rw [hW1] at CA
  obtain ⟨z, hz⟩ : ∃ z, z = evErr W C e := ⟨_, rfl⟩
  rw [← hz] at CA ⊢
  have HZ := Lib.hid hz
  have HW1 := Lib.hid hW1
  have QB0 := Lib.hid qb0
  have QB1 := Lib.hid qb1
  have RB := Lib.hid rb
  have HX1 := Lib.hid hx1
  have HSZ := Lib.hid hsz
  clear q0 q1 qb0 qb1 rb hx1 hsz hW1 hz
  go_enter Try.func49, Try.ntmps49
  go_wp2_with fail
  refine CA.out.mono ?_
  rintro x w2 ⟨rfl, hy⟩
  rw [← HW1.out] at hy
  have hx2 := HX1.out.trans hy
  have hS1 := HSZ.out
  have p0 := (hy.cell (show w.heap.size < _ by omega)).trans QB0.out
  have p1 := (hy.cell (show w.heap.size < _ by omega)).trans QB1.out
  have hrb := RB.out.ext hy
  clear q0' q1'
  by_cases e0 : z = 0
  · have t : (z != 0) = false := by rw [e0]; rfl
    have hP := Lib.hid (ev_ok (HZ.out.symm.trans e0))
    have CC := Lib.hid (HCo.out w2 hx2 hP.out)
    have HRb := Lib.hid hrb
    have E0 := Lib.hid e0
    have hE := Lib.hid (HZ.out.symm.trans e0)
    clear e0 hrb
    go_wp2_with fail
    refine CC.out.mono ?_
    rintro x w3 ⟨o1, o2, rfl, hO, hy3⟩
    obtain ⟨B1, m1, d1, e1⟩ := hO.wz.isSl
    obtain ⟨B2, m2, d2, e2⟩ := hO.rows.isSl
    subst e1 e2
    have hx3 := hx2.trans hy3
    have hX := (hy.trans hy3).alloc (.cells #[.slice B1 m1 d1, .slice B2 m2 d2] 45)
    have hO3 := hO.ext ((Ext.refl w3).alloc (.cells #[.slice B1 m1 d1, .slice B2 m2 d2] 45))
    have hS3 := SBlk.made w3 (.slice B1 m1 d1) (.slice B2 m2 d2) 45
    have hl3 : w.heap.size + 1 < w3.heap.size := by have := (hy.trans hy3).size; omega
    have HO3 := Lib.hid hO3
    have HS3 := Lib.hid hS3
    clear hO hO3 hS3 CC
    go_wp2
    go_loopw [8] (fun v wr => ∃ a : Nat, a ≤ C.length ∧ v = .int .i64 a ∧ (∃ o1 o2, Hid (SBlk wr w3.heap.size 45 o1 o2 ∧ OPr wr 0 o1 o2 W (C.map (divC W.length (saidTo W C e a))))) ∧ Ext W1 wr) (fun v _ => C.length - (intOf v).toNat)
    case atStart => exact ⟨0, Nat.zero_le _, rfl, ⟨_, _, HS3.out, by
      have := HO3.out
      rwa [← (List.map_congr_left fun c _ => rfl).trans (List.map_id C : C.map (divC W.length (saidTo W C e 0)) = C)] at this⟩, hX⟩
    case round =>
      obtain ⟨a, ha, rfl, ⟨o1, o2, hR⟩, hxr⟩ := hrel
      have hxw := HX1.out.trans hxr
      have p0 := (hxr.cell (show w.heap.size < _ by omega)).trans QB0.out
      have p1 := (hxr.cell (show w.heap.size < _ by omega)).trans QB1.out
      obtain ⟨D1, n1, f1, e1⟩ := hR.out.2.wz.isSl
      obtain ⟨D2, n2, f2, e2⟩ := hR.out.2.rows.isSl
      subst e1 e2
      have s0 := SBlk.cell0 hR.out.1
      have s1 := SBlk.cell1 hR.out.1
      by_cases hlt : a < C.length
      · have CD := Lib.hid (HDi.out wr _ _ a hxw hE.out hlt hR.out.2)
        go_wp2_with fail
        refine CD.out.mono ?_
        rintro x w5 ⟨o3, o4, rfl, hO5, hy5⟩
        obtain ⟨D3, n3, f3, e3⟩ := hO5.wz.isSl
        obtain ⟨D4, n4, f4, e4⟩ := hO5.rows.isSl
        subst e3 e4
        have hS5 := hR.out.1.ext hy5
        have z0 := SBlk.cell0 hS5
        have z1 := SBlk.cell1 (hS5.set0 (.slice D3 n3 f3))
        have k0 := World.rowIs.frozen hS5 0
        have k1 := World.rowIs.frozen (hS5.set0 (.slice D3 n3 f3)) 1
        have hS6 := Lib.hid (SBlk.full hS5 (x := .slice D3 n3 f3) (y := .slice D4 n4 f4))
        have hO6 := Lib.hid (hO5.store hS5 ⟨_, _, _, rfl⟩ ⟨_, _, _, rfl⟩)
        have hX6 := Lib.hid (((hxr.trans hy5).setCell (p := ⟨w3.heap.size, 0, none⟩) (show W1.heap.size ≤ w3.heap.size by omega) (.slice D3 n3 f3)).setCell (p := ⟨w3.heap.size, 1, none⟩) (show W1.heap.size ≤ w3.heap.size by omega) (.slice D4 n4 f4))
        clear hS5 hO5 CD
        go_wp2
        go_roundw
        case rel => exact ⟨a + 1, by omega, by go_num, ⟨_, _, hS6.out, hO6.out⟩, hX6.out⟩
        case measure => simp [intOf]; omega
      · obtain rfl : a = C.length := by omega
        have hrb := HRb.out
        have hrb : SBlk wr (w.heap.size + 1) 45 (.slice none 0 0) (.slice none 0 0) := RB.out.ext hxr
        have z0 := SBlk.cell0 hrb
        have z1 := SBlk.cell1 (hrb.set0 (.slice D1 n1 f1))
        have k0 := World.rowIs.frozen hrb 0
        have k1 := World.rowIs.frozen (hrb.set0 (.slice D1 n1 f1)) 1
        have hF := hR.out.2.store hrb ⟨_, _, _, rfl⟩ ⟨_, _, _, rfl⟩
        have hS := SBlk.full hrb (x := .slice D1 n1 f1) (y := .slice D2 n2 f2)
        have y0 := SBlk.cell0 hS
        have y1 := SBlk.cell1 hS
        have hxF := (hxw.setCell (p := ⟨w.heap.size + 1, 0, none⟩) (show w.heap.size ≤ w.heap.size + 1 by omega) (.slice D1 n1 f1)).setCell (p := ⟨w.heap.size + 1, 1, none⟩) (show w.heap.size ≤ w.heap.size + 1 by omega) (.slice D2 n2 f2)
        have HF' := Lib.hid hF
        have HXF := Lib.hid hxF
        clear hrb hS hF hxF
        go_wp2
        exact bodyPost_ret (v := .tuple #[.agg #[.slice D1 n1 f1, .slice D2 n2 f2], .int .i64 0]) (by simp [results, Try.results49, go_sem, y0, y1]) rfl ⟨_, _, by rw [E0.out], HF'.out.priZ (hrl hP.out) E0.out, fun _ => HF'.out, HXF.out⟩
  · have t : (z != 0) = true := by rw [bne_iff_ne]; exact e0
    have z0 := SBlk.cell0 hrb
    have z1 := SBlk.cell1 (hrb.set0 (.slice none 0 0))
    have k0 := World.rowIs.frozen hrb 0
    have k1 := World.rowIs.frozen (hrb.set0 (.slice none 0 0)) 1
    have hS := SBlk.full hrb (x := .slice none 0 0) (y := .slice none 0 0)
    have f0 := SBlk.cell0 hS
    have f1 := SBlk.cell1 hS
    have hxF := (hx2.setCell (p := ⟨w.heap.size + 1, 0, none⟩) (show w.heap.size ≤ w.heap.size + 1 by omega) (.slice none 0 0)).setCell (p := ⟨w.heap.size + 1, 1, none⟩) (show w.heap.size ≤ w.heap.size + 1 by omega) (.slice none 0 0)
    have HXF := Lib.hid hxF
    have E0 := Lib.hid e0
    clear hrb hS hxF e0
    go_wp2
    exact bodyPost_ret (v := .tuple #[.agg #[.slice none 0 0, .slice none 0 0], .int .i64 z]) (by simp [results, Try.results49, go_sem, f0, f1]) rfl ⟨_, _, rfl, Prior.none _ _ _ _ E0.out, fun k => absurd k E0.out, HXF.out⟩

set_option maxRecDepth 100000 in
set_option maxHeartbeats 4000000 in
theorem refAnnounce_any (w : World) (v1 v2 : Value) (W : List Int) (C : List (List Int)) (h : Prior w v1 v2 W C) (a : Int) (e : Nat) (he : e < 18446744073709551616) :
    Calls Try.prog 47 #[.agg #[v1, v2], .int .i64 a, .int .u64 e] w fun x w' => ∃ o1 o2, x = .returned (.tuple #[.agg #[o1, o2], .int .i64 (chkErr W C a 0 e)]) ∧ Prior w' o1 o2 (priW (chkErr W C a 0 e) W) (priC (chkErr W C a 0 e) (ann W C a.toNat e)) ∧ Ext w w' := by
  have hrl : PrOk W C → (ann W C a.toNat e).length ≤ 4 := fun hP => (hP.div _).c4
  obtain ⟨h1, h2⟩ := h
  have HEv : Hid (∀ w1, Ext w w1 → Calls Try.prog 76 #[.agg #[v1, v2], .int .u64 e] w1 fun x w' => x = .returned (.int .i64 (evErr W C e)) ∧ Ext w1 w') := fun w1 hx => events_any w1 v1 v2 W C ⟨h1.ext hx, h2.ext hx⟩ e he
  have HDi : Hid (∀ w1 (a : Nat), Ext w w1 → evErr W C e = 0 → a < C.length → Calls Try.prog 94 #[.agg #[v1, v2], .agg #[v1, v2], .int .i64 a, .int .u64 e] w1 fun x w' => ∃ o1 o2, x = .returned (.agg #[o1, o2]) ∧ OPr w' 0 o1 o2 W (ann W C a e) ∧ Ext w1 w') := fun w1 a hx hz ha => by
    have hP := ev_ok hz
    have hk := postsR_ok hz ha
    have := refDivide_any w1 v1 v2 v1 v2 W W C C ⟨h1.ext hx, h2.ext hx⟩ ⟨h1.ext hx, h2.ext hx⟩ ⟨hP.n0, hP.n64⟩ (fun i hi => ⟨hP.cl i hi, hP.cok i hi⟩) hP.n0 hP.n64 hP.c4 a e he (by rw [hk]; exact posts_len _ _ _ _ _)
    rwa [hk] at this
  obtain ⟨A, c, rfl, hs, _⟩ := h1
  obtain ⟨A2, c2, vs, rfl, hs2, _⟩ := h2
  have hle2 := hs2.le
  have hcap2 := hs2.cap
  clear hs hs2
  obtain ⟨q0, q1⟩ := cellsP w (.slice A W.length c) (.slice A2 C.length c2) 45
  obtain ⟨W1, hW1⟩ : ∃ W1, W1 = (w.alloc (.cells #[.slice A W.length c, .slice A2 C.length c2] 45)).alloc (.cells #[.slice none 0 0, .slice none 0 0] 45) := ⟨_, rfl⟩
  have hx1 : Ext w W1 := by rw [hW1]; exact ((Ext.refl w).alloc _).alloc _
  have hsz : W1.heap.size = w.heap.size + 2 := by rw [hW1]; simp
  have rb := SBlk.made (w.alloc (.cells #[.slice A W.length c, .slice A2 C.length c2] 45)) (.slice none 0 0) (.slice none 0 0) 45
  have qb0 : W1.cell? ⟨w.heap.size, 0, none⟩ = some (.slice A W.length c) := by rw [hW1]; exact (((Ext.refl _).alloc _).cell (by simp)).trans q0
  have qb1 : W1.cell? ⟨w.heap.size, 1, none⟩ = some (.slice A2 C.length c2) := by rw [hW1]; exact (((Ext.refl _).alloc _).cell (by simp)).trans q1
  have rb : SBlk W1 (w.heap.size + 1) 45 (.slice none 0 0) (.slice none 0 0) := by rw [hW1]; simpa using rb
  have q0' := qb0
  have q1' := qb1
  rw [hW1] at q0' q1'
  have CA := Lib.hid (HEv.out W1 hx1)
  rw [hW1] at CA
  have hchk : evErr W C e ≠ 0 → chkErr W C a 0 e = evErr W C e := fun h => by rw [chk_ev, if_pos h]
  have hchk0 : evErr W C e = 0 → chkErr W C a 0 e = if a < 0 ∨ (C.length : Int) ≤ a then 2 else 0 := fun h => chk0_ev h a
  obtain ⟨z, hz⟩ : ∃ z, z = evErr W C e := ⟨_, rfl⟩
  obtain ⟨y, hy⟩ : ∃ y, y = chkErr W C a 0 e := ⟨_, rfl⟩
  rw [← hz] at CA
  rw [← hy, ← hz] at hchk hchk0
  rw [← hy]
  have HZ := Lib.hid hz
  have Hchk := Lib.hid hchk
  have Hchk0 := Lib.hid hchk0
  have HW1 := Lib.hid hW1
  have QB0 := Lib.hid qb0
  have QB1 := Lib.hid qb1
  have RB := Lib.hid rb
  have HX1 := Lib.hid hx1
  have HSZ := Lib.hid hsz
  clear q0 q1 qb0 qb1 rb hx1 hsz hW1 hz hy hchk hchk0
  go_enter Try.func47, Try.ntmps47
  go_wp2_with fail
  refine CA.out.mono ?_
  rintro x w2 ⟨rfl, hy⟩
  rw [← HW1.out] at hy
  have hx2 := HX1.out.trans hy
  have hS1 := HSZ.out
  have p0 := (hy.cell (show w.heap.size < _ by omega)).trans QB0.out
  have p1 := (hy.cell (show w.heap.size < _ by omega)).trans QB1.out
  have hl2 : w.heap.size + 1 < w2.heap.size := by have := hy.size; omega
  have hrb := RB.out.ext hy
  by_cases e0 : z = 0
  · have t : (z != 0) = false := by rw [e0]; rfl
    have hP := Lib.hid (ev_ok (HZ.out.symm.trans e0))
    have hE := Lib.hid (HZ.out.symm.trans e0)
    have E0 := Lib.hid e0
    clear e0
    by_cases ha : a < 0
    · have t3 : decide (a < 0) = true := by simpa using ha
      have hq : a < 0 ∨ (C.length : Int) ≤ a := .inl ha
      have Ha := Lib.hid ha
      have z0 := SBlk.cell0 hrb
      have z1 := SBlk.cell1 (hrb.set0 (.slice none 0 0))
      have k0 := World.rowIs.frozen hrb 0
      have k1 := World.rowIs.frozen (hrb.set0 (.slice none 0 0)) 1
      have hS := SBlk.full hrb (x := .slice none 0 0) (y := .slice none 0 0)
      have f0 := SBlk.cell0 hS
      have f1 := SBlk.cell1 hS
      have hxF := (hx2.setCell (p := ⟨w.heap.size + 1, 0, none⟩) (show w.heap.size ≤ w.heap.size + 1 by omega) (.slice none 0 0)).setCell (p := ⟨w.heap.size + 1, 1, none⟩) (show w.heap.size ≤ w.heap.size + 1 by omega) (.slice none 0 0)
      have HXF := Lib.hid hxF
      have HQ := Lib.hid hq
      clear hrb hS hxF hq ha
      go_wp2
      have Ey : y = 2 := by rw [Hchk0.out E0.out, if_pos HQ.out]
      exact bodyPost_ret (v := .tuple #[.agg #[.slice none 0 0, .slice none 0 0], .int .i64 2]) (by simp [results, Try.results47, go_sem, f0, f1]) rfl ⟨_, _, by rw [Ey], Prior.none _ _ _ _ (by rw [Ey]; decide), HXF.out⟩
    have t3 : decide (a < 0) = false := by simpa using ha
    by_cases hb : (C.length : Int) ≤ a
    · have t4 : decide ((C.length : Int) ≤ a) = true := by simpa using hb
      have hq : a < 0 ∨ (C.length : Int) ≤ a := .inr hb
      have z0 := SBlk.cell0 hrb
      have z1 := SBlk.cell1 (hrb.set0 (.slice none 0 0))
      have k0 := World.rowIs.frozen hrb 0
      have k1 := World.rowIs.frozen (hrb.set0 (.slice none 0 0)) 1
      have hS := SBlk.full hrb (x := .slice none 0 0) (y := .slice none 0 0)
      have f0 := SBlk.cell0 hS
      have f1 := SBlk.cell1 hS
      have hxF := (hx2.setCell (p := ⟨w.heap.size + 1, 0, none⟩) (show w.heap.size ≤ w.heap.size + 1 by omega) (.slice none 0 0)).setCell (p := ⟨w.heap.size + 1, 1, none⟩) (show w.heap.size ≤ w.heap.size + 1 by omega) (.slice none 0 0)
      have HXF := Lib.hid hxF
      have HQ := Lib.hid hq
      clear hrb hS hxF hq
      go_wp2
      have Ey : y = 2 := by rw [Hchk0.out E0.out, if_pos HQ.out]
      exact bodyPost_ret (v := .tuple #[.agg #[.slice none 0 0, .slice none 0 0], .int .i64 2]) (by simp [results, Try.results47, go_sem, f0, f1]) rfl ⟨_, _, by rw [Ey], Prior.none _ _ _ _ (by rw [Ey]; decide), HXF.out⟩
    have t4 : decide ((C.length : Int) ≤ a) = false := by simpa using hb
    obtain ⟨a', rfl⟩ := Int.eq_ofNat_of_zero_le (show 0 ≤ a by omega)
    have CD := Lib.hid (HDi.out w2 a' hx2 hE.out (by omega))
    have Ey : Hid (y = 0) := by show y = 0; rw [Hchk0.out E0.out, if_neg (by omega)]
    have HRb := Lib.hid hrb
    clear hrb
    go_wp2_with fail
    refine CD.out.mono ?_
    rintro x w3 ⟨o1, o2, rfl, hO, hy3⟩
    obtain ⟨B1, m1, d1, e1⟩ := hO.wz.isSl
    obtain ⟨B2, m2, d2, e2⟩ := hO.rows.isSl
    subst e1 e2
    have hrb := HRb.out.ext hy3
    have z0 := SBlk.cell0 hrb
    have z1 := SBlk.cell1 (hrb.set0 (.slice B1 m1 d1))
    have k0 := World.rowIs.frozen hrb 0
    have k1 := World.rowIs.frozen (hrb.set0 (.slice B1 m1 d1)) 1
    have hF := hO.store hrb ⟨_, _, _, rfl⟩ ⟨_, _, _, rfl⟩
    have hS := SBlk.full hrb (x := .slice B1 m1 d1) (y := .slice B2 m2 d2)
    have y0 := SBlk.cell0 hS
    have y1 := SBlk.cell1 hS
    have hxF := ((hx2.trans hy3).setCell (p := ⟨w.heap.size + 1, 0, none⟩) (show w.heap.size ≤ w.heap.size + 1 by omega) (.slice B1 m1 d1)).setCell (p := ⟨w.heap.size + 1, 1, none⟩) (show w.heap.size ≤ w.heap.size + 1 by omega) (.slice B2 m2 d2)
    have HF' := Lib.hid hF
    have HXF := Lib.hid hxF
    clear hO hrb hS hF hxF CD
    go_wp2
    exact bodyPost_ret (v := .tuple #[.agg #[.slice B1 m1 d1, .slice B2 m2 d2], .int .i64 0]) (by simp [results, Try.results47, go_sem, y0, y1]) rfl ⟨_, _, by rw [Ey.out], HF'.out.priZ (hrl hP.out) Ey.out, HXF.out⟩
  · have t : (z != 0) = true := by rw [bne_iff_ne]; exact e0
    have z0 := SBlk.cell0 hrb
    have z1 := SBlk.cell1 (hrb.set0 (.slice none 0 0))
    have k0 := World.rowIs.frozen hrb 0
    have k1 := World.rowIs.frozen (hrb.set0 (.slice none 0 0)) 1
    have hS := SBlk.full hrb (x := .slice none 0 0) (y := .slice none 0 0)
    have f0 := SBlk.cell0 hS
    have f1 := SBlk.cell1 hS
    have hxF := (hx2.setCell (p := ⟨w.heap.size + 1, 0, none⟩) (show w.heap.size ≤ w.heap.size + 1 by omega) (.slice none 0 0)).setCell (p := ⟨w.heap.size + 1, 1, none⟩) (show w.heap.size ≤ w.heap.size + 1 by omega) (.slice none 0 0)
    have HXF := Lib.hid hxF
    have E0 := Lib.hid e0
    clear hrb hS hxF e0
    go_wp2
    have Ey : y = z := Hchk.out E0.out
    exact bodyPost_ret (v := .tuple #[.agg #[.slice none 0 0, .slice none 0 0], .int .i64 z]) (by simp [results, Try.results47, go_sem, f0, f1]) rfl ⟨_, _, by rw [Ey], Prior.none _ _ _ _ (by rw [Ey]; exact E0.out), HXF.out⟩


end Go.Proofs.Ytdlhfihddipjaab
