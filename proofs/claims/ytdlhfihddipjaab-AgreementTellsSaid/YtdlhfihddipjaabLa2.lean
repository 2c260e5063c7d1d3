/-
  AgreementTells: the walk of the law.
-/
import Derived.Test.YtdlhfihddipjaabAgX
import Derived.Test.YtdlhfihddipjaabAg22
namespace Go.Proofs.Ytdlhfihddipjaab
open Go.RowKit

theorem cellsQ1 (w : World) (v1 v2 : Value) (t : TypeId) : ∀ w', Ext (w.alloc (.cells #[v1, v2] t)) w' → w'.cell? ⟨w.heap.size, 0, none⟩ = some v1 ∧ w'.cell? ⟨w.heap.size, 1, none⟩ = some v2 := fun w' k => by
  obtain ⟨p0, p1⟩ := cellsP w v1 v2 t
  exact ⟨(k.cell (by simp)).trans p0, (k.cell (by simp)).trans p1⟩

set_option maxRecDepth 100000 in
set_option maxHeartbeats 8000000 in
theorem tells_law (w : World) (v1 v2 : Value) (W : List Int) (C : List (List Int)) (h : Prior w v1 v2 W C) (a : Int) (e : Nat) (he : e < 18446744073709551616) :
    Calls Try.prog 12 #[.agg #[v1, v2], .int .i64 a, .int .u64 e] w fun x w' => x = .returned (.bool true) ∧ Ext w w' := by
  have HAw : Hid (∀ w1, Calls Try.prog 26 #[] w1 fun x w' => x = .returned (.bool true) ∧ Ext w1 w') := awake24_any
  have HFe : Hid (∀ w1, Ext w w1 → Calls Try.prog 25 #[.agg #[v1, v2], .int .i64 20] w1 fun x w' => x = .returned (.bool (fewB W C 20)) ∧ Ext w1 w') := fun w1 hx => few_any w1 v1 v2 W C (h.ext hx) 20
  have sl : ∀ w1 o1 o2 W C, Prior w1 o1 o2 W C → ∃ A n c A' n' c', o1 = .slice A n c ∧ o2 = .slice A' n' c' := fun w1 o1 o2 W C hp => by
    obtain ⟨⟨A, c, e1, _⟩, ⟨A', c', _, e2, _⟩⟩ := hp
    exact ⟨_, _, _, _, _, _, e1, e2⟩
  have Hsl := Lib.hid sl
  obtain ⟨z, hz⟩ : ∃ z, z = chkErr W C a 0 e := ⟨_, rfl⟩
  obtain ⟨PW, hPW⟩ : ∃ x, x = priW (chkErr W C a 0 e) W := ⟨_, rfl⟩
  obtain ⟨PC, hPC⟩ : ∃ x, x = priC (chkErr W C a 0 e) (ann W C a.toNat e) := ⟨_, rfl⟩
  have HP1 : Hid (∀ w1, Ext w w1 → Calls Try.prog 46 #[.agg #[v1, v2], .int .i64 a, .int .u64 e] w1 fun x w' => ∃ o1 o2, x = .returned (.tuple #[.agg #[o1, o2], .int .i64 z]) ∧ Prior w' o1 o2 PW PC ∧ Ext w1 w') := fun w1 hx => by
    have := Announce_any w1 v1 v2 W C (h.ext hx) a e he
    rwa [← hPW, ← hPC, ← hz] at this
  have HP2 : Hid (∀ w1, Ext w w1 → Calls Try.prog 47 #[.agg #[v1, v2], .int .i64 a, .int .u64 e] w1 fun x w' => ∃ o1 o2, x = .returned (.tuple #[.agg #[o1, o2], .int .i64 z]) ∧ Prior w' o1 o2 PW PC ∧ Ext w1 w') := fun w1 hx => by
    have := refAnnounce_any w1 v1 v2 W C (h.ext hx) a e he
    rwa [← hPW, ← hPC, ← hz] at this
  obtain ⟨y, hy⟩ : ∃ y, y = anyErr W C 0 e := ⟨_, rfl⟩
  obtain ⟨RW, hRW⟩ : ∃ x, x = priW (anyErr W C 0 e) W := ⟨_, rfl⟩
  obtain ⟨RC, hRC⟩ : ∃ x, x = priC (anyErr W C 0 e) (rnd W C e) := ⟨_, rfl⟩
  have HQ1 : Hid (∀ w1, Ext w w1 → Calls Try.prog 48 #[.agg #[v1, v2], .int .u64 e] w1 fun x w' => ∃ o1 o2, x = .returned (.tuple #[.agg #[o1, o2], .int .i64 y]) ∧ Prior w' o1 o2 RW RC ∧ Ext w1 w') := fun w1 hx => by
    have := Round_any w1 v1 v2 W C (h.ext hx) e he
    rwa [← hRW, ← hRC, ← hy] at this
  have HQ2 : Hid (∀ w1, Ext w w1 → Calls Try.prog 49 #[.agg #[v1, v2], .int .u64 e] w1 fun x w' => ∃ o1 o2, x = .returned (.tuple #[.agg #[o1, o2], .int .i64 y]) ∧ Prior w' o1 o2 RW RC ∧ Ext w1 w') := fun w1 hx => by
    have := refRound_any w1 v1 v2 W C (h.ext hx) e he
    rw [← any0_ev, ← hRW, ← hRC, ← hy] at this
    exact this.mono fun _ _ ⟨o1, o2, q1, q2, _, q3⟩ => ⟨o1, o2, q1, q2, q3⟩
  have HSm : Hid (∀ w1 u1 u2 x1 x2 V D, Prior w1 u1 u2 V D → Prior w1 x1 x2 V D → Calls Try.prog 29 #[.agg #[u1, u2], .agg #[x1, x2]] w1 fun e w' => e = .returned (.bool true) ∧ Ext w1 w') := fun w1 u1 u2 x1 x2 V D ha hb => by
    have := same24_any w1 u1 u2 x1 x2 V V D D ha hb
    rwa [decide_eq_true ⟨rfl, rfl⟩] at this
  obtain ⟨q, hq⟩ : ∃ q, q = fewB W C 20 := ⟨_, rfl⟩
  rw [← hq] at HFe
  obtain ⟨⟨A, c, rfl, hs, _⟩, ⟨A2, c2, vs, rfl, hs2, _⟩⟩ := h
  have HUp := Lib.hid (cellsQ1 w (.slice A W.length c) (.slice A2 C.length c2) 45)
  have hx1 : Ext w (w.alloc (.cells #[.slice A W.length c, .slice A2 C.length c2] 45)) := (Ext.refl w).alloc _
  have CF := Lib.hid (HFe.out _ hx1)
  clear hs hs2 hz hPW hPC hy hRW hRC hq sl
  have g0 := HUp.out _ (Ext.refl _)
  obtain ⟨p0, p1⟩ := g0
  go_enter Try.func12, Try.ntmps12
  go_wp2_with fail
  refine CF.out.mono ?_
  rintro x w2 ⟨rfl, hy2⟩
  obtain ⟨p0, p1⟩ := HUp.out _ hy2
  have hx2 := hx1.trans hy2
  cases q with
  | false =>
    go_wp2_with fail
    refine (HAw.out _).mono ?_
    rintro x w3 ⟨rfl, hy3⟩
    go_wp2
    go_ret
    exact ⟨rfl, hx2.trans hy3⟩
  | true =>
    go_wp2_with fail
    refine (HP1.out _ hx2).mono ?_
    rintro x w3 ⟨o1, o2, rfl, hp1, hy3⟩
    obtain ⟨B1, m1, d1, B2, m2, d2, rfl, rfl⟩ := Hsl.out _ _ _ _ _ hp1
    have hp1 := Lib.hid hp1
    have C3 := Lib.hid (cellsP w3 (.slice B1 m1 d1) (.slice B2 m2 d2) 45)
    have hz3 := (hy2.trans hy3).alloc (.cells #[.slice B1 m1 d1, .slice B2 m2 d2] 45)
    obtain ⟨p0, p1⟩ := HUp.out _ hz3
    have hx3 := hx1.trans hz3
    clear hy3
    go_wp2_with fail
    refine (HP2.out _ hx3).mono ?_
    rintro x w4 ⟨o3, o4, rfl, hp2, hy4⟩
    obtain ⟨B3, m3, d3, B4, m4, d4, rfl, rfl⟩ := Hsl.out _ _ _ _ _ hp2
    have hp2 := Lib.hid hp2
    have C4 := Lib.hid (cellsP w4 (.slice B3 m3 d3) (.slice B4 m4 d4) 45)
    have hy4 := hy4.alloc (.cells #[.slice B3 m3 d3, .slice B4 m4 d4] 45)
    have hz4 := hz3.trans hy4
    obtain ⟨p0, p1⟩ := HUp.out _ hz4
    have hx4 := hx1.trans hz4
    have Y34 := Lib.hid hy4
    clear hy4
    go_wp2_with fail
    refine (HQ1.out _ hx4).mono ?_
    rintro x w5 ⟨o5, o6, rfl, hp3, hy5⟩
    obtain ⟨B5, m5, d5, B6, m6, d6, rfl, rfl⟩ := Hsl.out _ _ _ _ _ hp3
    have hp3 := Lib.hid hp3
    have C5 := Lib.hid (cellsP w5 (.slice B5 m5 d5) (.slice B6 m6 d6) 45)
    have hy5 := hy5.alloc (.cells #[.slice B5 m5 d5, .slice B6 m6 d6] 45)
    have hz5 := hz4.trans hy5
    obtain ⟨p0, p1⟩ := HUp.out _ hz5
    have hx5 := hx1.trans hz5
    have Y45 := Lib.hid hy5
    clear hy5
    go_wp2_with fail
    refine (HQ2.out _ hx5).mono ?_
    rintro x w6 ⟨o7, o8, rfl, hp4, hy6⟩
    obtain ⟨B7, m7, d7, B8, m8, d8, rfl, rfl⟩ := Hsl.out _ _ _ _ _ hp4
    have C6 := Lib.hid (cellsP w6 (.slice B7 m7 d7) (.slice B8 m8 d8) 45)
    have hy6 := hy6.alloc (.cells #[.slice B7 m7 d7, .slice B8 m8 d8] 45)
    have hx6 := hx5.trans hy6
    have hp4 := Lib.hid (hp4.ext ((Ext.refl w6).alloc (.cells #[.slice B7 m7 d7, .slice B8 m8 d8] 45)))
    have y46 := Y45.out.trans hy6
    have y36 := Y34.out.trans y46
    have hp1 := Lib.hid ((hp1.out.ext ((Ext.refl w3).alloc (.cells #[.slice B1 m1 d1, .slice B2 m2 d2] 45))).ext y36)
    have hp2 := Lib.hid ((hp2.out.ext ((Ext.refl w4).alloc (.cells #[.slice B3 m3 d3, .slice B4 m4 d4] 45))).ext y46)
    have hp3 := Lib.hid ((hp3.out.ext ((Ext.refl w5).alloc (.cells #[.slice B5 m5 d5, .slice B6 m6 d6] 45))).ext hy6)
    have c30 := (y36.cell (show w3.heap.size < _ by simp)).trans C3.out.1
    have c31 := (y36.cell (show w3.heap.size < _ by simp)).trans C3.out.2
    have c40 := (y46.cell (show w4.heap.size < _ by simp)).trans C4.out.1
    have c41 := (y46.cell (show w4.heap.size < _ by simp)).trans C4.out.2
    have c50 := (hy6.cell (show w5.heap.size < _ by simp)).trans C5.out.1
    have c51 := (hy6.cell (show w5.heap.size < _ by simp)).trans C5.out.2
    obtain ⟨c60, c61⟩ := C6.out
    have hl : w3.heap.size < (w6.alloc (.cells #[.slice B7 m7 d7, .slice B8 m8 d8] 45)).heap.size := Nat.lt_of_lt_of_le (by simp) y36.size
    have l5 : w5.heap.size < (w6.alloc (.cells #[.slice B7 m7 d7, .slice B8 m8 d8] 45)).heap.size := Nat.lt_of_lt_of_le (by simp) hy6.size
    have l6 : w6.heap.size < (w6.alloc (.cells #[.slice B7 m7 d7, .slice B8 m8 d8] 45)).heap.size := by simp
    clear p0 p1 y46 y36 hy6
    go_wp2_with fail
    refine (HSm.out _ _ _ _ _ _ _ hp1.out hp2.out).mono ?_
    rintro x w7 ⟨rfl, hy7⟩
    have hx7 := hx6.trans hy7
    have c50 := (hy7.cell (p := ⟨w5.heap.size, 0, none⟩) l5).trans c50
    have c51 := (hy7.cell (p := ⟨w5.heap.size, 1, none⟩) l5).trans c51
    have c60 := (hy7.cell (p := ⟨w6.heap.size, 0, none⟩) l6).trans c60
    have c61 := (hy7.cell (p := ⟨w6.heap.size, 1, none⟩) l6).trans c61
    have hp3 := Lib.hid (hp3.out.ext hy7)
    have hp4 := Lib.hid (hp4.out.ext hy7)
    go_wp2_with fail
    refine (HSm.out _ _ _ _ _ _ _ hp3.out hp4.out).mono ?_
    rintro x w8 ⟨rfl, hy8⟩
    have hx8 := hx7.trans hy8
    go_wp2_with fail
    refine (HAw.out _).mono ?_
    rintro x w10 ⟨rfl, hy10⟩
    go_wp2
    go_ret
    exact ⟨rfl, hx8.trans hy10⟩

end Go.Proofs.Ytdlhfihddipjaab
