/-
  AgreementExchanges: the walk of the law.
-/
import Derived.Test.YtdlhfihddipjaabAgX
import Derived.Test.YtdlhfihddipjaabAg23
namespace Go.Proofs.Ytdlhfihddipjaab
open Go.RowKit

theorem cellsQ3 (w : World) (v1 v2 : Value) (t : TypeId) : ∀ w', Ext (w.alloc (.cells #[v1, v2] t)) w' → w'.cell? ⟨w.heap.size, 0, none⟩ = some v1 ∧ w'.cell? ⟨w.heap.size, 1, none⟩ = some v2 := fun w' k => by
  obtain ⟨p0, p1⟩ := cellsP w v1 v2 t
  exact ⟨(k.cell (by simp)).trans p0, (k.cell (by simp)).trans p1⟩
theorem prior_sl {w1 : World} {o1 o2 : Value} {W : List Int} {C : List (List Int)} (hp : Prior w1 o1 o2 W C) : ∃ A n c A' n' c', o1 = .slice A n c ∧ o2 = .slice A' n' c' := by
  obtain ⟨⟨A, c, e1, _⟩, ⟨A', c', _, e2, _⟩⟩ := hp
  exact ⟨_, _, _, _, _, _, e1, e2⟩
theorem Pris.form {w : World} {v : Value} {W : List Int} {css : List (List (List Int))} (h : Pris w v W css) : ∃ A c, v = .slice A css.length c ∧ css.length ≤ c ∧ c ≤ 9223372036854775807 := by
  obtain ⟨A, c, e, h1, h2, _⟩ := h
  exact ⟨A, c, e, h1, h2⟩

set_option maxRecDepth 100000 in
set_option maxHeartbeats 8000000 in
theorem exchanges_law (w : World) (v1 v2 : Value) (W : List Int) (C : List (List Int)) (h : Prior w v1 v2 W C) (e : Nat) (he : e < 18446744073709551616) :
    Calls Try.prog 6 #[.agg #[v1, v2], .int .u64 e] w fun x w' => x = .returned (.bool true) ∧ Ext w w' := by
  have HAw : Hid (∀ w1, Calls Try.prog 26 #[] w1 fun x w' => x = .returned (.bool true) ∧ Ext w1 w') := awake24_any
  have HFe : Hid (∀ w1, Ext w w1 → Calls Try.prog 25 #[.agg #[v1, v2], .int .i64 16] w1 fun x w' => x = .returned (.bool (fewB W C 16)) ∧ Ext w1 w') := fun w1 hx => few_any w1 v1 v2 W C (h.ext hx) 16
  obtain ⟨z, hz⟩ : ∃ z, z = anyErr W C 0 e := ⟨_, rfl⟩
  obtain ⟨L, hL⟩ : ∃ x, x = exR W C e := ⟨_, rfl⟩
  have HP1 : Hid (∀ w1, Ext w w1 → Calls Try.prog 27 #[.agg #[v1, v2], .int .u64 e] w1 fun x w' => ∃ o, x = .returned (.tuple #[o, .int .i64 z]) ∧ Pris w' o W L ∧ Ext w1 w') := fun w1 hx => by
    have := Exchange_any w1 v1 v2 W C (h.ext hx) e he
    rwa [← hL, ← hz] at this
  have HP2 : Hid (∀ w1, Ext w w1 → Calls Try.prog 28 #[.agg #[v1, v2], .int .u64 e] w1 fun x w' => ∃ o, x = .returned (.tuple #[o, .int .i64 z]) ∧ Pris w' o W L ∧ Ext w1 w') := fun w1 hx => by
    have := refExchange_any w1 v1 v2 W C (h.ext hx) e he
    rwa [← any0_ev, ← hL, ← hz] at this
  have HSm : Hid (∀ w1 u1 u2 x1 x2 V D, Prior w1 u1 u2 V D → Prior w1 x1 x2 V D → Calls Try.prog 29 #[.agg #[u1, u2], .agg #[x1, x2]] w1 fun e w' => e = .returned (.bool true) ∧ Ext w1 w') := fun w1 u1 u2 x1 x2 V D ha hb => by
    have := same24_any w1 u1 u2 x1 x2 V V D D ha hb
    rwa [decide_eq_true ⟨rfl, rfl⟩] at this
  obtain ⟨q, hq⟩ : ∃ q, q = fewB W C 16 := ⟨_, rfl⟩
  rw [← hq] at HFe
  obtain ⟨⟨A, c, rfl, hs, _⟩, ⟨A2, c2, vs, rfl, hs2, _⟩⟩ := h
  have HUp := Lib.hid (cellsQ3 w (.slice A W.length c) (.slice A2 C.length c2) 45)
  have hx1 : Ext w (w.alloc (.cells #[.slice A W.length c, .slice A2 C.length c2] 45)) := (Ext.refl w).alloc _
  have CF := Lib.hid (HFe.out _ hx1)
  clear hs hs2 hz hL hq
  obtain ⟨p0, p1⟩ := HUp.out _ (Ext.refl _)
  go_enter Try.func6, Try.ntmps6
  go_wp2_with fail
  refine CF.out.mono ?_
  rintro x w2 ⟨rfl, hy2⟩
  obtain ⟨p0, p1⟩ := HUp.out _ hy2
  have hx2 := hx1.trans hy2
  cases q with
  | false =>
    go_wp2_with fail
    refine (HAw.out _).mono ?_
    rintro x w3 ⟨rfl, hy3⟩
    go_wp2
    go_ret
    exact ⟨rfl, hx2.trans hy3⟩
  | true =>
    go_wp2_with fail
    refine (HP1.out _ hx2).mono ?_
    rintro x w3 ⟨o1, rfl, hp1, hy3⟩
    obtain ⟨B1, d1, rfl, hl1, hm1⟩ := hp1.form
    have hp1 := Lib.hid hp1
    have hz3 := hy2.trans hy3
    obtain ⟨p0, p1⟩ := HUp.out _ hz3
    have hx3 := hx1.trans hz3
    go_wp2_with fail
    refine (HP2.out _ hx3).mono ?_
    rintro x w4 ⟨o2, rfl, hp2, hy4⟩
    obtain ⟨B2, d2, rfl, hl2, hm2⟩ := hp2.form
    have hp1 := Lib.hid (hp1.out.ext hy4)
    have hp2 := Lib.hid hp2
    have hx4 := hx3.trans hy4
    clear hy2 hy3 hy4 hz3 p0 p1 hx2 hx3 CF
    go_wp2
    go_loopw [38] (fun v wr => ∃ k : Nat, k ≤ L.length ∧ v = .int .i64 k ∧ Ext w4 wr) (fun v _ => L.length - (intOf v).toNat)
    case atStart => exact ⟨0, Nat.zero_le _, rfl, Ext.refl _⟩
    case round =>
      obtain ⟨k, hk, rfl, hxr⟩ := hrel
      have hx := hx4.trans hxr
      by_cases hlt : k < L.length
      · obtain ⟨ad, u1, u2, rfl, hb1, q1, q2, q3, hu⟩ := (hp1.out.ext hxr).get hlt
        obtain ⟨ad', x1, x2, rfl, hb2, r1, r2, r3, hv⟩ := (hp2.out.ext hxr).get hlt
        obtain ⟨E1, m1, g1, E2, m2, g2, rfl, rfl⟩ := prior_sl hu
        obtain ⟨E3, m3, g3, E4, m4, g4, rfl, rfl⟩ := prior_sl hv
        have CS := Lib.hid (HSm.out wr.drew _ _ _ _ _ _ (hu.ext (Ext.refl wr).drew) (hv.ext (Ext.refl wr).drew))
        clear hu hv
        go_wp2
        go_region_with (go_at_call 29; refine CS.out.mono ?_; rintro x w5 ⟨rfl, hy5⟩)
        all_goals
          have hx5 := hxr.drew.trans hy5
          go_wp2
          go_roundw
          case rel => exact ⟨k + 1, by omega, by go_num, hx5⟩
          case measure => simp [intOf]; omega
      · obtain rfl : k = L.length := by omega
        go_wp2_with fail
        refine (HAw.out _).mono ?_
        rintro x w10 ⟨rfl, hy10⟩
        go_wp2
        go_ret
        exact ⟨rfl, hx.trans hy10⟩

end Go.Proofs.Ytdlhfihddipjaab
