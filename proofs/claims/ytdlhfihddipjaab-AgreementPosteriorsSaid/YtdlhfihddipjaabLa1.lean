/-
  AgreementPosteriors: the walk of the law.
-/
import Derived.Test.YtdlhfihddipjaabAgX
import Derived.Test.YtdlhfihddipjaabAg8
import Derived.Test.YtdlhfihddipjaabAg9r
import Derived.Test.YtdlhfihddipjaabArr
namespace Go.Proofs.Ytdlhfihddipjaab
open Go.RowKit

theorem cellsQ (w : World) (v1 v2 x y : Value) (t t' : TypeId) : ∀ w', Ext ((w.alloc (.cells #[v1, v2] t)).alloc (.cells #[x, y] t')) w' →
    w'.cell? ⟨w.heap.size, 0, none⟩ = some v1 ∧ w'.cell? ⟨w.heap.size, 1, none⟩ = some v2 ∧ w'.cell? ⟨w.heap.size + 1, 0, none⟩ = some x ∧ w'.cell? ⟨w.heap.size + 1, 1, none⟩ = some y := fun w' k => by
  obtain ⟨p0, p1⟩ := cellsP w v1 v2 t
  obtain ⟨r0, r1⟩ := cellsP (w.alloc (.cells #[v1, v2] t)) x y t'
  rw [show (w.alloc (.cells #[v1, v2] t)).heap.size = w.heap.size + 1 from by simp] at r0 r1
  have up := fun (p : Addr) (hp : p.block = w.heap.size) => ((Ext.refl (w.alloc (.cells #[v1, v2] t))).alloc (.cells #[x, y] t')).cell (p := p) (by rw [hp]; simp)
  exact ⟨(k.cell (by simp; omega)).trans ((up ⟨_, 0, none⟩ rfl).trans p0), (k.cell (by simp; omega)).trans ((up ⟨_, 1, none⟩ rfl).trans p1), (k.cell (by simp)).trans r0, (k.cell (by simp)).trans r1⟩

set_option maxRecDepth 100000 in
set_option maxHeartbeats 8000000 in
theorem posteriors_law (w : World) (v1 v2 : Value) (W : List Int) (C : List (List Int)) (h : Prior w v1 v2 W C) (a b : Int) (e : Nat) (he : e < 18446744073709551616) :
    Calls Try.prog 8 #[.agg #[v1, v2], .agg #[.int .i64 a, .int .i64 b], .int .u64 e] w fun x w' => x = .returned (.bool true) ∧ Ext w w' := by
  have HAw : Hid (∀ w1, Calls Try.prog 26 #[] w1 fun x w' => x = .returned (.bool true) ∧ Ext w1 w') := awake24_any
  have HFe : Hid (∀ w1, Ext w w1 → Calls Try.prog 25 #[.agg #[v1, v2], .int .i64 20] w1 fun x w' => x = .returned (.bool (fewB W C 20)) ∧ Ext w1 w') := fun w1 hx => few_any w1 v1 v2 W C (h.ext hx) 20
  obtain ⟨F, hF⟩ : ∃ F, F = (postR W C a b e).1 := ⟨_, rfl⟩
  obtain ⟨f1, f2⟩ := F
  obtain ⟨y, hy⟩ : ∃ y, y = (postR W C a b e).2 := ⟨_, rfl⟩
  have HP1 : Hid (∀ w1, Ext w w1 → Calls Try.prog 32 #[.agg #[v1, v2], .int .i64 a, .int .i64 b, .int .u64 e] w1 fun x w' => x = .returned (.tuple #[.agg #[.int .i64 (f1 : Nat), .int .i64 (f2 : Nat)], .int .i64 y]) ∧ Ext w1 w') := fun w1 hx => by
    have := Posterior_any w1 v1 v2 W C (h.ext hx) a b e he
    rwa [← hF, ← hy] at this
  have HP2 : Hid (∀ w1, Ext w w1 → Calls Try.prog 33 #[.agg #[v1, v2], .int .i64 a, .int .i64 b, .int .u64 e] w1 fun x w' => x = .returned (.tuple #[.agg #[.int .i64 (f1 : Nat), .int .i64 (f2 : Nat)], .int .i64 y]) ∧ Ext w1 w') := fun w1 hx => by
    have := refPosteriorR_any w1 v1 v2 W C (h.ext hx) a b e he
    rwa [← hF, ← hy] at this
  obtain ⟨L, hL⟩ : ∃ L, L = (postsR W C a e).1 := ⟨_, rfl⟩
  obtain ⟨z, hz⟩ : ∃ z, z = (postsR W C a e).2 := ⟨_, rfl⟩
  have HQ1 : Hid (∀ w1, Ext w w1 → Calls Try.prog 34 #[.agg #[v1, v2], .int .i64 a, .int .u64 e] w1 fun x w' => ∃ v', x = .returned (.tuple #[v', .int .i64 z]) ∧ Fracs w' v' L ∧ Ext w1 w') := fun w1 hx => by
    have := Posteriors_any w1 v1 v2 W C (h.ext hx) a e he
    rwa [← hL, ← hz] at this
  have HQ2 : Hid (∀ w1, Ext w w1 → Calls Try.prog 35 #[.agg #[v1, v2], .int .i64 a, .int .u64 e] w1 fun x w' => ∃ v', x = .returned (.tuple #[v', .int .i64 z]) ∧ Fracs w' v' L ∧ Ext w1 w') := fun w1 hx => by
    have := refPosteriors_any w1 v1 v2 W C (h.ext hx) a e he
    rwa [← hL, ← hz] at this
  obtain ⟨t, ht⟩ : ∃ t, t = (agrR W C b e).1 := ⟨_, rfl⟩
  obtain ⟨u, hu⟩ : ∃ u, u = (agrR W C b e).2 := ⟨_, rfl⟩
  have HR1 : Hid (∀ w1, Ext w w1 → Calls Try.prog 31 #[.agg #[v1, v2], .int .i64 b, .int .u64 e] w1 fun x w' => x = .returned (.tuple #[.bool t, .int .i64 u]) ∧ Ext w1 w') := fun w1 hx => by
    have := Agree_any w1 v1 v2 W C (h.ext hx) b e he
    rwa [← ht, ← hu] at this
  have HR2 : Hid (∀ w1, Ext w w1 → Calls Try.prog 36 #[.agg #[v1, v2], .int .i64 b, .int .u64 e] w1 fun x w' => x = .returned (.tuple #[.bool t, .int .i64 u]) ∧ Ext w1 w') := fun w1 hx => by
    have := refAgree_any w1 v1 v2 W C (h.ext hx) b e he
    rwa [← ht, ← hu] at this
  have HSa : Hid (∀ w1 v v2, Fracs w1 v L → Fracs w1 v2 L → Calls Try.prog 37 #[v, v2] w1 fun x w' => x = .returned (.bool true) ∧ Ext w1 w') := fun w1 v v2 ha hb => by
    have := SameFractions_any w1 v v2 L L ha hb
    rwa [decide_eq_true rfl] at this
  obtain ⟨q, hq⟩ : ∃ q, q = fewB W C 20 := ⟨_, rfl⟩
  rw [← hq] at HFe
  obtain ⟨⟨A, c, rfl, hs, _⟩, ⟨A2, c2, vs, rfl, hs2, _⟩⟩ := h
  have HUp := Lib.hid (cellsQ w (.slice A W.length c) (.slice A2 C.length c2) (.int .i64 a) (.int .i64 b) 45 54)
  have hx1 : Ext w ((w.alloc (.cells #[.slice A W.length c, .slice A2 C.length c2] 45)).alloc (.cells #[.int .i64 a, .int .i64 b] 54)) := ((Ext.refl w).alloc _).alloc _
  obtain ⟨W1, hW1⟩ : ∃ W1, W1 = (w.alloc (.cells #[.slice A W.length c, .slice A2 C.length c2] 45)).alloc (.cells #[.int .i64 a, .int .i64 b] 54) := ⟨_, rfl⟩
  have CF := Lib.hid (HFe.out _ hx1)
  rw [← hW1] at HUp hx1
  have HX1 := Lib.hid hx1
  have HW1 := Lib.hid hW1
  clear hs hs2 hF hy hL hz ht hu hq hW1 hx1
  go_enter Try.func8, Try.ntmps8
  go_wp2_with fail
  refine CF.out.mono ?_
  rintro x w2 ⟨rfl, hy2⟩
  rw [← HW1.out] at hy2
  obtain ⟨p0, p1, r0, r1⟩ := HUp.out _ hy2
  have hx2 := HX1.out.trans hy2
  cases q with
  | false =>
    go_wp2_with fail
    refine (HAw.out _).mono ?_
    rintro x w3 ⟨rfl, hy3⟩
    go_wp2
    go_ret
    exact ⟨rfl, hx2.trans hy3⟩
  | true =>
    go_wp2_with fail
    refine (HP1.out _ hx2).mono ?_
    rintro x w3 ⟨rfl, hy3⟩
    have hz3 := (hy2.trans hy3).alloc (.cells #[.int .i64 (f1 : Nat), .int .i64 (f2 : Nat)] 56)
    obtain ⟨p0, p1, r0, r1⟩ := HUp.out _ hz3
    have hx3 := HX1.out.trans hz3
    have a3 := cellsP w3 (.int .i64 (f1 : Nat)) (.int .i64 (f2 : Nat)) 56
    have A3 := Lib.hid a3
    clear hy3 a3
    go_wp2_with fail
    refine (HP2.out _ hx3).mono ?_
    rintro x w4 ⟨rfl, hy4⟩
    have hz4 := (hz3.trans hy4).alloc (.cells #[.int .i64 (f1 : Nat), .int .i64 (f2 : Nat)] 56)
    obtain ⟨p0, p1, r0, r1⟩ := HUp.out _ hz4
    have hx4 := HX1.out.trans hz4
    have B4 := Lib.hid (cellsP w4 (.int .i64 (f1 : Nat)) (.int .i64 (f2 : Nat)) 56)
    have Y34 := Lib.hid (hy4.alloc (.cells #[.int .i64 (f1 : Nat), .int .i64 (f2 : Nat)] 56))
    clear hy4
    go_wp2_with fail
    refine (HQ1.out _ hx4).mono ?_
    rintro x w5 ⟨vf, rfl, hf1, hy5⟩
    have hz5 := hz4.trans hy5
    obtain ⟨p0, p1, r0, r1⟩ := HUp.out _ hz5
    have hx5 := HX1.out.trans hz5
    have hf1 := Lib.hid hf1
    go_wp2_with fail
    refine (HQ2.out _ hx5).mono ?_
    rintro x w6 ⟨vf2, rfl, hf2, hy6⟩
    have hz6 := hz5.trans hy6
    obtain ⟨p0, p1, r0, r1⟩ := HUp.out _ hz6
    have hx6 := HX1.out.trans hz6
    have hf2 := Lib.hid hf2
    go_wp2_with fail
    refine (HR1.out _ hx6).mono ?_
    rintro x w7 ⟨rfl, hy7⟩
    have hz7 := hz6.trans hy7
    obtain ⟨p0, p1, r0, r1⟩ := HUp.out _ hz7
    have hx7 := HX1.out.trans hz7
    go_wp2_with fail
    refine (HR2.out _ hx7).mono ?_
    rintro x w8 ⟨rfl, hy8⟩
    have hx8 := hx7.trans hy8
    have y48 := (hy5.trans hy6).trans (hy7.trans hy8)
    have y58 := hy6.trans (hy7.trans hy8)
    have c40 := (y48.cell (show w4.heap.size < _ by simp)).trans B4.out.1
    have c41 := (y48.cell (show w4.heap.size < _ by simp)).trans B4.out.2
    have y38 := Y34.out.trans y48
    have c30 := (y38.cell (show w3.heap.size < _ by simp)).trans A3.out.1
    have c31 := (y38.cell (show w3.heap.size < _ by simp)).trans A3.out.2
    have hf1 := Lib.hid (hf1.out.ext y58)
    have hf2 := Lib.hid (hf2.out.ext (hy7.trans hy8))
    clear p0 p1 r0 r1 hy5 hy6 hy7 hy8 y48 y58 y38
    go_wp2_with fail
    refine (HSa.out _ _ _ hf1.out hf2.out).mono ?_
    rintro x w9 ⟨rfl, hy9⟩
    have hx9 := hx8.trans hy9
    go_wp2_with fail
    refine (HAw.out _).mono ?_
    rintro x w10 ⟨rfl, hy10⟩
    go_wp2
    go_ret
    exact ⟨rfl, hx9.trans hy10⟩

end Go.Proofs.Ytdlhfihddipjaab
