/-
  AgreementChecks: the walk of the law.
-/
import Derived.Test.YtdlhfihddipjaabAgX
import Derived.Test.YtdlhfihddipjaabAgM3
import Derived.Test.YtdlhfihddipjaabAgM4
import Derived.Test.YtdlhfihddipjaabAg25
namespace Go.Proofs.Ytdlhfihddipjaab
open Go.RowKit

theorem cellsQ5 (w : World) (v1 v2 : Value) (t : TypeId) : ∀ w', Ext (w.alloc (.cells #[v1, v2] t)) w' → w'.cell? ⟨w.heap.size, 0, none⟩ = some v1 ∧ w'.cell? ⟨w.heap.size, 1, none⟩ = some v2 := fun w' k => by
  obtain ⟨p0, p1⟩ := cellsP w v1 v2 t
  exact ⟨(k.cell (by simp)).trans p0, (k.cell (by simp)).trans p1⟩
theorem cellsM5 (w : World) (a b c : Value) (t : TypeId) : ∀ w', Ext (w.alloc (.cells #[a, b, c] t)) w' → w'.cell? ⟨w.heap.size, 0, none⟩ = some a ∧ w'.cell? ⟨w.heap.size, 1, none⟩ = some b ∧ w'.cell? ⟨w.heap.size, 2, none⟩ = some c := fun w' k => by
  obtain ⟨p0, p1, p2⟩ := cellsM w a b c t
  exact ⟨(k.cell (by simp)).trans p0, (k.cell (by simp)).trans p1, (k.cell (by simp)).trans p2⟩
theorem Mdl.form {w : World} {x y z : Value} {n : Int} {V : List Nat} {R : List (List Nat)} (h : Mdl w x y z n V R) : ∃ A m c A' m' c', x = .int .i64 n ∧ y = .slice A m c ∧ z = .slice A' m' c' := by
  obtain ⟨rfl, ⟨A, c, e, _⟩, ⟨A', c', _, e', _⟩⟩ := h
  exact ⟨_, _, _, _, _, _, rfl, e, e'⟩

set_option maxRecDepth 100000 in
set_option maxHeartbeats 8000000 in
theorem checks_law (w : World) (v1 v2 : Value) (W : List Int) (C : List (List Int)) (h : Prior w v1 v2 W C) (a : Int) :
    Calls Try.prog 11 #[.agg #[v1, v2], .int .i64 a] w fun x w' => x = .returned (.bool true) ∧ Ext w w' := by
  have HAw : Hid (∀ w1, Calls Try.prog 26 #[] w1 fun x w' => x = .returned (.bool true) ∧ Ext w1 w') := awake24_any
  have HFe : Hid (∀ w1, Ext w w1 → Calls Try.prog 25 #[.agg #[v1, v2], .int .i64 70] w1 fun x w' => x = .returned (.bool (fewB W C 70)) ∧ Ext w1 w') := fun w1 hx => few_any w1 v1 v2 W C (h.ext hx) 70
  obtain ⟨y, hy⟩ : ∃ y, y = agErr W C := ⟨_, rfl⟩
  obtain ⟨z, hz⟩ : ∃ z, z = commErr W C a := ⟨_, rfl⟩
  have HC1 : Hid (∀ w1, Ext w w1 → Calls Try.prog 38 #[.agg #[v1, v2], .int .i64 a] w1 fun x w' => ∃ c : Nat, x = .returned (.tuple #[.int .u64 c, .int .i64 z]) ∧ CommIs W C a c ∧ Ext w1 w') := fun w1 hx => by
    have := Common_any w1 v1 v2 W C (h.ext hx) a
    rwa [← hz] at this
  have HC2 : Hid (∀ w1, Ext w w1 → Calls Try.prog 41 #[.agg #[v1, v2], .int .i64 a] w1 fun x w' => ∃ c : Nat, x = .returned (.tuple #[.int .u64 c, .int .i64 z]) ∧ CommIs W C a c ∧ Ext w1 w') := fun w1 hx => by
    have := refCommon_any w1 v1 v2 W C (h.ext hx) a
    rwa [← hz] at this
  obtain ⟨N, hN⟩ : ∃ x, x = mdN W C := ⟨_, rfl⟩
  obtain ⟨R, hR⟩ : ∃ x, x = mdR W C := ⟨_, rfl⟩
  have HM1 : Hid (∀ w1, Ext w w1 → Calls Try.prog 42 #[.agg #[v1, v2]] w1 fun x w' => ∃ o1 o2 o3, x = .returned (.tuple #[.agg #[o1, o2, o3], .int .i64 y]) ∧ Mdl w' o1 o2 o3 N [] R ∧ Ext w1 w') := fun w1 hx => by
    have := Model_any w1 v1 v2 W C (h.ext hx)
    rwa [← hy, ← hN, ← hR] at this
  have HM2 : Hid (∀ w1, Ext w w1 → Calls Try.prog 43 #[.agg #[v1, v2]] w1 fun x w' => ∃ o1 o2 o3, x = .returned (.tuple #[.agg #[o1, o2, o3], .int .i64 y]) ∧ Mdl w' o1 o2 o3 N [] R ∧ Ext w1 w') := fun w1 hx => by
    have := refModel_any w1 v1 v2 W C (h.ext hx)
    rwa [← hy, ← hN, ← hR] at this
  have HK1 : Hid (∀ w1, Ext w w1 → Calls Try.prog 30 #[.agg #[v1, v2]] w1 fun x w' => x = .returned (.int .i64 y) ∧ Ext w1 w') := fun w1 hx => by
    have := agCheck_any w1 v1 v2 W C (h.ext hx)
    rwa [← hy] at this
  have HK2 : Hid (∀ w1, Ext w w1 → Calls Try.prog 44 #[.agg #[v1, v2]] w1 fun x w' => x = .returned (.int .i64 y) ∧ Ext w1 w') := fun w1 hx => by
    have := refAgCheck_any w1 v1 v2 W C (h.ext hx)
    rwa [← hy] at this
  have HSm : Hid (∀ w1 o1 o2 o3 q1 q2 q3, Mdl w1 o1 o2 o3 N [] R → Mdl w1 q1 q2 q3 N [] R → Calls Try.prog 45 #[.agg #[o1, o2, o3], .agg #[q1, q2, q3]] w1 fun e w' => e = .returned (.bool true) ∧ Ext w1 w') := fun w1 o1 o2 o3 q1 q2 q3 ha hb => same13_yes w1 o1 o2 o3 q1 q2 q3 N [] R ha hb
  obtain ⟨q, hq⟩ : ∃ q, q = fewB W C 70 := ⟨_, rfl⟩
  rw [← hq] at HFe
  obtain ⟨⟨A, c, rfl, hs, _⟩, ⟨A2, c2, vs, rfl, hs2, _⟩⟩ := h
  have HUp := Lib.hid (cellsQ5 w (.slice A W.length c) (.slice A2 C.length c2) 45)
  have hx1 : Ext w (w.alloc (.cells #[.slice A W.length c, .slice A2 C.length c2] 45)) := (Ext.refl w).alloc _
  have CF := Lib.hid (HFe.out _ hx1)
  clear hs hs2 hz hq hy hN hR
  obtain ⟨p0, p1⟩ := HUp.out _ (Ext.refl _)
  go_enter Try.func11, Try.ntmps11
  go_wp2_with fail
  refine CF.out.mono ?_
  rintro x w2 ⟨rfl, hy2⟩
  obtain ⟨p0, p1⟩ := HUp.out _ hy2
  have hx2 := hx1.trans hy2
  cases q with
  | false =>
    go_wp2_with fail
    refine (HAw.out _).mono ?_
    rintro x w3 ⟨rfl, hy3⟩
    go_wp2
    go_ret
    exact ⟨rfl, hx2.trans hy3⟩
  | true =>
    go_wp2_with fail
    refine (HC1.out _ hx2).mono ?_
    rintro x w3 ⟨cc, rfl, hc1, hy3⟩
    have hc1 := Lib.hid hc1
    have hz3 := hy2.trans hy3
    obtain ⟨p0, p1⟩ := HUp.out _ hz3
    have hx3 := hx1.trans hz3
    go_wp2_with fail
    refine (HC2.out _ hx3).mono ?_
    rintro x w4 ⟨dd, rfl, hc2, hy4⟩
    obtain rfl : cc = dd := commIs_unique hc1.out hc2
    have hz4 := hz3.trans hy4
    obtain ⟨p0, p1⟩ := HUp.out _ hz4
    have hx4 := hx1.trans hz4
    clear hc1 hc2
    go_wp2_with fail
    refine (HM1.out _ hx4).mono ?_
    rintro x w5 ⟨o1, o2, o3, rfl, hm1, hy5⟩
    obtain ⟨B1, n1, d1, B2, n2, d2, rfl, rfl, rfl⟩ := hm1.form
    have hm1 := Lib.hid hm1
    have M5 := Lib.hid (cellsM5 w5 (.int .i64 N) (.slice B1 n1 d1) (.slice B2 n2 d2) 71)
    have hz5 := (hz4.trans hy5).alloc (.cells #[.int .i64 N, .slice B1 n1 d1, .slice B2 n2 d2] 71)
    obtain ⟨p0, p1⟩ := HUp.out _ hz5
    have hx5 := hx1.trans hz5
    clear hy5
    go_wp2_with fail
    refine (HM2.out _ hx5).mono ?_
    rintro x w6 ⟨q1, q2, q3, rfl, hm2, hy6⟩
    obtain ⟨B3, n3, d3, B4, n4, d4, rfl, rfl, rfl⟩ := hm2.form
    have hm2 := Lib.hid hm2
    have M6 := Lib.hid (cellsM5 w6 (.int .i64 N) (.slice B3 n3 d3) (.slice B4 n4 d4) 71)
    have hy56 := hy6.alloc (.cells #[.int .i64 N, .slice B3 n3 d3, .slice B4 n4 d4] 71)
    have hz6 := hz5.trans hy56
    obtain ⟨p0, p1⟩ := HUp.out _ hz6
    have hx6 := hx1.trans hz6
    clear hy6
    obtain ⟨W6, hW6⟩ : ∃ W6, W6 = w6.alloc (.cells #[.int .i64 N, .slice B3 n3 d3, .slice B4 n4 d4] 71) := ⟨_, rfl⟩
    go_wp2
    rw [← hW6] at hy56 hz6 hx6 p0 p1 ⊢
    have M6 : Hid (∀ w', Ext W6 w' → w'.cell? ⟨w6.heap.size, 0, none⟩ = some (.int .i64 N) ∧ w'.cell? ⟨w6.heap.size, 1, none⟩ = some (.slice B3 n3 d3) ∧ w'.cell? ⟨w6.heap.size, 2, none⟩ = some (.slice B4 n4 d4)) := fun w' k => M6.out w' (by rw [← hW6]; exact k)
    have s6 : W6.heap.size = w6.heap.size + 1 := by rw [hW6]; simp
    have HX6 : Hid (Ext w6 W6) := by show Ext w6 W6; rw [hW6]; exact (Ext.refl w6).alloc _
    obtain ⟨f0, f1, f2⟩ := M5.out _ hy56
    obtain ⟨g0, g1, g2⟩ := M6.out _ (Ext.refl _)
    have lw : w.heap.size < W6.heap.size := Nat.lt_of_lt_of_le (by simp) hz6.size
    have l5 : w5.heap.size < W6.heap.size := Nat.lt_of_lt_of_le (by simp) hy56.size
    have l6 : w6.heap.size < W6.heap.size := by omega
    have CS : Hid (∀ w', Ext W6 w' → Calls Try.prog 45 #[.agg #[.int .i64 N, .slice B1 n1 d1, .slice B2 n2 d2], .agg #[.int .i64 N, .slice B3 n3 d3, .slice B4 n4 d4]] w' fun e w'' => e = .returned (.bool true) ∧ Ext w' w'') := fun w' k =>
      HSm.out w' _ _ _ _ _ _ ((hm1.out.ext ((Ext.refl w5).alloc _)).ext (hy56.trans k)) (hm2.out.ext (HX6.out.trans k))
    have HKp : Hid (∀ w' w'' : World, (w'.cell? ⟨w.heap.size, 0, none⟩ = some (.slice A W.length c) ∧ w'.cell? ⟨w.heap.size, 1, none⟩ = some (.slice A2 C.length c2) ∧ w'.cell? ⟨w5.heap.size, 0, none⟩ = some (.int .i64 N) ∧ w'.cell? ⟨w5.heap.size, 1, none⟩ = some (.slice B1 n1 d1) ∧ w'.cell? ⟨w5.heap.size, 2, none⟩ = some (.slice B2 n2 d2) ∧ w'.cell? ⟨w6.heap.size, 0, none⟩ = some (.int .i64 N) ∧ w'.cell? ⟨w6.heap.size, 1, none⟩ = some (.slice B3 n3 d3) ∧ w'.cell? ⟨w6.heap.size, 2, none⟩ = some (.slice B4 n4 d4) ∧ Ext W6 w') → Ext w' w'' → (w''.cell? ⟨w.heap.size, 0, none⟩ = some (.slice A W.length c) ∧ w''.cell? ⟨w.heap.size, 1, none⟩ = some (.slice A2 C.length c2) ∧ w''.cell? ⟨w5.heap.size, 0, none⟩ = some (.int .i64 N) ∧ w''.cell? ⟨w5.heap.size, 1, none⟩ = some (.slice B1 n1 d1) ∧ w''.cell? ⟨w5.heap.size, 2, none⟩ = some (.slice B2 n2 d2) ∧ w''.cell? ⟨w6.heap.size, 0, none⟩ = some (.int .i64 N) ∧ w''.cell? ⟨w6.heap.size, 1, none⟩ = some (.slice B3 n3 d3) ∧ w''.cell? ⟨w6.heap.size, 2, none⟩ = some (.slice B4 n4 d4) ∧ Ext W6 w'')) := fun w' w'' ⟨c0, c1, c2, c3, c4, c5, c6, c7, k0⟩ kk => by
      have l2 := k0.size
      exact ⟨(kk.cell (show w.heap.size < _ by omega)).trans c0, (kk.cell (show w.heap.size < _ by omega)).trans c1, (kk.cell (show w5.heap.size < _ by omega)).trans c2, (kk.cell (show w5.heap.size < _ by omega)).trans c3, (kk.cell (show w5.heap.size < _ by omega)).trans c4, (kk.cell (show w6.heap.size < _ by omega)).trans c5, (kk.cell (show w6.heap.size < _ by omega)).trans c6, (kk.cell (show w6.heap.size < _ by omega)).trans c7, k0.trans kk⟩
    have HX := Lib.hid hx6
    clear hm1 hm2 M5 M6 hy2 hx2 hx3 hx4 hx5 hz3 hz4 hz5 hz6 hy56 hW6 hx6
    go_region_held3 (fun w' : World => w'.cell? ⟨w.heap.size, 0, none⟩ = some (.slice A W.length c) ∧ w'.cell? ⟨w.heap.size, 1, none⟩ = some (.slice A2 C.length c2) ∧ w'.cell? ⟨w5.heap.size, 0, none⟩ = some (.int .i64 N) ∧ w'.cell? ⟨w5.heap.size, 1, none⟩ = some (.slice B1 n1 d1) ∧ w'.cell? ⟨w5.heap.size, 2, none⟩ = some (.slice B2 n2 d2) ∧ w'.cell? ⟨w6.heap.size, 0, none⟩ = some (.int .i64 N) ∧ w'.cell? ⟨w6.heap.size, 1, none⟩ = some (.slice B3 n3 d3) ∧ w'.cell? ⟨w6.heap.size, 2, none⟩ = some (.slice B4 n4 d4) ∧ Ext W6 w') (first | exact ⟨p0, p1, f0, f1, f2, g0, g1, g2, (Ext.refl _).drew⟩ | (go_split_ands; refine HKp.out _ _ ⟨?_, ?_, ?_, ?_, ?_, ?_, ?_, ?_, ?_⟩ hyA <;> assumption) | (go_split_ands; refine HKp.out _ _ ⟨?_, ?_, ?_, ?_, ?_, ?_, ?_, ?_, ?_⟩ hyB <;> assumption) | (go_split_ands; refine HKp.out _ _ ⟨?_, ?_, ?_, ?_, ?_, ?_, ?_, ?_, ?_⟩ hyC <;> assumption) | (go_split_ands; refine HKp.out _ _ ⟨?_, ?_, ?_, ?_, ?_, ?_, ?_, ?_, ?_⟩ hyD <;> assumption) | assumption) (first | (go_at_call 30; refine (HK1.out _ (HX.out.trans (by go_split_ands; assumption))).mono ?_; rintro x wA ⟨rfl, hyA⟩) | (go_at_call 44; refine (HK2.out _ (HX.out.trans (by go_split_ands; assumption))).mono ?_; rintro x wB ⟨rfl, hyB⟩) | (go_at_call 45; refine (CS.out _ (by go_split_ands; assumption)).mono ?_; rintro x wC ⟨rfl, hyC⟩) | (go_at_call 26; refine (HAw.out _).mono ?_; rintro x wD ⟨rfl, hyD⟩))
    all_goals
      go_split_ands
      go_wp2
      go_ret
      exact ⟨rfl, HX.out.trans (by assumption)⟩

end Go.Proofs.Ytdlhfihddipjaab
