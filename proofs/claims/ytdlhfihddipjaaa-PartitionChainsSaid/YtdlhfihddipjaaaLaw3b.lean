/-
  The law PartitionOrder of the package wittinglaw03.
-/
import Derived.Test.YtdlhfihddipjaaaLaw3
namespace Go.Proofs.Ytdlhfihddipjaaa
open Go.RowKit

theorem run_min3n {P : Program} (ts : Array TypeId) (t : TypeId) (a b d n : Nat) (D : Int) (hD : D = d) (hn : n = min (min a b) d) (w : World) :
    (Builtin.min_ ts t #[.int .i64 a, .int .i64 b, .int .i64 D]).run P w = .ok (.int .i64 n) w := by
  have e : ∀ x y : Nat, Builtin.min2 (.int .i64 x) (.int .i64 y) = pure (.int .i64 ((min x y : Nat) : Int)) := fun x y => by
    have : (if (y : Int) < (x : Int) then (y : Int) else (x : Int)) = ((min x y : Nat) : Int) := by split <;> omega
    unfold Builtin.min2
    dsimp only
    rw [this]
  subst hD
  have : min (min a b) d = n := by omega
  simp only [Builtin.min_, List.foldlM, e, pure_bind, this]
  rfl

/-- The minimum of two lengths and a bound, as the walk spells it. -/
theorem min3_if (a b d n : Nat) (D : Int) (hD : D = d) (hn : n = min (min a b) d) :
    (if D < (if b < a then (b : Int) else a) then D else (if b < a then (b : Int) else a)) = (n : Int) := by
  subst hD
  repeat' split
  all_goals omega

theorem refinesP_yes (n : Nat) (hn : n ≤ 64) (w : World) (v1 v2 : Value) (a b : List Int) (ha : PInts n w v1 a) (hb : PInts n w v2 b) (h : Refines a b) :
    Calls Try.prog 22 #[v1, v2] w fun e w' => e = .returned (.bool true) ∧ Ext w w' :=
  refines_yes w v1 v2 a b ha.1 hb.1 (by rw [ha.2.1, hb.2.1]) (by rw [ha.2.1]; exact hn) ha.2.2 hb.2.2 h
theorem refinesP_no (n : Nat) (hn : n ≤ 64) (w : World) (v1 v2 : Value) (a b : List Int) (ha : PInts n w v1 a) (hb : PInts n w v2 b) (h : ¬ Refines a b) :
    Calls Try.prog 22 #[v1, v2] w fun e w' => e = .returned (.bool false) ∧ Ext w w' :=
  refines_no w v1 v2 a b ha.1 hb.1 (by rw [ha.2.1, hb.2.1]) (by rw [ha.2.1]; exact hn) ha.2.2 hb.2.2 h
theorem equalP_no (n : Nat) (w : World) (v1 v2 : Value) (a b : List Int) (ha : PInts n w v1 a) (hb : PInts n w v2 b) (e : a ≠ b) :
    Calls Try.prog 20 #[v1, v2] w fun e w' => e = .returned (.bool false) ∧ Ext w w' :=
  equal_no w v1 v2 a b ha.1 hb.1 e

set_option maxRecDepth 100000 in
set_option maxHeartbeats 8000000 in
theorem order_any (w : World) (v1 v2 : Value) (x y : List Int) (h1 : Ints .i64 w v1 x) (h2 : Ints .i64 w v2 y) :
    Calls Try.prog 4 #[v1, v2] w fun e w' => e = .returned (.bool true) ∧ Ext w w' := by
  obtain ⟨A1, c1, rfl, hs1, hf1⟩ := h1
  obtain ⟨A2, c2, rfl, hs2, hf2⟩ := h2
  have l1 := hs1.le
  have l2 := hs2.le
  have m1 := hs1.cap
  have m2 := hs2.cap
  obtain ⟨n, hn⟩ : ∃ n, n = min (min x.length y.length) 24 := ⟨_, rfl⟩
  have hmin := min3_if x.length y.length 24 n 24 rfl hn
  have n1 : n ≤ x.length := by omega
  have n2 : n ≤ y.length := by omega
  have n4 : n ≤ 24 := by omega
  clear hn
  have k1 : Ints .i64 w (.slice A1 n c1) (x.take n) := Ints.take ⟨A1, c1, rfl, hs1, hf1⟩ n1
  have k2 : Ints .i64 w (.slice A2 n c2) (y.take n) := Ints.take ⟨A2, c2, rfl, hs2, hf2⟩ n2
  have K2 := Lib.hid k2
  clear k2 hs1 hs2 hf1 hf2
  go_enter Try.func4, Try.ntmps4
  go_wp2_with fail
  refine (ofP n (by omega) _ _ _ k1 (by simp; omega)).mono ?_
  rintro e w1 ⟨va, a, rfl, ha, hX⟩
  have k2 := K2.out.ext hX
  clear K2 k1
  go_wp2_with fail
  refine (ofP n (by omega) _ _ _ k2 (by simp; omega)).mono ?_
  rintro e w2 ⟨vb, b, rfl, hb, hy⟩
  have hX := hX.trans hy
  have ha := ha.ext hy
  clear k2 hy l1 l2 m1 m2 n1 n2
  have hn : n ≤ 64 := by omega
  go_wp2_with fail
  refine (meetP n hn _ _ _ _ _ ha hb).mono ?_
  rintro e w3 ⟨vm, m, rfl, hm, sm, hy⟩
  have hX := hX.trans hy
  have ha := ha.ext hy
  have hb := hb.ext hy
  clear hy
  go_wp2_with fail
  refine (joinP n hn _ _ _ _ _ ha hb).mono ?_
  rintro e w4 ⟨vj, j, rfl, hj, sj, hy⟩
  have hX := hX.trans hy
  have ha := ha.ext hy
  have hb := hb.ext hy
  have hm := hm.ext hy
  clear hy
  have om := order_meet ha.2 sm
  have oj := order_join hb.2 sj
  have rma := Lib.hid sm.l
  have rmb := Lib.hid sm.r
  have raj := Lib.hid sj.l
  have rbj := Lib.hid sj.r
  clear sm sj
  go_wp2_with fail
  by_cases hr : Refines a b
  · have em := Lib.hid (om.1 hr)
    have ej := Lib.hid (oj.1 hr)
    clear om oj
    refine (refinesP_yes n hn _ _ _ _ _ ha hb hr).mono ?_
    rintro e w5 ⟨rfl, hy⟩
    have hX := hX.trans hy
    have ha := ha.ext hy
    have hb := hb.ext hy
    have hm := hm.ext hy
    have hj := hj.ext hy
    clear hy
    go_wp2_with fail
    refine (equalP n _ _ _ _ _ hm ha em.out).mono ?_
    rintro e w6 ⟨rfl, hy⟩
    have hX := hX.trans hy
    have ha := ha.ext hy
    have hb := hb.ext hy
    have hm := hm.ext hy
    have hj := hj.ext hy
    clear hy
    go_wp2_with fail
    refine (equalP n _ _ _ _ _ hj hb ej.out).mono ?_
    rintro e w7 ⟨rfl, hy⟩
    have hX := hX.trans hy
    have ha := ha.ext hy
    have hb := hb.ext hy
    have hm := hm.ext hy
    have hj := hj.ext hy
    clear hy
    go_wp2_with fail
    refine (refinesP_yes n hn _ _ _ _ _ hm ha rma.out).mono ?_
    rintro e w8 ⟨rfl, hy⟩
    have hX := hX.trans hy
    have ha := ha.ext hy
    have hb := hb.ext hy
    have hm := hm.ext hy
    have hj := hj.ext hy
    clear hy
    go_wp2_with fail
    refine (refinesP_yes n hn _ _ _ _ _ hm hb rmb.out).mono ?_
    rintro e w9 ⟨rfl, hy⟩
    have hX := hX.trans hy
    have ha := ha.ext hy
    have hb := hb.ext hy
    have hm := hm.ext hy
    have hj := hj.ext hy
    clear hy
    go_wp2_with fail
    refine (refinesP_yes n hn _ _ _ _ _ ha hj raj.out).mono ?_
    rintro e w10 ⟨rfl, hy⟩
    have hX := hX.trans hy
    have ha := ha.ext hy
    have hb := hb.ext hy
    have hm := hm.ext hy
    have hj := hj.ext hy
    clear hy
    go_wp2_with fail
    refine (refinesP_yes n hn _ _ _ _ _ hb hj rbj.out).mono ?_
    rintro e w11 ⟨rfl, hy⟩
    have hX := hX.trans hy
    have ha := ha.ext hy
    have hb := hb.ext hy
    have hm := hm.ext hy
    have hj := hj.ext hy
    clear hy
    go_wp2_with fail
    refine (awake3 _).mono ?_
    rintro e w99 ⟨rfl, hy⟩
    have hX := hX.trans hy
    clear hy
    go_wp2_with fail
    go_ret
    exact ⟨rfl, hX⟩
  · have em := Lib.hid (fun e => hr (om.2 e) : ¬ m = a)
    have ej := Lib.hid (fun e => hr (oj.2 e) : ¬ j = b)
    clear om oj
    refine (refinesP_no n hn _ _ _ _ _ ha hb hr).mono ?_
    rintro e w5 ⟨rfl, hy⟩
    have hX := hX.trans hy
    have ha := ha.ext hy
    have hb := hb.ext hy
    have hm := hm.ext hy
    have hj := hj.ext hy
    clear hy
    go_wp2_with fail
    refine (equalP_no n _ _ _ _ _ hm ha em.out).mono ?_
    rintro e w6 ⟨rfl, hy⟩
    have hX := hX.trans hy
    have ha := ha.ext hy
    have hb := hb.ext hy
    have hm := hm.ext hy
    have hj := hj.ext hy
    clear hy
    go_wp2_with fail
    refine (equalP_no n _ _ _ _ _ hj hb ej.out).mono ?_
    rintro e w7 ⟨rfl, hy⟩
    have hX := hX.trans hy
    have ha := ha.ext hy
    have hb := hb.ext hy
    have hm := hm.ext hy
    have hj := hj.ext hy
    clear hy
    go_wp2_with fail
    refine (refinesP_yes n hn _ _ _ _ _ hm ha rma.out).mono ?_
    rintro e w8 ⟨rfl, hy⟩
    have hX := hX.trans hy
    have ha := ha.ext hy
    have hb := hb.ext hy
    have hm := hm.ext hy
    have hj := hj.ext hy
    clear hy
    go_wp2_with fail
    refine (refinesP_yes n hn _ _ _ _ _ hm hb rmb.out).mono ?_
    rintro e w9 ⟨rfl, hy⟩
    have hX := hX.trans hy
    have ha := ha.ext hy
    have hb := hb.ext hy
    have hm := hm.ext hy
    have hj := hj.ext hy
    clear hy
    go_wp2_with fail
    refine (refinesP_yes n hn _ _ _ _ _ ha hj raj.out).mono ?_
    rintro e w10 ⟨rfl, hy⟩
    have hX := hX.trans hy
    have ha := ha.ext hy
    have hb := hb.ext hy
    have hm := hm.ext hy
    have hj := hj.ext hy
    clear hy
    go_wp2_with fail
    refine (refinesP_yes n hn _ _ _ _ _ hb hj rbj.out).mono ?_
    rintro e w11 ⟨rfl, hy⟩
    have hX := hX.trans hy
    have ha := ha.ext hy
    have hb := hb.ext hy
    have hm := hm.ext hy
    have hj := hj.ext hy
    clear hy
    go_wp2_with fail
    refine (awake3 _).mono ?_
    rintro e w99 ⟨rfl, hy⟩
    have hX := hX.trans hy
    clear hy
    go_wp2_with fail
    go_ret
    exact ⟨rfl, hX⟩

end Go.Proofs.Ytdlhfihddipjaaa
