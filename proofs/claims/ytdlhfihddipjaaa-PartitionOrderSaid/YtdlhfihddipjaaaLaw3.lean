/-
  The laws of the package wittinglaw03: PartitionLattice, PartitionOrder.
-/
import Derived.Test.YtdlhfihddipjaaaAwake3
namespace Go.Proofs.Ytdlhfihddipjaaa
open Go.RowKit

theorem run_min4 {P : Program} (ts : Array TypeId) (t : TypeId) (a b c d n : Nat) (D : Int) (hD : D = d) (hn : n = min (min a b) (min c d)) (w : World) :
    (Builtin.min_ ts t #[.int .i64 a, .int .i64 b, .int .i64 c, .int .i64 D]).run P w = .ok (.int .i64 n) w := by
  have e : ∀ x y : Nat, Builtin.min2 (.int .i64 x) (.int .i64 y) = pure (.int .i64 ((min x y : Nat) : Int)) := fun x y => by
    have : (if (y : Int) < (x : Int) then (y : Int) else (x : Int)) = ((min x y : Nat) : Int) := by split <;> omega
    unfold Builtin.min2
    dsimp only
    rw [this]
  subst hD
  have : min (min (min a b) c) d = n := by omega
  simp only [Builtin.min_, List.foldlM, e, pure_bind, this]
  rfl

/-- A slice that reads as a valid list for 'n' points. -/
def PInts (n : Nat) (w : World) (v : Value) (p : List Int) : Prop := Ints .i64 w v p ∧ Prt n p
theorem PInts.ext {n : Nat} {w w1 : World} {v : Value} {p : List Int} (h : PInts n w v p) (k : Ext w w1) : PInts n w1 v p := ⟨h.1.ext k, h.2⟩

theorem meetP (n : Nat) (hn : n ≤ 64) (w : World) (v1 v2 : Value) (a b : List Int) (ha : PInts n w v1 a) (hb : PInts n w v2 b) :
    Calls Try.prog 17 #[v1, v2] w fun e w' => ∃ v m, e = .returned (.tuple #[v, .int .i64 0]) ∧ PInts n w' v m ∧ IsMeet n a b m ∧ Ext w w' := by
  refine (meet_ok w v1 v2 a b ha.1 hb.1 (by rw [ha.2.1, hb.2.1]) (by rw [ha.2.1]; exact hn) ha.2.2 hb.2.2).mono ?_
  rintro e w1 ⟨v, rfl, hv, hx⟩
  have hm := isMeet_pDiv a.length a b
  rw [ha.2.1] at hv hm
  exact ⟨v, _, rfl, ⟨hv, hm.prt⟩, hm, hx⟩
theorem joinP (n : Nat) (hn : n ≤ 64) (w : World) (v1 v2 : Value) (a b : List Int) (ha : PInts n w v1 a) (hb : PInts n w v2 b) :
    Calls Try.prog 19 #[v1, v2] w fun e w' => ∃ v j, e = .returned (.tuple #[v, .int .i64 0]) ∧ PInts n w' v j ∧ IsJoin n a b j ∧ Ext w w' := by
  refine (join_any w v1 v2 a b ha.1 hb.1 (by rw [ha.2.1, hb.2.1]) (by rw [ha.2.1]; exact hn) ha.2.2 hb.2.2).mono ?_
  rintro e w1 ⟨v, q, rfl, hv, hq, hx⟩
  have hj := isJoin_of ha.2 hb.2 hq
  exact ⟨v, _, rfl, ⟨hv, hj.prt⟩, hj, hx⟩
theorem ofP (n : Nat) (hn : n ≤ 64) (w : World) (v : Value) (keys : List Int) (h : Ints .i64 w v keys) (hl : keys.length = n) :
    Calls Try.prog 15 #[v] w fun e w' => ∃ v' p, e = .returned (.tuple #[v', .bool true]) ∧ PInts n w' v' p ∧ Ext w w' := by
  refine (of_any w v keys h (by omega)).mono ?_
  rintro e w1 ⟨v', rfl, hv, hx⟩
  exact ⟨v', _, rfl, ⟨hv, by rw [← hl]; exact ofKeys_len keys, ofKeys_ok keys⟩, hx⟩
theorem equalP (n : Nat) (w : World) (v1 v2 : Value) (a b : List Int) (ha : PInts n w v1 a) (hb : PInts n w v2 b) (e : a = b) :
    Calls Try.prog 20 #[v1, v2] w fun e w' => e = .returned (.bool true) ∧ Ext w w' := by
  subst e
  exact equal_yes w v1 v2 a ha.1 hb.1

set_option maxHeartbeats 1000000 in
theorem meetC (n : Nat) (hn : n ≤ 64) (w : World) (v1 v2 : Value) (a b : List Int) (ha : PInts n w v1 a) (hb : PInts n w v2 b) :
    Calls Try.prog 16 #[v1, v2] w fun e w' => ∃ v m, e = .returned v ∧ PInts n w' v m ∧ IsMeet n a b m ∧ Ext w w' := by
  have C := Lib.hid (meetP n hn w v1 v2 a b ha hb)
  clear ha hb hn
  go_enter Try.func16, Try.ntmps16
  go_wp2_with fail
  refine C.out.mono ?_
  rintro e w1 ⟨v, m, rfl, hv, hm, hx⟩
  go_wp2
  go_ret
  exact ⟨v, m, rfl, hv, hm, hx⟩
set_option maxHeartbeats 1000000 in
theorem joinC (n : Nat) (hn : n ≤ 64) (w : World) (v1 v2 : Value) (a b : List Int) (ha : PInts n w v1 a) (hb : PInts n w v2 b) :
    Calls Try.prog 18 #[v1, v2] w fun e w' => ∃ v m, e = .returned v ∧ PInts n w' v m ∧ IsJoin n a b m ∧ Ext w w' := by
  have C := Lib.hid (joinP n hn w v1 v2 a b ha hb)
  clear ha hb hn
  go_enter Try.func18, Try.ntmps18
  go_wp2_with fail
  refine C.out.mono ?_
  rintro e w1 ⟨v, m, rfl, hv, hm, hx⟩
  go_wp2
  go_ret
  exact ⟨v, m, rfl, hv, hm, hx⟩

set_option maxRecDepth 100000 in
set_option maxHeartbeats 8000000 in
theorem lattice_any (w : World) (v1 v2 v3 : Value) (x y z : List Int) (h1 : Ints .i64 w v1 x) (h2 : Ints .i64 w v2 y) (h3 : Ints .i64 w v3 z) :
    Calls Try.prog 3 #[v1, v2, v3] w fun e w' => e = .returned (.bool true) ∧ Ext w w' := by
  obtain ⟨A1, c1, rfl, hs1, hf1⟩ := h1
  obtain ⟨A2, c2, rfl, hs2, hf2⟩ := h2
  obtain ⟨A3, c3, rfl, hs3, hf3⟩ := h3
  have l1 := hs1.le
  have l2 := hs2.le
  have l3 := hs3.le
  have m1 := hs1.cap
  have m2 := hs2.cap
  have m3 := hs3.cap
  obtain ⟨n, hn⟩ : ∃ n, n = min (min x.length y.length) (min z.length 24) := ⟨_, rfl⟩
  have hmin := fun w => run_min4 (P := Try.prog) #[3, 3, 3, 3] 3 x.length y.length z.length 24 n 24 rfl hn w
  have n1 : n ≤ x.length := by omega
  have n2 : n ≤ y.length := by omega
  have n3 : n ≤ z.length := by omega
  have n4 : n ≤ 24 := by omega
  clear hn
  have k1 : Ints .i64 w (.slice A1 n c1) (x.take n) := Ints.take ⟨A1, c1, rfl, hs1, hf1⟩ n1
  have k2 : Ints .i64 w (.slice A2 n c2) (y.take n) := Ints.take ⟨A2, c2, rfl, hs2, hf2⟩ n2
  have k3 : Ints .i64 w (.slice A3 n c3) (z.take n) := Ints.take ⟨A3, c3, rfl, hs3, hf3⟩ n3
  have K2 := Lib.hid k2
  have K3 := Lib.hid k3
  clear k2 k3 hs1 hs2 hs3 hf1 hf2 hf3
  go_enter Try.func3, Try.ntmps3
  go_wp2_with fail
  refine (ofP n (by omega) _ _ _ k1 (by simp; omega)).mono ?_
  rintro e w1 ⟨va, a, rfl, ha, hX⟩
  have k2 := K2.out.ext hX
  have k3 := K3.out.ext hX
  clear K2 K3 k1
  go_wp2_with fail
  refine (ofP n (by omega) _ _ _ k2 (by simp; omega)).mono ?_
  rintro e w2 ⟨vb, b, rfl, hb, hy⟩
  have hX := hX.trans hy
  have ha := ha.ext hy
  have k3 := k3.ext hy
  clear k2 hy
  go_wp2_with fail
  refine (ofP n (by omega) _ _ _ k3 (by simp; omega)).mono ?_
  rintro e w3 ⟨vc, c, rfl, hc, hy⟩
  have hX := hX.trans hy
  have ha := ha.ext hy
  have hb := hb.ext hy
  clear k3 hy l1 l2 l3 m1 m2 m3 n1 n2 n3
  have hn : n ≤ 64 := by omega
  go_wp2_with fail
  refine (meetC n hn _ _ _ _ _ ha hb).mono ?_
  rintro e w4 ⟨u1, q1, rfl, t1, s1, hy⟩
  have hX := hX.trans hy
  have ha := ha.ext hy
  have hb := hb.ext hy
  have hc := hc.ext hy
  clear hy
  go_wp2_with fail
  refine (meetC n hn _ _ _ _ _ hb ha).mono ?_
  rintro e w5 ⟨u2, q2, rfl, t2, s2, hy⟩
  have hX := hX.trans hy
  have ha := ha.ext hy
  have hb := hb.ext hy
  have hc := hc.ext hy
  have t1 := t1.ext hy
  clear hy
  go_wp2_with fail
  refine (equalP n _ _ _ _ _ t1 t2 (meet_unique s1 s2.symm)).mono ?_
  rintro e w6 ⟨rfl, hy⟩
  have hX := hX.trans hy
  have ha := ha.ext hy
  have hb := hb.ext hy
  have hc := hc.ext hy
  clear hy
  go_wp2_with fail
  refine (joinC n hn _ _ _ _ _ ha hb).mono ?_
  rintro e w7 ⟨u3, q3, rfl, t3, s3, hy⟩
  have hX := hX.trans hy
  have ha := ha.ext hy
  have hb := hb.ext hy
  have hc := hc.ext hy
  clear hy
  go_wp2_with fail
  refine (joinC n hn _ _ _ _ _ hb ha).mono ?_
  rintro e w8 ⟨u4, q4, rfl, t4, s4, hy⟩
  have hX := hX.trans hy
  have ha := ha.ext hy
  have hb := hb.ext hy
  have hc := hc.ext hy
  have t3 := t3.ext hy
  clear hy
  go_wp2_with fail
  refine (equalP n _ _ _ _ _ t3 t4 (join_unique s3 s4.symm)).mono ?_
  rintro e w9 ⟨rfl, hy⟩
  have hX := hX.trans hy
  have ha := ha.ext hy
  have hb := hb.ext hy
  have hc := hc.ext hy
  clear hy
  go_wp2_with fail
  refine (meetC n hn _ _ _ _ _ ha ha).mono ?_
  rintro e w10 ⟨u5, q5, rfl, t5, s5, hy⟩
  have hX := hX.trans hy
  have ha := ha.ext hy
  have hb := hb.ext hy
  have hc := hc.ext hy
  clear hy
  go_wp2_with fail
  refine (equalP n _ _ _ _ _ t5 ha (meet_idem ha.2 s5)).mono ?_
  rintro e w11 ⟨rfl, hy⟩
  have hX := hX.trans hy
  have ha := ha.ext hy
  have hb := hb.ext hy
  have hc := hc.ext hy
  clear hy
  go_wp2_with fail
  refine (joinC n hn _ _ _ _ _ ha ha).mono ?_
  rintro e w12 ⟨u6, q6, rfl, t6, s6, hy⟩
  have hX := hX.trans hy
  have ha := ha.ext hy
  have hb := hb.ext hy
  have hc := hc.ext hy
  clear hy
  go_wp2_with fail
  refine (equalP n _ _ _ _ _ t6 ha (join_idem ha.2 s6)).mono ?_
  rintro e w13 ⟨rfl, hy⟩
  have hX := hX.trans hy
  have ha := ha.ext hy
  have hb := hb.ext hy
  have hc := hc.ext hy
  clear hy
  go_wp2_with fail
  refine (meetC n hn _ _ _ _ _ hb hc).mono ?_
  rintro e w14 ⟨u7, q7, rfl, t7, s7, hy⟩
  have hX := hX.trans hy
  have ha := ha.ext hy
  have hb := hb.ext hy
  have hc := hc.ext hy
  clear hy
  go_wp2_with fail
  refine (meetC n hn _ _ _ _ _ ha t7).mono ?_
  rintro e w15 ⟨u8, q8, rfl, t8, s8, hy⟩
  have hX := hX.trans hy
  have ha := ha.ext hy
  have hb := hb.ext hy
  have hc := hc.ext hy
  clear hy
  go_wp2_with fail
  refine (meetC n hn _ _ _ _ _ ha hb).mono ?_
  rintro e w16 ⟨u9, q9, rfl, t9, s9, hy⟩
  have hX := hX.trans hy
  have ha := ha.ext hy
  have hb := hb.ext hy
  have hc := hc.ext hy
  have t8 := t8.ext hy
  clear hy
  go_wp2_with fail
  refine (meetC n hn _ _ _ _ _ t9 hc).mono ?_
  rintro e w17 ⟨u10, q10, rfl, t10, s10, hy⟩
  have hX := hX.trans hy
  have ha := ha.ext hy
  have hb := hb.ext hy
  have hc := hc.ext hy
  have t8 := t8.ext hy
  clear hy
  go_wp2_with fail
  refine (equalP n _ _ _ _ _ t8 t10 (meet_assoc s7 s8 s9 s10)).mono ?_
  rintro e w18 ⟨rfl, hy⟩
  have hX := hX.trans hy
  have ha := ha.ext hy
  have hb := hb.ext hy
  have hc := hc.ext hy
  clear hy
  go_wp2_with fail
  refine (joinC n hn _ _ _ _ _ hb hc).mono ?_
  rintro e w19 ⟨u11, q11, rfl, t11, s11, hy⟩
  have hX := hX.trans hy
  have ha := ha.ext hy
  have hb := hb.ext hy
  have hc := hc.ext hy
  clear hy
  go_wp2_with fail
  refine (joinC n hn _ _ _ _ _ ha t11).mono ?_
  rintro e w20 ⟨u12, q12, rfl, t12, s12, hy⟩
  have hX := hX.trans hy
  have ha := ha.ext hy
  have hb := hb.ext hy
  have hc := hc.ext hy
  clear hy
  go_wp2_with fail
  refine (joinC n hn _ _ _ _ _ ha hb).mono ?_
  rintro e w21 ⟨u13, q13, rfl, t13, s13, hy⟩
  have hX := hX.trans hy
  have ha := ha.ext hy
  have hb := hb.ext hy
  have hc := hc.ext hy
  have t12 := t12.ext hy
  clear hy
  go_wp2_with fail
  refine (joinC n hn _ _ _ _ _ t13 hc).mono ?_
  rintro e w22 ⟨u14, q14, rfl, t14, s14, hy⟩
  have hX := hX.trans hy
  have ha := ha.ext hy
  have hb := hb.ext hy
  have hc := hc.ext hy
  have t12 := t12.ext hy
  clear hy
  go_wp2_with fail
  refine (equalP n _ _ _ _ _ t12 t14 (join_assoc ha.2 hb.2 hc.2 s11 s12 s13 s14)).mono ?_
  rintro e w23 ⟨rfl, hy⟩
  have hX := hX.trans hy
  have ha := ha.ext hy
  have hb := hb.ext hy
  have hc := hc.ext hy
  clear hy
  go_wp2_with fail
  refine (joinC n hn _ _ _ _ _ ha hb).mono ?_
  rintro e w24 ⟨u15, q15, rfl, t15, s15, hy⟩
  have hX := hX.trans hy
  have ha := ha.ext hy
  have hb := hb.ext hy
  have hc := hc.ext hy
  clear hy
  go_wp2_with fail
  refine (meetC n hn _ _ _ _ _ ha t15).mono ?_
  rintro e w25 ⟨u16, q16, rfl, t16, s16, hy⟩
  have hX := hX.trans hy
  have ha := ha.ext hy
  have hb := hb.ext hy
  have hc := hc.ext hy
  clear hy
  go_wp2_with fail
  refine (equalP n _ _ _ _ _ t16 ha (absorb_meet ha.2 s15 s16)).mono ?_
  rintro e w26 ⟨rfl, hy⟩
  have hX := hX.trans hy
  have ha := ha.ext hy
  have hb := hb.ext hy
  have hc := hc.ext hy
  clear hy
  go_wp2_with fail
  refine (meetC n hn _ _ _ _ _ ha hb).mono ?_
  rintro e w27 ⟨u17, q17, rfl, t17, s17, hy⟩
  have hX := hX.trans hy
  have ha := ha.ext hy
  have hb := hb.ext hy
  have hc := hc.ext hy
  clear hy
  go_wp2_with fail
  refine (joinC n hn _ _ _ _ _ ha t17).mono ?_
  rintro e w28 ⟨u18, q18, rfl, t18, s18, hy⟩
  have hX := hX.trans hy
  have ha := ha.ext hy
  have hb := hb.ext hy
  have hc := hc.ext hy
  clear hy
  go_wp2_with fail
  refine (equalP n _ _ _ _ _ t18 ha (absorb_join ha.2 s17 s18)).mono ?_
  rintro e w29 ⟨rfl, hy⟩
  have hX := hX.trans hy
  have ha := ha.ext hy
  have hb := hb.ext hy
  have hc := hc.ext hy
  clear hy
  go_wp2_with fail
  refine (awake3 _).mono ?_
  rintro e w99 ⟨rfl, hy⟩
  have hX := hX.trans hy
  clear hy
  go_wp2_with fail
  go_ret
  exact ⟨rfl, hX⟩

end Go.Proofs.Ytdlhfihddipjaaa
