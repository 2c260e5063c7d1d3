/-
  Contracts of the package postulates: the number of sets, the check of a table, the six postulates.
-/
import Derived.Test.YtdlhfihddipjaacDoorTg2
import Derived.OwnWalk
namespace Go.Proofs.YtdlhfihddipjaacDoor
open Go.RowKit

set_option maxHeartbeats 1000000 in
theorem sets_ok (w : World) (m : Nat) (hm : m ≤ 3) : Calls Tryd.prog 23 #[.int .i64 m] w fun e w' => e = .returned (.int .i64 (2 ^ 2 ^ m : Nat)) ∧ w = w' := by
  have hN16 := pow_small (show m ≤ 4 by omega)
  have hN8 : 2 ^ m ≤ 8 := Nat.pow_le_pow_right (n := 2) (by omega) hm
  have hw1 := u64_wrap_pow m (by omega)
  obtain ⟨N, hN⟩ : ∃ N, N = 2 ^ m := ⟨_, rfl⟩
  rw [← hN] at hw1 hN8 ⊢
  have hw2 := wrap64_pow N (by omega)
  obtain ⟨M, hMe⟩ : ∃ M, M = 2 ^ N := ⟨_, rfl⟩
  rw [← hMe] at hw2 ⊢
  have hmin : min N 64 = N := by omega
  clear hN hMe hN16
  go_enter Tryd.func23, Tryd.ntmps23
  go_wp2
  go_ret
  exact ⟨by first | rfl | (rw [hw2]; rfl), rfl⟩

set_option maxHeartbeats 1000000 in
theorem tabClosure (w : World) (g : Nat) (m x : Nat) (hm : m ≤ 3) (hc : w.cell? ⟨g, 0, none⟩ = some (.int .i64 m)) (hx : x < 2 ^ 2 ^ m) :
    Calls Tryd.prog 48 #[.int .u64 x, .pointer (some ⟨g, 0, none⟩)] w fun e w' => e = .returned (.bool false) ∧ w = w' := by
  have C := Lib.hid (sets_ok w m hm)
  have hM := pow_small3 hm
  obtain ⟨M, hMe⟩ : ∃ M, M = 2 ^ 2 ^ m := ⟨_, rfl⟩
  rw [← hMe] at C hM hx
  have hcv := u64_wrap_small M (by omega)
  have t : decide ((M : Int) ≤ (x : Int)) = false := by rw [decide_eq_false_iff_not]; omega
  have t' : decide (M ≤ x) = false := by rw [decide_eq_false_iff_not]; omega
  clear hMe
  go_enter Tryd.func48, Tryd.ntmps48
  go_wp2_with fail
  refine C.out.mono ?_
  rintro e w1 ⟨rfl, rfl⟩
  go_wp2
  go_ret
  exact ⟨rfl, rfl⟩

set_option maxRecDepth 100000 in
set_option maxHeartbeats 2000000 in
theorem table_ok (w : World) (v : Value) (m : Nat) (t : List Nat) (h : Sets w v t) (hm : m ≤ 3) (hl : t.length = 2 ^ 2 ^ m) (ht : ∀ i, i < t.length → nthN t i < 2 ^ 2 ^ m) :
    Calls Tryd.prog 24 #[.int .i64 m, v] w fun e w' => e = .returned (.int .i64 0) ∧ Ext w w' := by
  have hH : ∀ w1 : World, Ext w w1 → ∀ g, w1.cell? ⟨g, 0, none⟩ = some (.int .i64 m) → Calls Tryd.prog 47 #[v, .func (.func 48) #[] #[.pointer (some ⟨g, 0, none⟩)]] w1 fun e w' => e = .returned (.bool false) ∧ w1 = w' :=
    fun w1 hx g hc => containsFuncS_no w1 v t (h.ext hx) (fun _ _ => by kernel_rfl) fun i hi => tabClosure w1 g m _ (by omega) hc (ht i hi)
  have HH := Lib.hid hH
  have HC : Hid (∀ w1 : World, Calls Tryd.prog 23 #[.int .i64 m] w1 fun e w' => e = .returned (.int .i64 (2 ^ 2 ^ m : Nat)) ∧ w1 = w') := fun w1 => sets_ok w1 m hm
  obtain ⟨M, hMe⟩ : ∃ M, M = 2 ^ 2 ^ m := ⟨_, rfl⟩
  rw [← hMe] at HC hl
  obtain ⟨A, c, rfl, hs, hfr⟩ := h
  have hle := hs.le
  have hcap := hs.cap
  have t0 : ((t.length : Int) != (M : Int)) = false := by simp [hl]
  clear hMe ht hH hs hfr hl
  have hx0 := (Ext.refl w).alloc (.cells #[.int .i64 m] 3)
  have hc0 : (w.alloc (.cells #[.int .i64 m] 3)).cell? ⟨w.heap.size, 0, none⟩ = some (.int .i64 m) := cell_of_row _ _ _ _ _ _ (heap_alloc_new w (.cells #[.int .i64 m] 3))
  go_enter Tryd.func24, Tryd.ntmps24
  go_wp2_with fail
  refine (HC.out _).mono ?_
  rintro e w1 ⟨rfl, rfl⟩
  go_wp2_with fail
  refine (HH.out _ hx0 _ hc0).mono ?_
  rintro e w1 ⟨rfl, rfl⟩
  go_wp2
  go_ret
  exact ⟨rfl, hx0⟩

theorem natz (n : Nat) : ((n : Int) == 0) = (n == 0) := by
  rw [Bool.eq_iff_iff]; simp
theorem natnz (n : Nat) : ((n : Int) != 0) = (n != 0) := by
  rw [Bool.eq_iff_iff]; simp
theorem nateq (n m : Nat) : ((n : Int) == (m : Int)) = (n == m) := by
  rw [Bool.eq_iff_iff, beq_iff_eq, beq_iff_eq]; omega

section
variable (w : World) (v : Value) (T : List Nat) (k x y : Nat)
set_option maxHeartbeats 1000000 in
theorem pst1_ok (h : Sets w v T) (hx : x < T.length) (hT : T.length ≤ 256) :
    Calls Tryd.prog 90 #[.int .u64 k, v, .int .u64 x, .int .u64 y] w fun e w' => e = .returned (.bool (pst k (nthN T) 0 x y)) ∧ Ext w w' := by
  obtain ⟨A, c, rfl, hs, hf⟩ := h
  obtain ⟨ad, rfl, hb, hc⟩ := hs.get hx
  have ha := u64_andNot (nthN T x) x (hf x hx) (by omega)
  show Calls _ _ _ _ fun e w' => e = .returned (.bool (sdiff (nthN T x) x == 0)) ∧ _
  obtain ⟨d, hd⟩ : ∃ d, d = sdiff (nthN T x) x := ⟨_, rfl⟩
  have hz := natz d
  rw [← hd] at ha ⊢
  obtain ⟨b, hbb⟩ : ∃ b, b = (d == 0) := ⟨_, rfl⟩
  rw [← hbb] at hz ⊢
  clear hd hbb hs hf
  go_enter Tryd.func90, Tryd.ntmps90
  go_wp2
  go_ret
  exact ⟨by first | rfl | (rw [hz]; rfl), Ext.refl _⟩

set_option maxHeartbeats 1000000 in
theorem pst2_ok (h : Sets w v T) (hk : k < 18446744073709551616) (hx : x < T.length) (hT : T.length ≤ 256) :
    Calls Tryd.prog 91 #[.int .u64 k, v, .int .u64 x, .int .u64 y] w fun e w' => e = .returned (.bool (pst k (nthN T) 1 x y)) ∧ Ext w w' := by
  obtain ⟨A, c, rfl, hs, hf⟩ := h
  obtain ⟨ad, rfl, hb, hc⟩ := hs.get hx
  have ha := u64_and k x hk (by omega)
  show Calls _ _ _ _ fun e w' => e = .returned (.bool (k &&& x == 0 || nthN T x == k &&& x)) ∧ _
  obtain ⟨d, hd⟩ : ∃ d, d = k &&& x := ⟨_, rfl⟩
  have hz := natz d
  have hz2 := nateq (nthN T x) d
  rw [← hd] at ha ⊢
  obtain ⟨b, hbb⟩ : ∃ b, b = (d == 0) := ⟨_, rfl⟩
  obtain ⟨b2, hb2⟩ : ∃ b, b = (nthN T x == d) := ⟨_, rfl⟩
  rw [← hbb] at hz ⊢
  rw [← hb2] at hz2 ⊢
  clear hd hbb hb2 hs hf
  cases b
  · go_enter Tryd.func91, Tryd.ntmps91
    go_wp2
    go_ret
    exact ⟨by first | rfl | (rw [hz2]; rfl), Ext.refl _⟩
  · go_enter Tryd.func91, Tryd.ntmps91
    go_wp2
    go_ret
    exact ⟨rfl, Ext.refl _⟩

set_option maxHeartbeats 1000000 in
theorem pst3_ok (h : Sets w v T) (hx : x < T.length) :
    Calls Tryd.prog 92 #[.int .u64 k, v, .int .u64 x, .int .u64 y] w fun e w' => e = .returned (.bool (pst k (nthN T) 2 x y)) ∧ Ext w w' := by
  obtain ⟨A, c, rfl, hs, hf⟩ := h
  obtain ⟨ad, rfl, hb, hc⟩ := hs.get hx
  show Calls _ _ _ _ fun e w' => e = .returned (.bool (x == 0 || nthN T x != 0)) ∧ _
  have hz := natz x
  have hz2 := natnz (nthN T x)
  obtain ⟨b, hbb⟩ : ∃ b, b = (x == 0) := ⟨_, rfl⟩
  obtain ⟨b2, hb2⟩ : ∃ b, b = (nthN T x != 0) := ⟨_, rfl⟩
  rw [← hbb] at hz ⊢
  rw [← hb2] at hz2 ⊢
  clear hbb hb2 hs hf
  cases b
  · go_enter Tryd.func92, Tryd.ntmps92
    go_wp2
    go_ret
    exact ⟨by first | rfl | (rw [hz2]; rfl), Ext.refl _⟩
  · go_enter Tryd.func92, Tryd.ntmps92
    go_wp2
    go_ret
    exact ⟨rfl, Ext.refl _⟩

set_option maxHeartbeats 1000000 in
theorem pst4_ok : Calls Tryd.prog 93 #[.int .u64 k, v, .int .u64 x, .int .u64 y] w fun e w' => e = .returned (.bool (pst k (nthN T) 3 x y)) ∧ Ext w w' := by
  show Calls _ _ _ _ fun e w' => e = .returned (.bool true) ∧ _
  go_enter Tryd.func93, Tryd.ntmps93
  go_wp2
  go_ret
  exact ⟨rfl, Ext.refl _⟩

set_option maxHeartbeats 1000000 in
theorem pst5_ok (h : Sets w v T) (hx : x < T.length) (hy : y < T.length) (hT : T.length ≤ 256) :
    Calls Tryd.prog 94 #[.int .u64 k, v, .int .u64 x, .int .u64 y] w fun e w' => e = .returned (.bool (pst k (nthN T) 4 x y)) ∧ Ext w w' := by
  obtain ⟨A, c, rfl, hs, hf⟩ := h
  have hxy : x &&& y < T.length := Nat.lt_of_le_of_lt Nat.and_le_left hx
  have hle := hs.le
  have hcap := hs.cap
  obtain ⟨ad, rfl, hb, hc⟩ := hs.get hx
  obtain ⟨ad2, e2, _, hc2⟩ := hs.get hxy
  obtain rfl : ad = ad2 := by injection e2
  have ha := u64_and (nthN T x) y (hf x hx) (by omega)
  have ha2 := u64_and x y (by omega) (by omega)
  have ha3 := u64_andNot (nthN T x &&& y) (nthN T (x &&& y)) (Nat.lt_of_le_of_lt Nat.and_le_left (hf x hx)) (hf _ hxy)
  show Calls _ _ _ _ fun e w' => e = .returned (.bool (sdiff (nthN T x &&& y) (nthN T (x &&& y)) == 0)) ∧ _
  obtain ⟨d, hd⟩ : ∃ d, d = sdiff (nthN T x &&& y) (nthN T (x &&& y)) := ⟨_, rfl⟩
  have hz := natz d
  rw [← hd] at ha3 ⊢
  obtain ⟨b, hbb⟩ : ∃ b, b = (d == 0) := ⟨_, rfl⟩
  rw [← hbb] at hz ⊢
  clear hd hbb
  obtain ⟨z, hzz⟩ : ∃ z, z = x &&& y := ⟨_, rfl⟩
  rw [← hzz] at hxy hc2 ha2 ha3
  obtain ⟨u, hu⟩ : ∃ u, u = nthN T x &&& y := ⟨_, rfl⟩
  rw [← hu] at ha ha3
  have hzi : (z : Int) < T.length := by omega
  have hxi : (x : Int) < T.length := by omega
  clear hzz hu hs hf e2
  go_enter Tryd.func94, Tryd.ntmps94
  go_wp2
  go_quiet (fail)
  go_wp2
  go_ret
  exact ⟨by first | rfl | (rw [hz]; rfl), (Ext.refl _).drewN _⟩

set_option maxHeartbeats 2000000 in
theorem pst6_ok (h : Sets w v T) (hx : x < T.length) (hy : y < T.length) (hT : T.length ≤ 256) :
    Calls Tryd.prog 95 #[.int .u64 k, v, .int .u64 x, .int .u64 y] w fun e w' => e = .returned (.bool (pst k (nthN T) 5 x y)) ∧ Ext w w' := by
  obtain ⟨A, c, rfl, hs, hf⟩ := h
  have hxy : x &&& y < T.length := Nat.lt_of_le_of_lt Nat.and_le_left hx
  have hle := hs.le
  have hcap := hs.cap
  obtain ⟨ad, rfl, hb, hc⟩ := hs.get hx
  obtain ⟨ad2, e2, _, hc2⟩ := hs.get hxy
  obtain rfl : ad = ad2 := by injection e2
  have ha := u64_and (nthN T x) y (hf x hx) (by omega)
  have ha2 := u64_and x y (by omega) (by omega)
  have ha3 := u64_andNot (nthN T (x &&& y)) (nthN T x &&& y) (hf _ hxy) (Nat.lt_of_le_of_lt Nat.and_le_left (hf x hx))
  show Calls _ _ _ _ fun e w' => e = .returned (.bool (nthN T x &&& y == 0 || sdiff (nthN T (x &&& y)) (nthN T x &&& y) == 0)) ∧ _
  obtain ⟨d, hd⟩ : ∃ d, d = sdiff (nthN T (x &&& y)) (nthN T x &&& y) := ⟨_, rfl⟩
  have hz := natz d
  rw [← hd] at ha3 ⊢
  obtain ⟨b, hbb⟩ : ∃ b, b = (d == 0) := ⟨_, rfl⟩
  rw [← hbb] at hz ⊢
  clear hd hbb
  obtain ⟨z, hzz⟩ : ∃ z, z = x &&& y := ⟨_, rfl⟩
  rw [← hzz] at hxy hc2 ha2 ha3
  obtain ⟨u, hu⟩ : ∃ u, u = nthN T x &&& y := ⟨_, rfl⟩
  rw [← hu] at ha ha3 ⊢
  have hz2 := natz u
  obtain ⟨b2, hb2⟩ : ∃ b, b = (u == 0) := ⟨_, rfl⟩
  rw [← hb2] at hz2 ⊢
  have hzi : (z : Int) < T.length := by omega
  have hxi : (x : Int) < T.length := by omega
  clear hzz hu hs hf e2 hb2
  cases b2
  · go_enter Tryd.func95, Tryd.ntmps95
    go_wp2
    go_quiet (fail)
    go_wp2
    go_ret
    exact ⟨by first | rfl | (rw [hz]; rfl), (Ext.refl _).drewN _⟩
  · go_enter Tryd.func95, Tryd.ntmps95
    go_wp2
    go_quiet (fail)
    go_wp2
    go_ret
    exact ⟨rfl, (Ext.refl _).drewN _⟩
end

end Go.Proofs.YtdlhfihddipjaacDoor
