/-
  TopDalal: revision by distances, the order's faithfulness, the law.
-/
import Derived.Test.YtdlhfihddipjaacDoorTg10
namespace Go.Proofs.YtdlhfihddipjaacDoor
open Go.RowKit

set_option maxHeartbeats 1000000 in
theorem dalal_ok (w : World) (m b x : Nat) (hm : m ≤ 2) (hb : b < 2 ^ 2 ^ m) (hx : x < 2 ^ 2 ^ m) :
    Calls Tryd.prog 7 #[.int .i64 m, .int .u64 b, .int .u64 x] w fun e w' => e = .returned (.tuple #[.int .u64 (bestOf (dists b (2 ^ m)) x : Nat), .int .i64 0]) ∧ Ext w w' := by
  have CD := Lib.hid (distances_ok w m b hm hb)
  have HR : Hid (∀ w1 v, Ints .i64 w1 v (dists b (2 ^ m)) → Calls Tryd.prog 22 #[.int .i64 m, v, .int .u64 x] w1 fun e w' => e = .returned (.tuple #[.int .u64 (bestOf (dists b (2 ^ m)) x : Nat), .int .i64 0]) ∧ w1 = w') := fun w1 v h =>
    revise_ok w1 v m x _ h (by omega) (dists_ranks b m) hx
  clear hx hb
  go_enter Tryd.func7, Tryd.ntmps7
  go_wp2_with fail
  refine CD.out.mono ?_
  rintro _ w1 ⟨v, rfl, hI, hx1⟩
  have CR := Lib.hid (HR.out w1 v hI)
  obtain ⟨A, c, rfl, _, _⟩ := hI
  go_wp2_with fail
  refine CR.out.mono ?_
  rintro _ w2 ⟨rfl, rfl⟩
  go_wp2
  go_ret2
  exact ⟨rfl, hx1⟩

set_option maxHeartbeats 2000000 in
theorem faithful_ok (w : World) (v : Value) (m b : Nat) (d : List Int) (hm : m ≤ 2) (hb : b < 2 ^ 2 ^ m) (h : Ints .i64 w v d) (hl : d.length = 2 ^ m) (hd : bestOf d (full (2 ^ m)) = b) (h0 : b ≠ 0) :
    Calls Tryd.prog 10 #[.int .i64 m, .int .u64 b, v] w fun e w' => e = .returned (.bool true) ∧ Ext w w' := by
  have HC : Hid (∀ w1 : World, Calls Tryd.prog 23 #[.int .i64 m] w1 fun e w' => e = .returned (.int .i64 (2 ^ 2 ^ m : Nat)) ∧ w1 = w') := fun w1 => sets_ok w1 m (by omega)
  have hN4 : 2 ^ m ≤ 4 := Nat.pow_le_pow_right (n := 2) (by omega) hm
  have hM := pow_small3 (show m ≤ 3 by omega)
  have CL := Lib.hid (pleast_any w v d (full (2 ^ m)) h (by rw [hl]; omega) (full_lt64 (by omega)))
  rw [hd] at CL
  have hwm := wrap64_pow m (by omega)
  have hcv := u64_wrap_small (2 ^ 2 ^ m) (by omega)
  have hS1 : IntKind.u64.wrap (((2 ^ 2 ^ m : Nat) : Int) - 1) = ((full (2 ^ m) : Nat) : Int) := by
    have h2 := Nat.two_pow_pos (2 ^ m)
    rw [IntKind.wrap_u64]
    unfold full
    generalize (2 ^ 2 ^ m : Nat) = M at *
    omega
  obtain ⟨S, hS⟩ : ∃ S, S = 2 ^ 2 ^ m := ⟨_, rfl⟩
  obtain ⟨F, hF⟩ : ∃ F, F = full (2 ^ m) := ⟨_, rfl⟩
  rw [← hS] at HC hcv hS1 hb hM
  rw [← hF] at hS1 CL
  obtain ⟨N, hN⟩ : ∃ N, N = 2 ^ m := ⟨_, rfl⟩
  rw [← hN] at hwm hl hN4
  obtain ⟨A, c, rfl, hs, _⟩ := h
  have hle := hs.le
  have hcap := hs.cap
  have t1 : decide ((m : Int) < 0) = false := by rw [decide_eq_false_iff_not]; omega
  have t2 : decide ((3 : Int) < (m : Int)) = false := by rw [decide_eq_false_iff_not]; omega
  have t2n : decide (3 < m) = false := by rw [decide_eq_false_iff_not]; omega
  have t3 : decide ((S : Int) ≤ (b : Int)) = false := by rw [decide_eq_false_iff_not]; omega
  have t3n : decide (S ≤ b) = false := by rw [decide_eq_false_iff_not]; omega
  have t4 : ((d.length : Int) != (N : Int)) = false := by rw [bne_eq_false_iff_eq]; omega
  have t5 : ((b : Int) == 0) = false := by rw [beq_eq_false_iff_ne]; omega
  clear hS hF hN hd hs hl h0
  go_enter Tryd.func10, Tryd.ntmps10
  go_wp2_with fail
  refine (HC.out _).mono ?_
  rintro _ w1 ⟨rfl, rfl⟩
  go_wp2_with fail
  refine (HC.out _).mono ?_
  rintro _ w1 ⟨rfl, rfl⟩
  go_wp2_with fail
  refine CL.out.mono ?_
  rintro _ w1 ⟨rfl, rfl⟩
  go_wp2
  go_ret
  exact ⟨rfl, Ext.refl _⟩

set_option maxRecDepth 100000 in
set_option maxHeartbeats 8000000 in
theorem topDalal_any (w : World) (hG : RevG w) (n : Int) (b : Nat) (hb64 : b < 18446744073709551616) :
    Calls Tryd.prog 3 #[.int .i64 n, .int .u64 b] w fun e w' => e = .returned (.bool true) ∧ Ext w w' := by
  obtain ⟨i0, hi0, hz0, hz1, hz2⟩ := info_parts Tryd.infoU64
  have HA : Hid (∀ w1, Ext w w1 → Calls Tryd.prog 6 #[] w1 fun e w' => e = .returned (.bool true) ∧ Ext w1 w') := fun w1 hx => awake22_any w1 (hG.ext hx)
  by_cases hn : n < 0 ∨ 2 < n
  · rcases hn with hn | hn
    · have t1 : decide (n < 0) = true := by rw [decide_eq_true_eq]; exact hn
      clear hn
      go_enter Tryd.func3, Tryd.ntmps3
      go_wp2_with fail
      refine (HA.out w (Ext.refl _)).mono ?_
      rintro _ w6 ⟨rfl, hx6⟩
      go_wp2
      go_ret
      exact ⟨rfl, hx6⟩
    · have t1 : decide (n < 0) = false := by rw [decide_eq_false_iff_not]; omega
      have t2 : decide (2 < n) = true := by rw [decide_eq_true_eq]; exact hn
      clear hn
      go_enter Tryd.func3, Tryd.ntmps3
      go_wp2_with fail
      refine (HA.out w (Ext.refl _)).mono ?_
      rintro _ w6 ⟨rfl, hx6⟩
      go_wp2
      go_ret
      exact ⟨rfl, hx6⟩
  · obtain ⟨m, rfl⟩ := Int.eq_ofNat_of_zero_le (show 0 ≤ n by omega)
    have hm : m ≤ 2 := by omega
    have t1 : decide ((m : Int) < 0) = false := by rw [decide_eq_false_iff_not]; omega
    have t2 : decide ((2 : Int) < (m : Int)) = false := by rw [decide_eq_false_iff_not]; omega
    have t2n : decide (2 < m) = false := by rw [decide_eq_false_iff_not]; omega
    clear hn
    by_cases h0 : b = 0
    · have t3 : ((b : Int) == 0) = true := by rw [beq_iff_eq]; omega
      clear h0
      go_enter Tryd.func3, Tryd.ntmps3
      go_wp2_with fail
      refine (HA.out w (Ext.refl _)).mono ?_
      rintro _ w6 ⟨rfl, hx6⟩
      go_wp2
      go_ret
      exact ⟨rfl, hx6⟩
    · have t3 : ((b : Int) == 0) = false := by rw [beq_eq_false_iff_ne]; omega
      have hN4 : 2 ^ m ≤ 4 := Nat.pow_le_pow_right (n := 2) (by omega) hm
      have hM : 2 ^ 2 ^ m ≤ 16 := Nat.pow_le_pow_right (n := 2) (by omega) hN4
      have hw1 := u64_wrap_pow m (by omega)
      have hmin : min (2 ^ m) 64 = 2 ^ m := by omega
      have hw2 := u64_wrap_pow (2 ^ m) (by omega)
      by_cases hb : b < 2 ^ 2 ^ m
      · have HD : Hid (∀ w1 x, x < 2 ^ 2 ^ m → Calls Tryd.prog 7 #[.int .i64 m, .int .u64 b, .int .u64 (x : Nat)] w1 fun e w' => e = .returned (.tuple #[.int .u64 (bestOf (dists b (2 ^ m)) x : Nat), .int .i64 0]) ∧ Ext w1 w') := fun w1 x hx => dalal_ok w1 m b x hm hb hx
        have hbest := dists_best m (by omega) b (by omega) h0 hb
        have hkm := km_lst (d := dists b (2 ^ m)) (k := b) (by rw [dists_len]; exact hbest.symm) (t := nthN (tab (2 ^ 2 ^ m) (bestOf (dists b (2 ^ m))))) (fun x hx => by rw [dists_len] at hx; rw [tab_nth hx]; rfl)
        rw [dists_len] at hkm
        have hmask : pMask (2 ^ 2 ^ m) b (nthN (tab (2 ^ 2 ^ m) (bestOf (dists b (2 ^ m))))) = 63 := pMask_all.2 (km_iff.2 hkm)
        have HRv : Hid (∀ w1 v, Ext w w1 → Sets w1 v (tab (2 ^ 2 ^ m) (bestOf (dists b (2 ^ m)))) → Calls Tryd.prog 8 #[.int .i64 m, .int .u64 b, v] w1 fun e w' => ∃ a c : Nat, e = .returned (.tuple #[.int .i64 63, .int .u64 a, .int .u64 c, .int .i64 0]) ∧ Ext w1 w') := fun w1 v hx h => by
          have := revision_ok w1 v _ m b (hG.ext hx) (by omega) h (tab_len _ _) (fun i hi => by
            rw [tab_len] at hi
            rw [tab_nth hi]
            have := bestOf_lt (dists b (2 ^ m)) i
            rwa [dists_len] at this) hb
          rwa [hmask] at this
        have HDi : Hid (∀ w1, Calls Tryd.prog 9 #[.int .i64 m, .int .u64 b] w1 fun e w' => ∃ v, e = .returned (.tuple #[v, .int .i64 0]) ∧ Ints .i64 w' v (dists b (2 ^ m)) ∧ Ext w1 w') := fun w1 => distances_ok w1 m b hm hb
        have HFa : Hid (∀ w1 v, Ints .i64 w1 v (dists b (2 ^ m)) → Calls Tryd.prog 10 #[.int .i64 m, .int .u64 b, v] w1 fun e w' => e = .returned (.bool true) ∧ Ext w1 w') := fun w1 v h => faithful_ok w1 v m b _ hm hb h (dists_len _ _) hbest h0
        have hlt64 : ∀ x, bestOf (dists b (2 ^ m)) x < 18446744073709551616 := fun x => by
          have := bestOf_lt (dists b (2 ^ m)) x
          rw [dists_len] at this
          omega
        obtain ⟨d, hd⟩ : ∃ d, d = dists b (2 ^ m) := ⟨_, rfl⟩
        rw [← hd] at HD HRv HDi HFa hlt64
        obtain ⟨N, hN⟩ : ∃ N, N = 2 ^ m := ⟨_, rfl⟩
        rw [← hN] at hw1 hmin hw2 HD HRv hb hM
        obtain ⟨S, hS⟩ : ∃ S, S = 2 ^ N := ⟨_, rfl⟩
        rw [← hS] at hw2 HD HRv hb hM
        have t4 : decide ((S : Int) ≤ (b : Int)) = false := by rw [decide_eq_false_iff_not]; omega
        have t4n : decide (S ≤ b) = false := by rw [decide_eq_false_iff_not]; omega
        have Hlt64 := Lib.hid hlt64
        clear hbest hkm hmask hd hN hS hb h0 hlt64 hG
        go_enter Tryd.func3, Tryd.ntmps3
        go_wp2
        go_loopw [5, 36] (fun t v wr => ∃ x : Nat, x ≤ S ∧ v = .int .u64 x ∧ wr.ownsRow w.heap.size 22 1 t x ((tab x (bestOf d)).map fun y : Nat => Value.int .u64 y) ∧ Ext w wr) (fun _ v _ => S - (intOf v).toNat)
        case atStart => exact ⟨0, Nat.zero_le _, rfl, World.ownsRow_nil _ _ _ _, Ext.refl w⟩
        case round =>
          obtain ⟨x, hx, rfl, hown, hxw⟩ := hrel
          by_cases hlt : x < S
          · have C3 := Lib.hid (HD.out wr x hlt)
            have hin := u64_wrap_small (x + 1) (by omega)
            have e : ((x + 1 : Nat) : Int) = (x : Int) + 1 := by omega
            rw [e] at hin
            have Hown := Lib.hid hown
            clear hown e
            go_wp2_with fail
            refine C3.out.mono ?_
            rintro _ w2 ⟨rfl, hy⟩
            have hown2 := own_ext Hown.out hy
            have hx2 := hxw.trans hy
            go_wp2_with (at_builtin; refine wpList_append_own _ rfl (.tmp 48) (.tmp 50) _ rfl w.heap.size 22 i0 (.int .u64 0) 1 8 Tryd.underlying25 hi0 hz0 hz1 hz2 rfl (by omega) u5 x ((tab x (bestOf d)).map fun y : Nat => Value.int .u64 y) rfl (hown2.alloc _) ⟨w2.heap.size, 0, none⟩ 1 1 [.int .u64 (bestOf d x : Nat)] rfl rfl (cell_one_new _ _ _) (by simp [Value.oneCell']) (by unfold maxLen; omega) (by omega) (by have := hx2.size; simp; omega) ?_; intro v2 w3 hown3 hg3 _)
            go_roundw
            case rel =>
              refine ⟨x + 1, by omega, by first | rfl | go_num, ?_, hx2.append hown2 (Nat.le_refl _) hg3⟩
              rw [tab_succ]; simpa using hown3
            case measure => simp [intOf]; omega
          · obtain rfl : x = S := by omega
            have hS := Sets.of_own hown (by omega) (fun i hi => by
              rw [tab_len] at hi
              rw [tab_nth hi]; exact Hlt64.out i)
            have HS := Lib.hid hS
            have CRv := Lib.hid (HRv.out wr _ hxw HS.out)
            obtain ⟨A5, c5, e5, _, _⟩ := hS
            subst e5
            clear hown
            go_wp2_with fail
            refine CRv.out.mono ?_
            rintro _ w2 ⟨a, c, rfl, hy2⟩
            have hx2 := hxw.trans hy2
            go_wp2_with fail
            refine (HDi.out w2).mono ?_
            rintro _ w3 ⟨v3, rfl, hI, hy3⟩
            have hx3 := hx2.trans hy3
            have CF := Lib.hid (HFa.out w3 v3 hI)
            obtain ⟨A3, c3, rfl, _, _⟩ := hI
            go_wp2_with fail
            refine CF.out.mono ?_
            rintro _ w4 ⟨rfl, hy4⟩
            have hx4 := hx3.trans hy4
            go_wp2_with fail
            refine (HA.out w4 hx4).mono ?_
            rintro _ w6 ⟨rfl, hx6⟩
            go_wp2
            go_ret
            exact ⟨rfl, hx4.trans hx6⟩
      · obtain ⟨N, hN⟩ : ∃ N, N = 2 ^ m := ⟨_, rfl⟩
        rw [← hN] at hw1 hmin hw2 hb
        obtain ⟨S, hS⟩ : ∃ S, S = 2 ^ N := ⟨_, rfl⟩
        rw [← hS] at hw2 hb
        have t4 : decide ((S : Int) ≤ (b : Int)) = true := by rw [decide_eq_true_eq]; omega
        have t4n : decide (S ≤ b) = true := by rw [decide_eq_true_eq]; omega
        clear hN hS hb h0
        go_enter Tryd.func3, Tryd.ntmps3
        go_wp2_with fail
        refine (HA.out w (Ext.refl _)).mono ?_
        rintro _ w6 ⟨rfl, hx6⟩
        go_wp2
        go_ret
        exact ⟨rfl, hx6⟩

theorem dalal_row (w : World) (hG : RevG w) (n : Int) (b : Nat) (hb : b < 18446744073709551616) :
    Calls Tryd.prog 3 #[.int .i64 n, .int .u64 b] w fun e w' => e = .returned (.bool true) ∧ Ext w w' := topDalal_any w hG n b hb

end Go.Proofs.YtdlhfihddipjaacDoor
