/-
  TopAgreedValue: the walk of the law.
-/
import Derived.Test.YtdlhfihddipjaacDoorGm5
import Derived.Test.YtdlhfihddipjaacDoorAg5
import Derived.Deep.RegionHeld3
namespace Go.Proofs.YtdlhfihddipjaacDoor
open Go.RowKit

theorem prior_form6 {w1 : World} {o1 o2 : Value} {W : List Int} {C : List (List Int)} (hp : Prior w1 o1 o2 W C) : ∃ A c A' c', o1 = .slice A W.length c ∧ o2 = .slice A' C.length c' := by
  obtain ⟨⟨A, c, e1, _⟩, ⟨A', c', _, e2, _⟩⟩ := hp
  exact ⟨_, _, _, _, e1, e2⟩
theorem post_bd {W : List Int} {C : List (List Int)} (hP : PrOk W C) {a k : Nat} (ha : a < C.length) (hk : k < W.length) (e : Nat) : (post W C a k e).1 ≤ 1000000 ∧ (post W C a k e).2 ≤ 1000000 := by
  have h1 := post_le hP ha hk e
  have h2 : (post W C a k e).2 ≤ 1000000 := by
    unfold post
    dsimp only
    exact Nat.le_trans (Nat.div_le_self _ _) (wt_nat hP _).2
  exact ⟨Nat.le_trans h1 h2, h2⟩
theorem chk_ok6 {W : List Int} {C : List (List Int)} {a k e : Nat} (hP : PrOk W C) (ha : a < C.length) (hk : k < W.length) (he : e < 2 ^ W.length) : chkErr W C a k e = 0 := by
  unfold chkErr
  rw [if_neg (by rw [agErr_ok hP]; simp), if_neg]
  rintro (h | h | h) <;> omega
theorem mul_in (a b : Nat) (ha : a ≤ 1000000) (hb : b ≤ 1000000) : wrap64 ((a : Int) * (b : Int)) = ((a * b : Nat) : Int) := by
  have h : a * b ≤ 1000000 * 1000000 := Nat.mul_le_mul ha hb
  rw [← Int.natCast_mul]
  generalize a * b = n at *
  exact IntWalk.wrap64_in (n : Int) ⟨by omega, by omega⟩

set_option maxRecDepth 100000 in
set_option maxHeartbeats 8000000 in
theorem agreedValue_any (w : World) (hD : DeB w) (v1 v2 : Value) (W : List Int) (C : List (List Int)) (h : Prior w v1 v2 W C) (e : Nat) (he : e < 18446744073709551616) :
    Calls Tryd.prog 5 #[.agg #[v1, v2], .int .u64 e] w fun x w' => x = .returned (.bool true) ∧ Ext w w' := by
  have HAw : Hid (∀ w1, Ext w w1 → Calls Tryd.prog 11 #[] w1 fun x w' => x = .returned (.bool true) ∧ Ext w1 w') := fun w1 hx => cawake12_any w1 (hD.ext hx)
  have HFe : Hid (∀ w1, Ext w w1 → Calls Tryd.prog 12 #[.agg #[v1, v2], .int .i64 12] w1 fun x w' => x = .returned (.bool (fewB W C 12)) ∧ Ext w1 w') := fun w1 hx => few_any w1 v1 v2 W C (h.ext hx) 12
  obtain ⟨y, hy⟩ : ∃ y, y = agErr W C := ⟨_, rfl⟩
  have HCh : Hid (∀ w1, Ext w w1 → Calls Tryd.prog 16 #[.agg #[v1, v2]] w1 fun x w' => x = .returned (.int .i64 y) ∧ Ext w1 w') := fun w1 hx => by
    have := agCheck_any w1 v1 v2 W C (h.ext hx)
    rwa [← hy] at this
  have HCk : Hid (∀ w1 u1 u2 D, Prior w1 u1 u2 W D → PrOk W D → Calls Tryd.prog 16 #[.agg #[u1, u2]] w1 fun x w' => x = .returned (.int .i64 0) ∧ Ext w1 w') := fun w1 u1 u2 D hp hk => by
    have := agCheck_any w1 u1 u2 W D hp
    rwa [agErr_ok hk] at this
  obtain ⟨z, hz⟩ : ∃ z, z = anyErr W C 0 e := ⟨_, rfl⟩
  have HP1 : Hid (∀ w1, Ext w w1 → Calls Tryd.prog 17 #[.agg #[v1, v2], .int .u64 e] w1 fun x w' => ∃ o, x = .returned (.tuple #[o, .int .i64 z]) ∧ Pris w' o W (exR W C e) ∧ Ext w1 w') := fun w1 hx => by
    have := Exchange_any w1 v1 v2 W C (h.ext hx) e he
    rwa [← hz] at this
  have HCm : Hid (∀ w1 u1 u2 D (k : Nat), Prior w1 u1 u2 W D → PrOk W D → k < W.length → Calls Tryd.prog 13 #[.agg #[u1, u2], .int .i64 (k : Nat)] w1 fun x w' => ∃ j, IsComm W.length D j ∧ x = .returned (.tuple #[.int .u64 (blockOf j k : Nat), .int .i64 0]) ∧ Ext w1 w') := fun w1 u1 u2 D k hp hk hkl => by
    have h0 : commErr W D k = 0 := by
      unfold commErr
      rw [if_neg (by rw [agErr_ok hk]; simp), if_neg (by omega)]
    refine (Common_any w1 u1 u2 W D hp k).mono fun x w' ⟨c, e1, e2, e3⟩ => ?_
    unfold CommIs at e2
    rw [if_pos h0] at e2
    obtain ⟨j, hj, rfl⟩ := e2
    rw [h0] at e1
    exact ⟨j, hj, by rw [e1]; simp, e3⟩
  have HWt : Hid (∀ w1 u1 u2 D (s : Nat), Prior w1 u1 u2 W D → PrOk W D → s < 18446744073709551616 → Calls Tryd.prog 18 #[.agg #[u1, u2], .int .u64 (s : Nat)] w1 fun x w' => x = .returned (.int .i64 ((wt W s).toNat : Nat)) ∧ Ext w1 w') := fun w1 u1 u2 D s hp hk hs => by
    have := refWeight_any w1 u1 u2 W hp.1 hk.n64 hk.wok s hs
    rwa [← (wt_nat hk s).1] at this
  have HPo : Hid (∀ w1 u1 u2 D (a k : Nat), Prior w1 u1 u2 W D → PrOk W D → a < D.length → k < W.length → e < 2 ^ W.length → Calls Tryd.prog 19 #[.agg #[u1, u2], .int .i64 (a : Nat), .int .i64 (k : Nat), .int .u64 e] w1 fun x w' => x = .returned (.tuple #[.agg #[.int .i64 ((post W D a k e).1 : Nat), .int .i64 ((post W D a k e).2 : Nat)], .int .i64 0]) ∧ Ext w1 w') := fun w1 u1 u2 D a k hp hk ha hkl hee => by
    have := Posterior_any w1 u1 u2 W D hp a k e he
    unfold postR at this
    rw [if_neg (by rw [chk_ok6 hk ha hkl hee]; simp)] at this
    simpa [fracV] using this
  obtain ⟨q, hq⟩ : ∃ q, q = fewB W C 12 := ⟨_, rfl⟩
  rw [← hq] at HFe
  obtain ⟨⟨A, c, rfl, hs, _⟩, ⟨A2, c2, vs, rfl, hs2, _⟩⟩ := h
  have HUp := Lib.hid (cellsQG w (.slice A W.length c) (.slice A2 C.length c2) 37)
  have hx1 : Ext w (w.alloc (.cells #[.slice A W.length c, .slice A2 C.length c2] 37)) := (Ext.refl w).alloc _
  have CA := Lib.hid (HAw.out _ hx1)
  have HY := Lib.hid hy
  have HZ := Lib.hid hz
  clear hs hs2 hz hq hy hD
  obtain ⟨p0, p1⟩ := HUp.out _ (Ext.refl _)
  go_enter Tryd.func5, Tryd.ntmps5
  go_wp2_with fail
  refine CA.out.mono ?_
  rintro x w0 ⟨rfl, hy0⟩
  obtain ⟨p0, p1⟩ := HUp.out _ hy0
  go_wp2_with fail
  refine (HFe.out _ (hx1.trans hy0)).mono ?_
  rintro x w2 ⟨rfl, hy2⟩
  have hz2 := hy0.trans hy2
  obtain ⟨p0, p1⟩ := HUp.out _ hz2
  have hx2 := hx1.trans hz2
  clear hy0 hy2
  cases q with
  | false =>
    go_wp2_with fail
    refine (HAw.out _ hx2).mono ?_
    rintro x w3 ⟨rfl, hy3⟩
    go_wp2
    go_ret
    exact ⟨rfl, hx2.trans hy3⟩
  | true =>
    go_wp2_with fail
    refine (HCh.out _ hx2).mono ?_
    rintro x w3 ⟨rfl, hy3⟩
    have hz3 := hz2.trans hy3
    obtain ⟨p0, p1⟩ := HUp.out _ hz3
    have hx3 := hx1.trans hz3
    by_cases ey : y = 0
    · have t : (y != 0) = false := by rw [ey]; rfl
      have hP := Lib.hid (agErr_zero (HY.out.symm.trans ey))
      clear ey
      go_wp2_with fail
      refine (HP1.out _ hx3).mono ?_
      rintro x w4 ⟨o1, rfl, hp1, hy4⟩
      have hz4 := hz3.trans hy4
      obtain ⟨p0, p1⟩ := HUp.out _ hz4
      have hx4 := hx1.trans hz4
      by_cases ez : z = 0
      · have t2 : (z != 0) = false := by rw [ez]; rfl
        have hel : exR W C e = exL W C e (exN W C e + 1) := by unfold exR; rw [if_neg (by rw [← HZ.out, ez]; simp)]
        rw [hel] at hp1
        have Hee : Hid (e < 2 ^ W.length) := by obtain ⟨_, _, _, _, hh⟩ := anyErr_zero (HZ.out.symm.trans ez); exact hh
        have hN := exN_spec hP.out e
        obtain ⟨N, hNN⟩ : ∃ N, N = exN W C e := ⟨_, rfl⟩
        rw [← hNN] at hp1 hN
        obtain ⟨B1, d1, rfl, hl1, hm1⟩ := hp1.form5
        rw [exL_len] at hl1 hp1 ⊢
        have hN' := hp1.get (show N < (exL W C e (N + 1)).length by rw [exL_len]; omega)
        rw [nthC_exL (by omega)] at hN'
        obtain ⟨ad, x1, x2, rfl, hb2, r1, r2, r3, hv⟩ := hN'
        obtain ⟨D, hDe⟩ : ∃ D, D = exC W C e N := ⟨_, rfl⟩
        rw [← hDe] at hv hN
        have hPD : PrOk W D := by rw [hDe]; exact exC_ok hP.out e N
        have hDl : D.length = C.length := by rw [hDe]; exact exC_len W C e N
        obtain ⟨E3, g3, E4, g4, rfl, rfl⟩ := prior_form6 hv
        have Hv := Lib.hid hv
        have HPD := Lib.hid hPD
        have Hrnd := Lib.hid hN.1
        have n64 := hPD.n64
        have c4 := hPD.c4
        have cC4 := hP.out.c4
        rw [hDl] at r3 Hv
        have HDl := Lib.hid hDl
        have hNb : N ≤ 256 := Nat.le_trans hN.2 (Nat.mul_le_mul n64 hP.out.c4)
        obtain ⟨K, hK⟩ : ∃ K, K = N + 1 := ⟨_, rfl⟩
        rw [← hK] at hl1 ⊢
        have tk0 : ((K : Int) == 0) = false := by rw [beq_eq_false_iff_ne]; omega
        have hsub : wrap64 ((K : Int) - 1) = (N : Int) := by rw [show (K : Int) - 1 = (N : Int) by omega]; exact IntWalk.wrap64_in (N : Int) ⟨by omega, by omega⟩
        have hsub2 : (K : Int) - 1 = (N : Int) := by omega
        have hnn : (0 : Int) ≤ (N : Int) := by omega
        have hNK : (N : Int) < (K : Int) := by omega
        have HUq := Lib.hid (cellsQG w4 (.slice E3 W.length g3) (.slice E4 C.length g4) 37)
        have hx5 := hx4.alloc (.cells #[.slice E3 W.length g3, .slice E4 C.length g4] 37)
        have hz5 := hz4.alloc (.cells #[.slice E3 W.length g3, .slice E4 C.length g4] 37)
        have H45 : Hid (Ext w4 (w4.alloc (.cells #[.slice E3 W.length g3, .slice E4 C.length g4] 37))) := (Ext.refl w4).alloc _
        have CK := Lib.hid (HCk.out _ _ _ D (Hv.out.ext H45.out) hPD)
        obtain ⟨q0, q1⟩ := HUq.out _ (Ext.refl _)
        clear hel hN hNN hv hp1 ez hDe hPD hDl hK hNb
        go_wp2_with fail
        refine CK.out.mono ?_
        rintro x w6 ⟨rfl, hy6⟩
        have hz6 := hz5.trans hy6
        have hx6 := hx5.trans hy6
        have H46 := Lib.hid (H45.out.trans hy6)
        obtain ⟨p0, p1⟩ := HUp.out _ hz6
        obtain ⟨q0, q1⟩ := HUq.out _ hy6
        have Hy6 := Lib.hid hy6
        have tn : ((W.length : Int) != (W.length : Int)) = false := by simp
        have tn2 : ((C.length : Int) != (C.length : Int)) = false := by simp
        clear r1 r2 r3 tk0 hsub hsub2 hnn hNK hy4 hy6
        go_wp2
        go_loopw [70] (fun v wr => ∃ k : Nat, k ≤ W.length ∧ v = .int .i64 k ∧ Ext w6 wr) (fun v _ => W.length - (intOf v).toNat)
        case atStart => exact ⟨0, Nat.zero_le _, rfl, Ext.refl _⟩
        case round =>
          obtain ⟨k, hk, rfl, hxr⟩ := hrel
          obtain ⟨q0, q1⟩ := HUq.out _ (Hy6.out.trans hxr)
          have hx := hx6.trans hxr
          by_cases hlt : k < W.length
          · have CM := Lib.hid (HCm.out wr _ _ D k (Hv.out.ext (H46.out.trans hxr)) HPD.out hlt)
            go_wp2_with fail
            refine CM.out.mono ?_
            rintro x w7 ⟨j, hj, rfl, hy7⟩
            have hx7 := hxr.trans hy7
            obtain ⟨q0, q1⟩ := HUq.out _ (Hy6.out.trans hx7)
            have hB64 : blockOf j k < 18446744073709551616 := blockOf_lt _ _ (by rw [hj.prt.1]; exact n64)
            have hand := u64_and (blockOf j k) e hB64 he
            have hag : ∀ a, a < C.length → ((post W D a k e).1 : Int) * wt W (blockOf j k) = ((post W D a k e).2 : Int) * wt W (blockOf j k &&& e) := fun a ha =>
              agree_share HPD.out hj hlt (by rw [HDl.out]; exact ha) (fix_const HPD.out Hrnd.out hj hlt (by rw [HDl.out]; exact ha))
            have hw1 := wt_nat HPD.out (blockOf j k)
            have hw2 := wt_nat HPD.out (blockOf j k &&& e)
            obtain ⟨f, hf⟩ : ∃ f : Nat → Nat, f = fun s => (wt W s).toNat := ⟨_, rfl⟩
            have CW : Hid (∀ w' (s : Nat), Ext w7 w' → s < 18446744073709551616 → Calls Tryd.prog 18 #[.agg #[.slice E3 W.length g3, .slice E4 C.length g4], .int .u64 (s : Nat)] w' fun x w'' => x = .returned (.int .i64 (f s : Nat)) ∧ Ext w' w'') := fun w' s kk hs => by
              rw [hf]
              exact HWt.out w' _ _ D s (Hv.out.ext ((H46.out.trans hx7).trans kk)) HPD.out hs
            have Hag : Hid (∀ a, a < C.length → (post W D a k e).1 * f (blockOf j k) = (post W D a k e).2 * f (blockOf j k &&& e)) := fun a ha => by
              have := hag a ha
              rw [← hw1.1, ← hw2.1, ← Int.natCast_mul, ← Int.natCast_mul] at this
              rw [hf]
              exact Int.ofNat.inj this
            have hM : f (blockOf j k) ≤ 1000000 := by rw [hf]; exact hw1.2
            have hPt : f (blockOf j k &&& e) ≤ 1000000 := by rw [hf]; exact hw2.2
            have hBe64 : blockOf j k &&& e < 18446744073709551616 := Nat.lt_of_le_of_lt Nat.and_le_left hB64
            obtain ⟨B, hB⟩ : ∃ B, B = blockOf j k := ⟨_, rfl⟩
            rw [← hB] at hand Hag hM hPt hB64 hBe64 ⊢
            obtain ⟨Be, hBe⟩ : ∃ n, n = B &&& e := ⟨_, rfl⟩
            rw [← hBe] at hand Hag hPt hBe64
            have HB64 := Lib.hid hB64
            have HBe64 := Lib.hid hBe64
            have lq : w4.heap.size < w7.heap.size := Nat.lt_of_lt_of_le (by simp) (Hy6.out.trans hx7).size
            have HKp : Hid (∀ w' w'' : World, (w'.cell? ⟨w4.heap.size, 0, none⟩ = some (.slice E3 W.length g3) ∧ w'.cell? ⟨w4.heap.size, 1, none⟩ = some (.slice E4 C.length g4) ∧ Ext w7 w') → Ext w' w'' → (w''.cell? ⟨w4.heap.size, 0, none⟩ = some (.slice E3 W.length g3) ∧ w''.cell? ⟨w4.heap.size, 1, none⟩ = some (.slice E4 C.length g4) ∧ Ext w7 w'')) := fun w' w'' ⟨c0, c1, k0⟩ kk => by
              have l2 := k0.size
              exact ⟨(kk.cell (show w4.heap.size < _ by omega)).trans c0, (kk.cell (show w4.heap.size < _ by omega)).trans c1, k0.trans kk⟩
            clear hB hBe hf hw1 hw2 hag hj hB64 hBe64
            go_wp2
            go_region_held3 (fun w' : World => w'.cell? ⟨w4.heap.size, 0, none⟩ = some (.slice E3 W.length g3) ∧ w'.cell? ⟨w4.heap.size, 1, none⟩ = some (.slice E4 C.length g4) ∧ Ext w7 w') (first | exact ⟨q0, q1, (Ext.refl _).drew⟩ | (go_split_ands; refine HKp.out _ _ ⟨?_, ?_, ?_⟩ hyA <;> assumption) | assumption) (first | (go_at_call 18; refine (CW.out _ _ (by go_split_ands; assumption) ?hs).mono ?_; (case hs => first | exact HBe64.out | exact HB64.out); rintro x wA ⟨rfl, hyA⟩))
            all_goals
              go_split_ands
              have hxB : Ext w7 wA := by assumption
              have hxB6 := hx7.trans hxB
              obtain ⟨q0, q1⟩ := HUq.out _ (Hy6.out.trans hxB6)
              go_wp2
              go_loopw [92] (fun v wi => ∃ a : Nat, a ≤ C.length ∧ v = .int .i64 a ∧ Ext wA wi) (fun v _ => C.length - (intOf v).toNat)
              case atStart => exact ⟨0, Nat.zero_le _, rfl, Ext.refl _⟩
              case round =>
                obtain ⟨a, ha, rfl, hxi⟩ := hrel
                have hxi6 := hxB6.trans hxi
                obtain ⟨q0, q1⟩ := HUq.out _ (Hy6.out.trans hxi6)
                by_cases hal : a < C.length
                · have CP := Lib.hid (HPo.out wr _ _ D a k (Hv.out.ext (H46.out.trans hxi6)) HPD.out (by rw [HDl.out]; exact hal) hlt Hee.out)
                  obtain ⟨b1, b2⟩ := post_bd HPD.out (by rw [HDl.out]; exact hal) hlt e
                  obtain ⟨_, hd0, _⟩ := post_facts HPD.out (by rw [HDl.out]; exact hal) hlt e
                  have hX := Hag.out a hal
                  obtain ⟨m, hme⟩ : ∃ n, n = (post W D a k e).1 := ⟨_, rfl⟩
                  obtain ⟨d, hde⟩ : ∃ n, n = (post W D a k e).2 := ⟨_, rfl⟩
                  rw [← hme] at CP b1 hX
                  rw [← hde] at CP b2 hX hd0
                  have hm1 := mul_in m (f B) b1 hM
                  have hm2 := mul_in d (f Be) b2 hPt
                  rw [← hX] at hm2
                  obtain ⟨X, hXe⟩ : ∃ n, n = m * f B := ⟨_, rfl⟩
                  rw [← hXe] at hm1 hm2
                  have t6 : decide ((d : Int) < 1) = false := by rw [decide_eq_false_iff_not]; omega
                  have t6n : decide (d = 0) = false := by rw [decide_eq_false_iff_not]; omega
                  have t6m : decide (d < 1) = false := by rw [decide_eq_false_iff_not]; omega
                  clear hme hde hX hXe b1 b2 hd0
                  go_wp2_with fail
                  refine CP.out.mono ?_
                  rintro x w9 ⟨rfl, hy9⟩
                  obtain ⟨f0, f1⟩ := cellsP w9 (.int .i64 (m : Nat)) (.int .i64 (d : Nat)) 52
                  have hx9 := (hxi.trans hy9).alloc (.cells #[.int .i64 (m : Nat), .int .i64 (d : Nat)] 52)
                  go_wp2
                  go_roundw
                  case rel => exact ⟨a + 1, by omega, by go_num, hx9⟩
                  case measure => simp [intOf]; omega
                · obtain rfl : a = C.length := by omega
                  go_wp2
                  go_roundw
                  case rel => exact ⟨k + 1, by omega, by go_num, hxi6⟩
                  case measure => simp [intOf]; omega
          · obtain rfl : k = W.length := by omega
            go_wp2
            go_ret
            exact ⟨rfl, hx⟩
      · have t2 : (z != 0) = true := by rw [bne_iff_ne]; exact ez
        clear ez hp1
        go_wp2
        go_ret
        exact ⟨rfl, hx4⟩
    · have t : (y != 0) = true := by rw [bne_iff_ne]; exact ey
      clear ey
      go_wp2_with fail
      refine (HAw.out _ hx3).mono ?_
      rintro x w4 ⟨rfl, hy4⟩
      go_wp2
      go_ret
      exact ⟨rfl, hx3.trans hy4⟩

theorem agreedValue_row (w : World) (hD : DeB w) (v1 v2 : Value) (W : List Int) (C : List (List Int)) (h : Prior w v1 v2 W C) (e : Nat) (he : e < 18446744073709551616) :
    Calls Tryd.prog 5 #[.agg #[v1, v2], .int .u64 e] w fun x w' => x = .returned (.bool true) ∧ Ext w w' := agreedValue_any w hD v1 v2 W C h e he

end Go.Proofs.YtdlhfihddipjaacDoor
