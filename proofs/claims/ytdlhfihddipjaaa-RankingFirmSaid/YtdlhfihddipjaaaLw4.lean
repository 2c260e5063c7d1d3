/-
  The walk of RankingFirm: what conditioning does, and undoes.
-/
import Derived.Test.YtdlhfihddipjaaaLw2
import Derived.Test.YtdlhfihddipjaaaRkP
namespace Go.Proofs.Ytdlhfihddipjaaa
open Go.RowKit

set_option maxRecDepth 100000 in
set_option maxHeartbeats 8000000 in
theorem firm37_any (w : World) (v : Value) (n : Int) (r : List Int) (s b : Nat) (h : Ints .i64 w v r) (hs64 : s < 18446744073709551616) :
    Calls Try.prog 10 #[.int .i64 n, v, .agg #[.int .u64 s, .int .u64 b]] w fun e w' => e = .returned (.bool true) ∧ Ext w w' := by
  have CA := Lib.hid awake37_any
  have CS := Lib.hid same37_self
  have H := Lib.hid h
  have hq := cells2 w (.int .u64 s) (.int .u64 b) 46
  obtain ⟨hq0, hq1⟩ := hq
  have hx := (Ext.refl w).alloc (.cells #[.int .u64 s, .int .u64 b] 46)
  have HK : Hid (∀ w1, Ext w w1 → Calls Try.prog 49 #[.int .i64 n, v] w1 fun e w' => e = .returned (.int .i64 (rkErr n r)) ∧ w1 = w') := fun w1 hx => rkCheck_any w1 v n r (H.out.ext hx)
  obtain ⟨A, c, rfl, hs, hf⟩ := h
  have hle := hs.le
  have hcap := hs.cap
  clear hf
  by_cases hl : 16 < r.length
  · clear hq0 hq1 hs
    go_enter Try.func10, Try.ntmps10
    go_wp2_with fail
    refine (CA.out _).mono ?_
    rintro e w1 ⟨rfl, hy⟩
    go_wp2_with fail
    go_ret
    exact ⟨rfl, hx.trans hy⟩
  by_cases h0 : rkErr n r = 0
  rotate_left 1
  · have t : (rkErr n r != 0) = true := by rw [bne_iff_ne]; exact h0
    obtain ⟨ee, hee⟩ : ∃ ee, ee = rkErr n r := ⟨_, rfl⟩
    rw [← hee] at t HK
    clear h0 hee hq0 hq1 hs
    go_enter Try.func10, Try.ntmps10
    go_wp2_with fail
    refine (HK.out _ hx).mono ?_
    rintro e w1 ⟨rfl, rfl⟩
    go_wp2_with fail
    refine (CA.out _).mono ?_
    rintro e w1 ⟨rfl, hy⟩
    go_wp2_with fail
    go_ret
    exact ⟨rfl, hx.trans hy⟩
  rw [h0] at HK
  obtain ⟨m, rfl, hm, hr⟩ := rkErr_zero h0
  obtain ⟨f, hf⟩ : ∃ f, f = wrap64 b := ⟨_, rfl⟩
  have hC1 : ∀ w1, Ext w w1 → _ := fun w1 hx => Condition_any w1 (.slice A r.length c) m r s f (H.out.ext hx) hs64
  obtain ⟨L, hL⟩ : ∃ L, L = condR m r s f := ⟨_, rfl⟩
  rw [← hL] at hC1
  by_cases e0 : L.2 = 0
  rotate_left 1
  · have t0 : (L.2 != 0) = true := by rw [bne_iff_ne]; exact e0
    rw [hf] at hC1
    have C1 := Lib.hid hC1
    clear hC1 hL e0 hr h0 hf hs
    go_enter Try.func10, Try.ntmps10
    go_wp2_with fail
    refine (HK.out _ hx).mono ?_
    rintro e w1 ⟨rfl, rfl⟩
    go_wp2
    go_quiet (fail)
    have hx := hx.drewN nq
    clear hq0 hq1 HK
    go_wp2_with fail
    refine (C1.out _ hx).mono ?_
    rintro e w2 ⟨va, rfl, ha, hy⟩
    have hx := hx.trans hy
    clear hy ha C1
    go_wp2_with fail
    refine (CA.out _).mono ?_
    rintro e w1 ⟨rfl, hy⟩
    go_wp2_with fail
    go_ret
    exact ⟨rfl, hx.trans hy⟩
  obtain ⟨l, hLl⟩ : ∃ l, L = (l, 0) := ⟨L.1, by rw [← e0]⟩
  subst hLl
  obtain ⟨p1, p2, p3, p4, p5, p6⟩ := cond_firm hm hr hL.symm
  clear e0 hL h0
  have HC2 : Hid (∀ w1 v1, Ints .i64 w1 v1 l → Calls Try.prog 50 #[.int .i64 m, v1, .int .u64 s] w1 fun e w' => e = .returned (.tuple #[.int .i64 f, .int .i64 0]) ∧ Ext w1 w') := fun w1 v1 h => by have := Firmness_any w1 v1 m l s h hs64; rwa [p1] at this
  have HC3 : Hid (∀ w1 v1, Ints .i64 w1 v1 l → Calls Try.prog 49 #[.int .i64 m, v1] w1 fun e w' => e = .returned (.int .i64 0) ∧ w1 = w') := fun w1 v1 h => by have := rkCheck_any w1 v1 m l h; rwa [p3] at this
  obtain ⟨W, hW⟩ : ∃ W, W = firmR m r s := ⟨_, rfl⟩
  rw [← hW] at p5 p6
  have HC4 : Hid (∀ w1, Ext w w1 → Calls Try.prog 50 #[.int .i64 m, .slice A r.length c, .int .u64 s] w1 fun e w' => e = .returned (.tuple #[.int .i64 W.1, .int .i64 0]) ∧ Ext w1 w') := fun w1 hx => by have := Firmness_any w1 (.slice A r.length c) m r s (H.out.ext hx) hs64; rwa [← hW, p5] at this
  have HC5 : Hid (0 ≤ W.1 → ∀ w1 v1, Ints .i64 w1 v1 l → Calls Try.prog 40 #[.int .i64 m, v1, .int .u64 s, .int .i64 W.1] w1 fun e w' => ∃ v', e = .returned (.tuple #[v', .int .i64 0]) ∧ Ints .i64 w' v' r ∧ Ext w1 w') := fun hp w1 v1 h => by have := Condition_any w1 v1 m l s W.1 h hs64; rwa [p6 hp] at this
  have Hp4 := Lib.hid p4
  have HR := Lib.hid hr.1.2
  have HL : Hid (∀ i, i < l.length → 0 ≤ nth l i ∧ nth l i ≤ 1000) := by
    obtain ⟨m', _, _, q⟩ := rkErr_zero p3
    exact q.1.2
  have HB : Hid (∀ k : Nat, bits .and .u64 ((s : Int) / 2 ^ k) 1 = if s.testBit k then 1 else 0) := fun k => u64_bit s k hs64
  have tl : ((l.length : Int) != (r.length : Int)) = false := by rw [p2]; simp
  obtain ⟨y, hy⟩ : ∃ y, y = W.1 := ⟨_, rfl⟩
  rw [← hy] at HC4 HC5
  have C1 : Hid (∀ w1, Ext w w1 → Calls Try.prog 40 #[.int .i64 m, .slice A r.length c, .int .u64 s, .int .i64 (wrap64 b)] w1 fun e w' => ∃ v', e = .returned (.tuple #[v', .int .i64 0]) ∧ Ints .i64 w' v' l ∧ Ext w1 w') := by rw [← hf]; exact hC1
  rw [hf] at HC2
  have HP2 := Lib.hid p2
  clear hC1 p1 p2 p3 p4 p5 p6 hr hW hy hf hs64 W
  go_enter Try.func10, Try.ntmps10
  go_wp2_with fail
  refine (HK.out _ hx).mono ?_
  rintro e w1 ⟨rfl, rfl⟩
  go_wp2
  go_quiet (fail)
  have hx := hx.drewN nq
  clear hq0 hq1 HK
  go_wp2_with fail
  refine (C1.out _ hx).mono ?_
  rintro e w2 ⟨va, rfl, ha, hy⟩
  have hx := hx.trans hy
  clear hy C1
  have HA2 := Lib.hid ha
  obtain ⟨A2, c2, rfl, hs2, hf2⟩ := ha
  have hle2 := hs2.le
  have hcap2 := hs2.cap
  have C2 := Lib.hid (HC2.out w2 _ HA2.out)
  clear hf2 HC2
  go_wp2_with fail
  refine C2.out.mono ?_
  rintro e w3 ⟨rfl, hy⟩
  have hx3 := hx.trans hy
  have HA3 := Lib.hid (HA2.out.ext hy)
  have hs3 := hs2.ext hy
  have C3 := Lib.hid (HC3.out w3 _ HA3.out)
  clear hy hs2 HC3 C2
  go_wp2_with fail
  refine C3.out.mono ?_
  rintro e w4 ⟨rfl, rfl⟩
  clear C3
  go_wp2
  go_loopw [74] (fun i wr => ∃ k : Nat, k ≤ r.length ∧ i = .int .i64 k ∧ Ext w3 wr) (fun i _ => r.length - (intOf i).toNat)
  case atStart => exact ⟨0, Nat.zero_le _, rfl, Ext.refl _⟩
  case round =>
    obtain ⟨k, hk, rfl, hxr⟩ := hrel
    by_cases hlt : k < r.length
    · go_wp2
      go_loopw [79] (fun i wr2 => ∃ j : Nat, j ≤ r.length ∧ i = .int .i64 j ∧ Ext w3 wr2) (fun i _ => r.length - (intOf i).toNat)
      case atStart => exact ⟨0, Nat.zero_le _, rfl, hxr⟩
      case round =>
        obtain ⟨j, hj, rfl, hxr2⟩ := hrel
        by_cases hlj : j < r.length
        · obtain ⟨ad, rfl, _, hc1⟩ := ((hs.ext hx3).ext hxr2).get hlt
          obtain ⟨ad2, rfl, _, hd1⟩ := (hs3.ext hxr2).get (show k < l.length by have := HP2.out; omega)
          obtain ⟨adx, eqx, _, hc2⟩ := ((hs.ext hx3).ext hxr2).get hlj
          obtain rfl : ad = adx := by injection eqx
          obtain ⟨ady, eqy, _, hd2⟩ := (hs3.ext hxr2).get (show j < l.length by have := HP2.out; omega)
          obtain rfl : ad2 = ady := by injection eqy
          have bk := HB.out k
          have bj := HB.out j
          have hkl : (k : Int) < l.length := by have := HP2.out; omega
          have hjl : (j : Int) < l.length := by have := HP2.out; omega
          have r1 := HR.out k hlt
          have r2 := HR.out j hlj
          have l1 := HL.out k (by have := HP2.out; omega)
          have l2 := HL.out j (by have := HP2.out; omega)
          have hw1 : wrap64 (nth l k - nth l j) = nth l k - nth l j := IntWalk.wrap64_in _ ⟨by omega, by omega⟩
          have hw2 : wrap64 (nth r k - nth r j) = nth r k - nth r j := IntWalk.wrap64_in _ ⟨by omega, by omega⟩
          have h4 := Hp4.out k j hlt hlj
          cases b1 : s.testBit k <;> cases b2 : s.testBit j <;> rw [b1] at bk h4 <;> rw [b2] at bj h4 <;> (first | rw [if_pos rfl] at bk | rw [if_neg (by simp)] at bk) <;> (first | rw [if_pos rfl] at bj | rw [if_neg (by simp)] at bj)
          rotate_left 1
          · clear h4 b1 b2 hw1 hw2 r1 r2 l1 l2
            go_wp2
            go_quiet (fail)
            go_wp2
            go_roundw
            case rel => exact ⟨j + 1, by omega, by go_num, hxr2.drewN _⟩
            case measure => simp [intOf]; omega
          · clear h4 b1 b2 hw1 hw2 r1 r2 l1 l2
            go_wp2
            go_quiet (fail)
            go_wp2
            go_roundw
            case rel => exact ⟨j + 1, by omega, by go_num, hxr2.drewN _⟩
            case measure => simp [intOf]; omega
          all_goals
            have t3 : ((nth l k - nth l j) != (nth r k - nth r j)) = false := by rw [h4 rfl]; simp
            clear h4 b1 b2 r1 r2 l1 l2
            go_wp2
            go_quiet (fail)
            go_wp2
            go_roundw
            case rel => exact ⟨j + 1, by omega, by go_num, hxr2.drewN _⟩
            case measure => simp [intOf]; omega
        · obtain rfl : j = r.length := by omega
          go_wp2
          go_roundw
          case rel => exact ⟨k + 1, by omega, by go_num, hxr2⟩
          case measure => simp [intOf]; omega
    · obtain rfl : k = r.length := by omega
      have hx := hx3.trans hxr
      have HA4 := Lib.hid (HA3.out.ext hxr)
      have C4 := Lib.hid (HC4.out wr hx)
      clear hs hs3 HA3 HA2 HC4
      by_cases hneg : y < 0
      · go_wp2_with fail
        refine C4.out.mono ?_
        rintro e w5 ⟨rfl, hy⟩
        have hx := hx.trans hy
        clear hy
        go_wp2_with fail
        refine (CA.out _).mono ?_
        rintro e w1 ⟨rfl, hy⟩
        go_wp2_with fail
        go_ret
        exact ⟨rfl, hx.trans hy⟩
      · have HC6 := Lib.hid (HC5.out (by omega))
        go_wp2_with fail
        refine C4.out.mono ?_
        rintro e w5 ⟨rfl, hy⟩
        have hx := hx.trans hy
        have HA5 := Lib.hid (HA4.out.ext hy)
        clear hy
        go_wp2_with fail
        refine (HC6.out w5 _ HA5.out).mono ?_
        rintro e w6 ⟨vb, rfl, hb, hy⟩
        have hx := hx.trans hy
        clear hy
        go_wp2_with fail
        refine (CS.out _ _ _ _ hb (H.out.ext hx)).mono ?_
        rintro e w7 ⟨rfl, hy⟩
        have hx := hx.trans hy
        clear hy hb
        go_wp2_with fail
        refine (CA.out _).mono ?_
        rintro e w1 ⟨rfl, hy⟩
        go_wp2_with fail
        go_ret
        exact ⟨rfl, hx.trans hy⟩

end Go.Proofs.Ytdlhfihddipjaaa
