/-
  The doors: model.Generated over a model of partitions.
-/
import Derived.Test.YtdlhfihddipjaacDoorGm3
namespace Go.Proofs.YtdlhfihddipjaacDoor
open Go.RowKit

theorem wrap_pred64 {T : Nat} (h0 : T ≠ 0) (h : T < 18446744073709551616) : IntKind.u64.wrap ((T : Int) - 1) = ((T - 1 : Nat) : Int) := by
  rw [IntKind.wrap_u64]; omega
theorem nthR_rel {C : List (List Int)} {a : Nat} (ha : a < C.length) : nthR (C.map relOf) a = relOf (nthL C a) := by
  rw [nthR_eq (by simpa using ha), nthL_eq ha]; simp

set_option maxRecDepth 100000 in
set_option maxHeartbeats 8000000 in
theorem gen_ok (w : World) (y z : Value) (W : List Int) (C : List (List Int)) (k : Nat) (j : List Int) (hD : DeB w) (hP : PrOk W C) (hj : IsComm W.length C j) (hk : k < W.length) (hy : Sets w y []) (hR : SRows w z (C.map relOf)) :
    Calls Tryd.prog 15 #[.agg #[.int .i64 (W.length : Nat), y, z], .int .u64 (2 ^ k : Nat)] w fun e w' => e = .returned (.tuple #[.int .u64 (blockOf j k : Nat), .int .i64 0]) ∧ Ext w w' := by
  have n64 := hP.n64
  have n0 := hP.n0
  have c4 := hP.c4
  have hlen : ∀ i, i < (C.map relOf).length → (nthR (C.map relOf) i).length = W.length := fun i hi => by
    rw [List.length_map] at hi
    rw [nthR_rel hi, relOf_len, hP.cl i hi]
  have hent : ∀ i, i < (C.map relOf).length → ∀ k, k < (nthR (C.map relOf) i).length → nthN (nthR (C.map relOf) i) k < 2 ^ W.length := fun i hi k hk => by
    rw [hlen i hi] at hk
    rw [List.length_map] at hi
    rw [nthR_rel hi, relOf_nth (by rw [hP.cl i hi]; exact hk)]
    have : blockOf (nthL C i) k < 2 ^ (nthL C i).length := maskTo_lt _ _
    rwa [hP.cl i hi] at this
  have HCk : Hid (∀ w1, Ext w w1 → Calls Tryd.prog 34 #[.agg #[.int .i64 (W.length : Nat), y, z]] w1 fun e w' => e = .returned (.int .i64 0) ∧ Ext w1 w') := fun w1 hx =>
    mchk_ok w1 y z W.length (C.map relOf) (hy.ext hx) (hR.ext hx) n0 n64 (by simpa using c4) hlen hent
  have HAl : Hid (∀ w1, Calls Tryd.prog 35 #[.int .i64 (W.length : Nat)] w1 fun e w' => e = .returned (.int .u64 (full W.length : Nat)) ∧ w1 = w') := fun w1 => mall_ok w1 _ n64
  have HTz : Hid (∀ w1 x v, Ext w w1 → x < 18446744073709551616 → x ≠ 0 → x.testBit v = true → (∀ j, j < v → x.testBit j = false) → Calls Tryd.prog 36 #[.int .u64 (x : Nat)] w1 fun e w' => e = .returned (.int .i64 (v : Nat)) ∧ Ext w1 w') := fun w1 x v hx h1 h2 h3 h4 => tz_ok w1 x v (hD.ext hx) h1 h2 h3 h4
  have hpk : 2 ^ k < 2 ^ W.length := Nat.pow_lt_pow_right (by omega) hk
  have h64 : 2 ^ W.length ≤ 18446744073709551616 := Nat.pow_le_pow_right (n := 2) (by omega) n64
  have hfull := u64_andNot (2 ^ k) (full W.length) (by omega) (full_lt64 n64)
  rw [sdiff_full.2 hpk] at hfull
  obtain ⟨B, hB⟩ : ∃ B, B = blockOf j k := ⟨_, rfl⟩
  have hBk : B.testBit k = true := by rw [hB, blockOf_bit, hj.prt.1]; simp [hk]
  have hBlt : B < 2 ^ W.length := by
    have : blockOf j k < 2 ^ j.length := maskTo_lt _ _
    rwa [hj.prt.1, ← hB] at this
  have hBlt64 : B < 18446744073709551616 := by omega
  have hst : Rch W.length k C B (2 ^ k) (2 ^ k) := Rch.start hBk
  have Hdone : Hid (∀ O, Rch W.length k C B O 0 → O = B) := fun O h => by
    rw [hB] at h ⊢
    exact Rch.done (fun a ha => hP.prt ha) hj hk h
  have hsat : ∀ a, a < C.length → ∀ i u, i < W.length → u < W.length → nth (nthL C a) i = nth (nthL C a) u → B.testBit i = B.testBit u := fun a ha => by
    rw [hB]; exact comm_sat hP hj ha k
  rw [← hB]
  obtain ⟨K, hK⟩ : ∃ K, K = 2 ^ k := ⟨_, rfl⟩
  rw [← hK] at hfull hpk hst ⊢
  obtain ⟨F, hF⟩ : ∃ F, F = full W.length := ⟨_, rfl⟩
  rw [← hF] at hfull HAl
  have Hsat := Lib.hid hsat
  have Hst := Lib.hid hst
  have HP := Lib.hid hP
  have H := Lib.hid hR
  have HBlt := Lib.hid hBlt
  obtain ⟨Ay, cy, rfl, hsy, _⟩ := hy
  obtain ⟨Az, cz, vz, rfl, hsz, _⟩ := hR
  have hcy := hsy.cap
  have hlz := hsz.le
  have hcz := hsz.cap
  rw [show (C.map relOf).length = C.length by simp] at hlz HCk H ⊢
  have HUp := Lib.hid (cellsM3 w (.int .i64 (W.length : Nat)) (.slice Ay 0 cy) (.slice Az C.length cz) 42)
  have hx1 := (Ext.refl w).alloc (.cells #[.int .i64 (W.length : Nat), .slice Ay 0 cy, .slice Az C.length cz] 42)
  obtain ⟨p0, p1, p2⟩ := HUp.out _ (Ext.refl _)
  clear hsy hsz hlen hent hB hK hF hsat hst hP hj hD hBk hBlt h64 hpk
  go_enter Tryd.func15, Tryd.ntmps15
  go_wp2_with fail
  refine (HCk.out _ hx1).mono ?_
  rintro _ w2 ⟨rfl, hy2⟩
  obtain ⟨p0, p1, p2⟩ := HUp.out _ hy2
  have hx2 := hx1.trans hy2
  go_wp2_with fail
  refine (HAl.out _).mono ?_
  rintro _ w3 ⟨rfl, rfl⟩
  go_wp2
  go_loopw [7, 8] (fun o t wr => ∃ O T : Nat, o = .int .u64 O ∧ t = .int .u64 T ∧ Hid (Rch W.length k C B O T) ∧ Ext w2 wr) (fun o t _ => genM o t)
  case atStart => exact ⟨K, K, rfl, rfl, Hst.out, Ext.refl _⟩
  case round =>
    obtain ⟨O, T, rfl, rfl, hr, hxr⟩ := hrel
    have hx := hx2.trans hxr
    obtain ⟨p0, p1, p2⟩ := HUp.out _ (hy2.trans hxr)
    have hOB : O ≤ B := sub_le hr.out.inB
    have hTO : T ≤ O := sub_le hr.out.sub
    have hT64 : T < 18446744073709551616 := by omega
    by_cases h0 : T = 0
    · subst h0
      have hO := Hdone.out O hr.out
      subst hO
      go_wp2
      go_ret2
      exact ⟨rfl, hx⟩
    · have tT : ((T : Int) != 0) = true := by rw [bne_iff_ne]; omega
      obtain ⟨v, hv64, hvb, hvl⟩ := low_ex (N := 64) hT64 h0
      have hvB := hr.out.inB v (hr.out.sub v hvb)
      have hvn : v < W.length := Classical.byContradiction fun hn => by rw [lt_pow_iff.1 HBlt.out v (by omega)] at hvB; exact absurd hvB (by decide)
      have CT := Lib.hid (HTz.out wr T v hx hT64 h0 hvb hvl)
      have hpr := wrap_pred64 h0 hT64
      have hand := u64_and T (T - 1) hT64 (by omega)
      have hent := hr.out.enter hvb hvl
      obtain ⟨T1, hT1⟩ : ∃ T1, T1 = T &&& (T - 1) := ⟨_, rfl⟩
      rw [← hT1] at hand hent
      obtain ⟨Tp, hTp⟩ : ∃ Tp, Tp = T - 1 := ⟨_, rfl⟩
      rw [← hTp] at hpr hand
      have Hent := Lib.hid hent
      have Hcl : Hid (∀ O' T', RchV W.length k C B O' T' v C.length → (∀ i, O.testBit i = true → T.testBit i = false → O'.testBit i = true ∧ T'.testBit i = false) → 18446744073709551616 - sdiff O' T' < 18446744073709551616 - sdiff O T) := fun O' T' hR hm => by
        have h1 : sdiff O T < sdiff O' T' := by
          refine sub_lt (v := v) (fun i hi => ?_) (by rw [sdiff_bit, hvb]; simp) (by rw [sdiff_bit, hR.hv, hR.nv]; rfl)
          rw [sdiff_bit] at hi ⊢
          cases h1 : O.testBit i <;> cases h2 : T.testBit i <;> rw [h1, h2] at hi <;> simp at hi
          obtain ⟨h3, h4⟩ := hm i h1 h2
          rw [h3, h4]; rfl
        have h2 : sdiff O' T' ≤ B := sub_le fun i hi => by
          rw [sdiff_bit] at hi
          cases h3 : O'.testBit i with
          | true => exact hR.inB i h3
          | false => rw [h3] at hi; simp at hi
        omega
      have Hst1 : Hid (∀ i, O.testBit i = true → T.testBit i = false → O.testBit i = true ∧ T1.testBit i = false) := fun i h1 h2 => ⟨h1, by rw [hT1, low_strike hvb hvl, h2]; rfl⟩
      have H0 := Lib.hid h0
      clear hvb hvl hvB hent hT1 hTp h0 hOB hTO
      go_wp2_with fail
      refine CT.out.mono ?_
      rintro _ w4 ⟨rfl, hy4⟩
      obtain ⟨p0, p1, p2⟩ := HUp.out _ ((hy2.trans hxr).trans hy4)
      have hx4 := hxr.trans hy4
      go_wp2
      go_loopw [7, 8, 36] (fun o t c wi => ∃ O' T' a : Nat, a ≤ C.length ∧ o = .int .u64 O' ∧ t = .int .u64 T' ∧ c = .int .i64 a ∧ Hid (RchV W.length k C B O' T' v a) ∧ Hid (∀ i, O.testBit i = true → T.testBit i = false → O'.testBit i = true ∧ T'.testBit i = false) ∧ Ext w4 wi) (fun _ _ c _ => C.length - (intOf c).toNat)
      case atStart => exact ⟨O, T1, 0, Nat.zero_le _, rfl, rfl, rfl, Hent.out, Hst1.out, Ext.refl _⟩
      case round =>
        obtain ⟨O', T', a, ha, rfl, rfl, rfl, hrv, hmono, hxi⟩ := hrel
        by_cases hal : a < C.length
        · obtain ⟨ad, A', c', rfl, hb, hce, _, _, hS⟩ := (H.out.ext ((hx2.trans hx4).trans hxi)).get (i := a) (by simpa using hal)
          rw [nthR_rel hal] at hce hS
          rw [relOf_len, HP.out.cl a hal] at hce hS
          obtain ⟨As, cc, ei, hss, _⟩ := hS
          rw [relOf_len, HP.out.cl a hal] at hss ei
          injection ei with ei1 ei2 ei3
          subst ei1
          obtain ⟨adr, e1, hbr, hcr⟩ := hss.get hvn
          subst e1
          rw [relOf_nth (by rw [HP.out.cl a hal]; exact hvn)] at hcr
          have hblk : blockOf (nthL C a) v < 18446744073709551616 := blockOf_lt _ _ (by rw [HP.out.cl a hal]; exact n64)
          have hO64 : O' < 18446744073709551616 := by have := sub_le hrv.out.inB; omega
          have hT64' : T' < 18446744073709551616 := by have := sub_le hrv.out.sub; omega
          have hsd : sdiff (blockOf (nthL C a) v) O' ≤ blockOf (nthL C a) v := sub_le fun i hi => by
            rw [sdiff_bit] at hi
            cases h3 : (blockOf (nthL C a) v).testBit i with
            | true => rfl
            | false => rw [h3] at hi; simp at hi
          have han := u64_andNot (blockOf (nthL C a) v) O' hblk hO64
          have hor1 := u64_or T' (sdiff (blockOf (nthL C a) v) O') hT64' (by omega)
          have hor2 := u64_or O' (blockOf (nthL C a) v) hO64 hblk
          have hstep := hrv.out.step hal hvn (HP.out.cl a hal) (Hsat.out a hal)
          have hm2 : ∀ i, O.testBit i = true → T.testBit i = false → (O' ||| blockOf (nthL C a) v).testBit i = true ∧ (T' ||| sdiff (blockOf (nthL C a) v) O').testBit i = false := fun i h1 h2 => by
            obtain ⟨h3, h4⟩ := hmono.out i h1 h2
            rw [Nat.testBit_or, Nat.testBit_or, sdiff_bit, h3, h4]; simp
          obtain ⟨bk, hbk⟩ : ∃ n, n = blockOf (nthL C a) v := ⟨_, rfl⟩
          rw [← hbk] at hcr han hor1 hor2 hstep hm2
          obtain ⟨sd, hsde⟩ : ∃ n, n = sdiff bk O' := ⟨_, rfl⟩
          rw [← hsde] at han hor1 hstep hm2
          obtain ⟨O2, hO2⟩ : ∃ n, n = O' ||| bk := ⟨_, rfl⟩
          obtain ⟨T2, hT2⟩ : ∃ n, n = T' ||| sd := ⟨_, rfl⟩
          rw [← hO2] at hor2 hstep hm2
          rw [← hT2] at hor1 hstep hm2
          have Hstep := Lib.hid hstep
          have Hm2 := Lib.hid hm2
          have hvi : (v : Int) < (W.length : Int) := by omega
          clear hss ei2 ei3 hblk hsd hstep hm2 hbk hsde hO2 hT2
          go_wp2
          go_roundw
          case rel => exact ⟨O2, T2, a + 1, by omega, rfl, rfl, by go_num, Hstep.out, Hm2.out, hxi⟩
          case measure => simp [intOf]; omega
        · obtain rfl : a = C.length := by omega
          have hm := Lib.hid (Hcl.out O' T' hrv.out hmono.out)
          have hl := Lib.hid hrv.out.leave
          go_wp2
          go_roundw
          case rel => exact ⟨O', T', rfl, rfl, hl.out, hx4.trans hxi⟩
          case measure => rw [genM_of, genM_of]; exact hm.out

end Go.Proofs.YtdlhfihddipjaacDoor
