/-
  AgreementCannot: the walk of the law.
-/
import Derived.Test.YtdlhfihddipjaabAgX
import Derived.Test.YtdlhfihddipjaabAg8
import Derived.BigQuiet
namespace Go.Proofs.Ytdlhfihddipjaab
open Go.RowKit

theorem cellsQ7 (w : World) (v1 v2 : Value) (t : TypeId) : ∀ w', Ext (w.alloc (.cells #[v1, v2] t)) w' → w'.cell? ⟨w.heap.size, 0, none⟩ = some v1 ∧ w'.cell? ⟨w.heap.size, 1, none⟩ = some v2 := fun w' k => by
  obtain ⟨p0, p1⟩ := cellsP w v1 v2 t
  exact ⟨(k.cell (by simp)).trans p0, (k.cell (by simp)).trans p1⟩
theorem Fracs.form7 {w : World} {v : Value} {L : List (Nat × Nat)} (h : Fracs w v L) : ∃ A c, v = .slice A L.length c ∧ L.length ≤ c ∧ c ≤ 9223372036854775807 := by
  obtain ⟨A, c, e, h1, h2, _⟩ := h
  exact ⟨A, c, e, h1, h2⟩
theorem chkErr_ok {W : List Int} {C : List (List Int)} {a e : Nat} (hP : PrOk W C) (ha : a < C.length) (he : e < 2 ^ W.length) : chkErr W C a 0 e = 0 := by
  have n0 := hP.n0
  unfold chkErr
  rw [if_neg (by rw [agErr_ok hP]; simp), if_neg]
  rintro (h | h | h) <;> omega

set_option maxRecDepth 100000 in
set_option maxHeartbeats 8000000 in
theorem cannot_law (w : World) (v1 v2 : Value) (W : List Int) (C : List (List Int)) (h : Prior w v1 v2 W C) (a : Int) (e : Nat) (he : e < 18446744073709551616) :
    Calls Try.prog 9 #[.agg #[v1, v2], .int .i64 a, .int .u64 e] w fun x w' => x = .returned (.bool true) ∧ Ext w w' := by
  have HAw : Hid (∀ w1, Calls Try.prog 26 #[] w1 fun x w' => x = .returned (.bool true) ∧ Ext w1 w') := awake24_any
  have HFe : Hid (∀ w1, Ext w w1 → Calls Try.prog 25 #[.agg #[v1, v2], .int .i64 20] w1 fun x w' => x = .returned (.bool (fewB W C 20)) ∧ Ext w1 w') := fun w1 hx => few_any w1 v1 v2 W C (h.ext hx) 20
  obtain ⟨y, hy⟩ : ∃ y, y = agErr W C := ⟨_, rfl⟩
  have HCh : Hid (∀ w1, Ext w w1 → Calls Try.prog 30 #[.agg #[v1, v2]] w1 fun x w' => x = .returned (.int .i64 y) ∧ Ext w1 w') := fun w1 hx => by
    have := agCheck_any w1 v1 v2 W C (h.ext hx)
    rwa [← hy] at this
  obtain ⟨z, hz⟩ : ∃ z, z = commErr W C a := ⟨_, rfl⟩
  have HCm : Hid (∀ w1, Ext w w1 → Calls Try.prog 38 #[.agg #[v1, v2], .int .i64 a] w1 fun x w' => ∃ c : Nat, x = .returned (.tuple #[.int .u64 c, .int .i64 z]) ∧ CommIs W C a c ∧ Ext w1 w') := fun w1 hx => by
    have := Common_any w1 v1 v2 W C (h.ext hx) a
    rwa [← hz] at this
  obtain ⟨t, ht⟩ : ∃ t, t = (agrR W C a e).1 := ⟨_, rfl⟩
  obtain ⟨u, hu⟩ : ∃ u, u = anyErr W C a e := ⟨_, rfl⟩
  have HAg : Hid (∀ w1, Ext w w1 → Calls Try.prog 31 #[.agg #[v1, v2], .int .i64 a, .int .u64 e] w1 fun x w' => x = .returned (.tuple #[.bool t, .int .i64 u]) ∧ Ext w1 w') := fun w1 hx => by
    have := Agree_any w1 v1 v2 W C (h.ext hx) a e he
    rw [← ht, show (agrR W C a e).2 = u from by rw [hu]; unfold agrR; split <;> simp_all] at this
    exact this
  have HPo : Hid (∀ w1 (m : Nat), Ext w w1 → PrOk W C → m < C.length → e < 2 ^ W.length → Calls Try.prog 34 #[.agg #[v1, v2], .int .i64 (m : Nat), .int .u64 e] w1 fun x w' => ∃ v', x = .returned (.tuple #[v', .int .i64 0]) ∧ Fracs w' v' (posts W C m e W.length) ∧ Ext w1 w') := fun w1 m hx hP hm hee => by
    have := Posteriors_any w1 v1 v2 W C (h.ext hx) m e he
    unfold postsR at this
    rw [if_neg (by rw [chkErr_ok hP hm hee]; simp)] at this
    simpa using this
  obtain ⟨q, hq⟩ : ∃ q, q = fewB W C 20 := ⟨_, rfl⟩
  rw [← hq] at HFe
  obtain ⟨⟨A, c, rfl, hs, _⟩, ⟨A2, c2, vs, rfl, hs2, _⟩⟩ := h
  have HUp := Lib.hid (cellsQ7 w (.slice A W.length c) (.slice A2 C.length c2) 45)
  have hx1 : Ext w (w.alloc (.cells #[.slice A W.length c, .slice A2 C.length c2] 45)) := (Ext.refl w).alloc _
  have CF := Lib.hid (HFe.out _ hx1)
  have HY := Lib.hid hy
  have HZ := Lib.hid hz
  have HT := Lib.hid ht
  have HU := Lib.hid hu
  clear hs hs2 hz hq hy ht hu
  obtain ⟨p0, p1⟩ := HUp.out _ (Ext.refl _)
  go_enter Try.func9, Try.ntmps9
  go_wp2_with fail
  refine CF.out.mono ?_
  rintro x w2 ⟨rfl, hy2⟩
  obtain ⟨p0, p1⟩ := HUp.out _ hy2
  have hx2 := hx1.trans hy2
  cases q with
  | false =>
    go_wp2_with fail
    refine (HAw.out _).mono ?_
    rintro x w3 ⟨rfl, hy3⟩
    go_wp2
    go_ret
    exact ⟨rfl, hx2.trans hy3⟩
  | true =>
    go_wp2_with fail
    refine (HCh.out _ hx2).mono ?_
    rintro x w3 ⟨rfl, hy3⟩
    have hz3 := hy2.trans hy3
    obtain ⟨p0, p1⟩ := HUp.out _ hz3
    have hx3 := hx1.trans hz3
    by_cases ey : y = 0
    · have t0 : (y != 0) = false := by rw [ey]; rfl
      have hP := Lib.hid (agErr_zero (HY.out.symm.trans ey))
      clear ey
      go_wp2_with fail
      refine (HCm.out _ hx3).mono ?_
      rintro x w4 ⟨cc, rfl, hcc, hy4⟩
      have hz4 := hz3.trans hy4
      obtain ⟨p0, p1⟩ := HUp.out _ hz4
      have hx4 := hx1.trans hz4
      have Hcc := Lib.hid hcc
      clear hcc
      go_wp2_with fail
      refine (HAg.out _ hx4).mono ?_
      rintro x w5 ⟨rfl, hy5⟩
      have hz5 := hz4.trans hy5
      obtain ⟨p0, p1⟩ := HUp.out _ hz5
      have hx5 := hx1.trans hz5
      by_cases ez : z = 0
      · have t2 : (z != 0) = false := by rw [ez]; rfl
        obtain ⟨_, a', rfl, hal, _⟩ := anyErr_zero ((any_comm W C a).trans (HZ.out.symm.trans ez))
        have t4 : decide ((a' : Int) < 0) = false := by rw [decide_eq_false_iff_not]; omega
        have t5 : decide ((W.length : Int) ≤ (a' : Int)) = false := by rw [decide_eq_false_iff_not]; omega
        have t5n : decide (W.length ≤ a') = false := by rw [decide_eq_false_iff_not]; omega
        by_cases eu : u = 0
        · have t3 : (u != 0) = false := by rw [eu]; rfl
          obtain ⟨_, k0, hk0, _, hee⟩ := anyErr_zero (HU.out.symm.trans eu)
          have Hee := Lib.hid hee
          have HE : Hid (t = agreeB W C a' e) := by
            show t = agreeB W C a' e
            rw [HT.out]; unfold agrR; rw [if_neg (by rw [← HU.out, eu]; simp)]; simp
          obtain ⟨j, hj, hcj⟩ : ∃ j, IsComm W.length C j ∧ cc = blockOf j a' := by
            have := Hcc.out
            unfold CommIs at this
            rw [if_pos (HZ.out.symm.trans ez)] at this
            simpa using this
          have Hj := Lib.hid hj
          have Hcj := Lib.hid hcj
          have Hcl : Hid (cc < 18446744073709551616) := by
            show cc < _
            rw [hcj]; exact blockOf_lt _ _ (by rw [hj.prt.1]; exact hP.out.n64)
          have n64 := hP.out.n64
          have c4 := hP.out.c4
          clear hee hk0 ez eu hj hcj hy2 hy3 hy4 hy5 hz3 hz4
          go_wp2
          go_loopw [58] (fun v wr => ∃ m : Nat, m ≤ C.length ∧ v = .int .i64 m ∧ Hid (∀ b, b < m → ∀ i, i < W.length → cc.testBit i = true → post W C b i e = post W C b a' e) ∧ Ext w5 wr) (fun v _ => C.length - (intOf v).toNat)
          case atStart => exact ⟨0, Nat.zero_le _, rfl, fun b hb => absurd hb (by omega), Ext.refl _⟩
          case round =>
            obtain ⟨m, hm, rfl, hgo, hxr⟩ := hrel
            have hx := hx5.trans hxr
            obtain ⟨p0, p1⟩ := HUp.out _ (hz5.trans hxr)
            by_cases hlt : m < C.length
            · go_wp2_with fail
              refine (HPo.out _ m hx hP.out hlt Hee.out).mono ?_
              rintro x w6 ⟨vf, rfl, hf, hy6⟩
              obtain ⟨L, hL⟩ : ∃ L, L = posts W C m e W.length := ⟨_, rfl⟩
              rw [← hL] at hf
              obtain ⟨Af, cf, rfl, hlf, hcf⟩ := hf.form7
              have hx6 := hxr.trans hy6
              obtain ⟨p0, p1⟩ := HUp.out _ (hz5.trans hx6)
              have hll : L.length = W.length := by rw [hL]; exact posts_len _ _ _ _ _
              have Hf : Hid (Fracs w6 (.slice Af W.length cf) L) := by rw [hll] at hf; exact hf
              have HL := Lib.hid hL
              have Hll := Lib.hid hll
              rw [hll] at hlf ⊢
              obtain ⟨adf, e1, _⟩ := Hf.out.get (i := 0) (by rw [hll]; exact hP.out.n0)
              subst e1
              have tn : ((W.length : Int) != (W.length : Int)) = false := by simp
              clear hll hL hf
              go_wp2
              go_loopw [80] (fun v wr => ∃ i : Nat, i ≤ W.length ∧ v = .int .i64 i ∧ Hid (∀ i', i' < i → cc.testBit i' = true → post W C m i' e = post W C m a' e) ∧ Ext w6 wr) (fun v _ => W.length - (intOf v).toNat)
              case atStart => exact ⟨0, Nat.zero_le _, rfl, fun b hb => absurd hb (by omega), Ext.refl _⟩
              case round =>
                obtain ⟨i, hi, rfl, hgi, hxi⟩ := hrel
                by_cases hil : i < W.length
                · obtain ⟨ad1, e1, _, g0, _, g1⟩ := (Hf.out.ext hxi).get (i := i) (by rw [Hll.out]; exact hil)
                  obtain rfl : adf = ad1 := by injection e1
                  obtain ⟨ad2, e2, _, i0, _, i1⟩ := (Hf.out.ext hxi).get (i := a') (by rw [Hll.out]; omega)
                  obtain rfl : adf = ad2 := by injection e2
                  have hpk : nthF L i = post W C m i e := by rw [HL.out]; exact posts_nth hil
                  have hpf : nthF L a' = post W C m a' e := by rw [HL.out]; exact posts_nth hal
                  rw [hpk] at g0 g1
                  rw [hpf] at i0 i1
                  obtain ⟨fa, hfa⟩ : ∃ f, f = post W C m i e := ⟨_, rfl⟩
                  obtain ⟨fb, hfb⟩ : ∃ f, f = post W C m a' e := ⟨_, rfl⟩
                  rw [← hfa] at g0 g1
                  rw [← hfb] at i0 i1
                  obtain ⟨x1, x2⟩ := fa
                  obtain ⟨y1, y2⟩ := fb
                  have Hfa := Lib.hid hfa
                  have Hfb := Lib.hid hfb
                  dsimp only at g0 g1 i0 i1
                  clear hpk hpf hfa hfb e1 e2
                  have i64' : i < 64 := by omega
                  cases hb : cc.testBit i with
                  | false =>
                    have tb : (bits .and .u64 ((cc : Int) / 2 ^ i) 1 == 1) = false := by rw [u64_bit1 cc i Hcl.out, hb]
                    have Hb := Lib.hid hb
                    clear hb
                    go_wp2
                    go_quiet (fail)
                    go_wp2
                    go_roundw
                    case rel => exact ⟨i + 1, by omega, by go_num, fun i' h1 h2 => by
                      by_cases q : i' = i
                      · rw [q, Hb.out] at h2; exact absurd h2 (by decide)
                      · exact hgi.out i' (by omega) h2, hxi.drewN _⟩
                    case measure => simp [intOf]; omega
                  | true =>
                    have tb : (bits .and .u64 ((cc : Int) / 2 ^ i) 1 == 1) = true := by rw [u64_bit1 cc i Hcl.out, hb]
                    clear hb
                    by_cases q1 : x1 = y1
                    · have k1 : ((x1 : Int) = (y1 : Int)) = True := eq_true (by omega)
                      by_cases q2 : x2 = y2
                      · have k2 : ((x2 : Int) = (y2 : Int)) = True := eq_true (by omega)
                        have Hq : Hid (post W C m i e = post W C m a' e) := by show _ = _; rw [← Hfa.out, ← Hfb.out, q1, q2]
                        clear q1 q2
                        go_wp2
                        go_region
                        all_goals
                          go_wp2
                          go_roundw
                          case rel => exact ⟨i + 1, by omega, by go_num, fun i' h1 h2 => by
                            by_cases q : i' = i
                            · rw [q]; exact Hq.out
                            · exact hgi.out i' (by omega) h2, hxi.drew⟩
                          case measure => simp [intOf]; omega
                      · have k2 : ((x2 : Int) = (y2 : Int)) = False := eq_false (by omega)
                        clear q1 q2
                        go_wp2
                        go_region
                        all_goals
                          go_wp2_with fail
                          refine (HAw.out _).mono ?_
                          rintro x w10 ⟨rfl, hy10⟩
                          go_wp2
                          go_ret
                          exact ⟨rfl, (hx5.trans (hx6.trans hxi.drew)).trans hy10⟩
                    · have k1 : ((x1 : Int) = (y1 : Int)) = False := eq_false (by omega)
                      clear q1
                      go_wp2
                      go_region
                      all_goals
                        go_wp2_with fail
                        refine (HAw.out _).mono ?_
                        rintro x w10 ⟨rfl, hy10⟩
                        go_wp2
                        go_ret
                        exact ⟨rfl, (hx5.trans (hx6.trans hxi.drew)).trans hy10⟩
                · obtain rfl : i = W.length := by omega
                  go_wp2
                  go_roundw
                  case rel => exact ⟨m + 1, by omega, by go_num, fun b hb i h1 h2 => by
                    by_cases q : b = m
                    · rw [q]; exact hgi.out i h1 h2
                    · exact hgo.out b (by omega) i h1 h2, hx6.trans hxi⟩
                  case measure => simp [intOf]; omega
            · obtain rfl : m = C.length := by omega
              have ht : t = true := by
                rw [HE.out, agreeB_iff]
                intro b hb
                have hc0 : 0 < C.length := by omega
                refine agree_same hP.out Hj.out hal hb hc0 ?_ ?_
                · intro k hk hbk; exact hgo.out b hb k hk (by rw [Hcj.out]; exact hbk)
                · intro k hk hbk; exact hgo.out 0 hc0 k hk (by rw [Hcj.out]; exact hbk)
              subst ht
              go_wp2_with fail
              refine (HAw.out _).mono ?_
              rintro x w10 ⟨rfl, hy10⟩
              go_wp2
              go_ret
              exact ⟨rfl, hx.trans hy10⟩
        · have t3 : (u != 0) = true := by rw [bne_iff_ne]; exact eu
          clear eu ez
          go_wp2_with fail
          refine (HAw.out _).mono ?_
          rintro x w6 ⟨rfl, hy6⟩
          go_wp2
          go_ret
          exact ⟨rfl, hx5.trans hy6⟩
      · have t2 : (z != 0) = true := by rw [bne_iff_ne]; exact ez
        clear ez
        go_wp2_with fail
        refine (HAw.out _).mono ?_
        rintro x w6 ⟨rfl, hy6⟩
        go_wp2
        go_ret
        exact ⟨rfl, hx5.trans hy6⟩
    · have t0 : (y != 0) = true := by rw [bne_iff_ne]; exact ey
      clear ey
      go_wp2_with fail
      refine (HAw.out _).mono ?_
      rintro x w4 ⟨rfl, hy4⟩
      go_wp2
      go_ret
      exact ⟨rfl, hx3.trans hy4⟩

end Go.Proofs.Ytdlhfihddipjaab
