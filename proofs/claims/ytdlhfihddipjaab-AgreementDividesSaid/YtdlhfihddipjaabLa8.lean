/-
  AgreementDivides: the walk of the law.
-/
import Derived.Test.YtdlhfihddipjaabAgX
import Derived.Test.YtdlhfihddipjaabAg8
import Derived.Test.YtdlhfihddipjaabAg18
namespace Go.Proofs.Ytdlhfihddipjaab
open Go.RowKit

theorem cellsQ8 (w : World) (v1 v2 : Value) (t : TypeId) : ∀ w', Ext (w.alloc (.cells #[v1, v2] t)) w' → w'.cell? ⟨w.heap.size, 0, none⟩ = some v1 ∧ w'.cell? ⟨w.heap.size, 1, none⟩ = some v2 := fun w' k => by
  obtain ⟨p0, p1⟩ := cellsP w v1 v2 t
  exact ⟨(k.cell (by simp)).trans p0, (k.cell (by simp)).trans p1⟩
theorem Fracs.form8 {w : World} {v : Value} {L : List (Nat × Nat)} (h : Fracs w v L) : ∃ A c, v = .slice A L.length c ∧ L.length ≤ c ∧ c ≤ 9223372036854775807 := by
  obtain ⟨A, c, e, h1, h2, _⟩ := h
  exact ⟨A, c, e, h1, h2⟩
theorem prior_form8 {w1 : World} {o1 o2 : Value} {W : List Int} {C : List (List Int)} (hp : Prior w1 o1 o2 W C) : ∃ A c A' c', o1 = .slice A W.length c ∧ o2 = .slice A' C.length c' := by
  obtain ⟨⟨A, c, e1, _⟩, ⟨A', c', _, e2, _⟩⟩ := hp
  exact ⟨_, _, _, _, e1, e2⟩
/-- What an announcement does: it divides cells, and the announced posterior is the same within the cells. -/
theorem ann_facts {W : List Int} {C : List (List Int)} (hP : PrOk W C) (a e : Nat) : PrOk W (ann W C a e) ∧ (ann W C a e).length = C.length ∧ ∀ m, m < C.length →
    Refines (nthL (ann W C a e) m) (nthL C m) ∧ ∀ i, i < W.length → post W C a (nth (nthL (ann W C a e) m) i).toNat e = post W C a i e := by
  have hl : ∀ s ∈ [posts W C a e W.length], s.length = W.length := fun s hs => by
    rw [List.mem_singleton] at hs; rw [hs]; exact posts_len _ _ _ _ _
  have h1 : PrOk W (ann W C a e) := hP.div _
  refine ⟨h1, by simp [ann], fun m hm => ?_⟩
  have hq : nthL (ann W C a e) m = divC W.length [posts W C a e W.length] (nthL C m) := nthL_map _ hm
  have hp := h1.prt (a := m) (by simp [ann]; exact hm)
  rw [hq] at hp ⊢
  refine ⟨(refines_iff hp).2 fun i j hi hj hij => ((divC_iff hi hj _ hl _).1 hij).1, fun i hi => ?_⟩
  have hlow := hp.low hi
  have hfix := hp.fix hi
  have := ((divC_iff hlow hi _ hl _).1 hfix).2 _ (List.mem_singleton.2 rfl)
  rwa [posts_nth hlow, posts_nth hi] at this

set_option maxRecDepth 100000 in
set_option maxHeartbeats 8000000 in
theorem divides_law (w : World) (v1 v2 : Value) (W : List Int) (C : List (List Int)) (h : Prior w v1 v2 W C) (a : Int) (e : Nat) (he : e < 18446744073709551616) :
    Calls Try.prog 13 #[.agg #[v1, v2], .int .i64 a, .int .u64 e] w fun x w' => x = .returned (.bool true) ∧ Ext w w' := by
  have HAw : Hid (∀ w1, Calls Try.prog 26 #[] w1 fun x w' => x = .returned (.bool true) ∧ Ext w1 w') := awake24_any
  have HFe : Hid (∀ w1, Ext w w1 → Calls Try.prog 25 #[.agg #[v1, v2], .int .i64 20] w1 fun x w' => x = .returned (.bool (fewB W C 20)) ∧ Ext w1 w') := fun w1 hx => few_any w1 v1 v2 W C (h.ext hx) 20
  obtain ⟨y, hy⟩ : ∃ y, y = agErr W C := ⟨_, rfl⟩
  have HCh : Hid (∀ w1, Ext w w1 → Calls Try.prog 30 #[.agg #[v1, v2]] w1 fun x w' => x = .returned (.int .i64 y) ∧ Ext w1 w') := fun w1 hx => by
    have := agCheck_any w1 v1 v2 W C (h.ext hx)
    rwa [← hy] at this
  have HCk : Hid (∀ w1 u1 u2 D, Prior w1 u1 u2 W D → PrOk W D → Calls Try.prog 30 #[.agg #[u1, u2]] w1 fun x w' => x = .returned (.int .i64 0) ∧ Ext w1 w') := fun w1 u1 u2 D hp hk => by
    have := agCheck_any w1 u1 u2 W D hp
    rwa [agErr_ok hk] at this
  obtain ⟨z, hz⟩ : ∃ z, z = chkErr W C a 0 e := ⟨_, rfl⟩
  obtain ⟨PW, hPW⟩ : ∃ x, x = priW (chkErr W C a 0 e) W := ⟨_, rfl⟩
  obtain ⟨D, hD⟩ : ∃ x, x = priC (chkErr W C a 0 e) (ann W C a.toNat e) := ⟨_, rfl⟩
  have HAn : Hid (∀ w1, Ext w w1 → Calls Try.prog 46 #[.agg #[v1, v2], .int .i64 a, .int .u64 e] w1 fun x w' => ∃ o1 o2, x = .returned (.tuple #[.agg #[o1, o2], .int .i64 z]) ∧ Prior w' o1 o2 PW D ∧ Ext w1 w') := fun w1 hx => by
    have := Announce_any w1 v1 v2 W C (h.ext hx) a e he
    rwa [← hPW, ← hD, ← hz] at this
  obtain ⟨L, hL⟩ : ∃ L, L = (postsR W C a e).1 := ⟨_, rfl⟩
  have HPo : Hid (∀ w1, Ext w w1 → Calls Try.prog 34 #[.agg #[v1, v2], .int .i64 a, .int .u64 e] w1 fun x w' => ∃ v', x = .returned (.tuple #[v', .int .i64 z]) ∧ Fracs w' v' L ∧ Ext w1 w') := fun w1 hx => by
    have := Posteriors_any w1 v1 v2 W C (h.ext hx) a e he
    rw [← hL, show (postsR W C a e).2 = z from by rw [hz]; unfold postsR; split <;> simp_all] at this
    exact this
  have HRf : Hid (∀ w1 u1 u2 p q, Ints .i64 w1 u1 p → Ints .i64 w1 u2 q → p.length = q.length → p.length ≤ 64 → pOk p → pOk q → Refines p q → Calls Try.prog 50 #[u1, u2] w1 fun e w' => e = .returned (.bool true) ∧ Ext w1 w') := fun w1 u1 u2 p q h1 h2 h3 h4 h5 h6 h7 => refines_yes w1 u1 u2 p q h1 h2 h3 h4 h5 h6 h7
  obtain ⟨q, hq⟩ : ∃ q, q = fewB W C 20 := ⟨_, rfl⟩
  rw [← hq] at HFe
  have H2 := Lib.hid h.2
  obtain ⟨⟨A, c, rfl, hs, _⟩, ⟨A2, c2, vs, rfl, hs2, _⟩⟩ := h
  have HUp := Lib.hid (cellsQ8 w (.slice A W.length c) (.slice A2 C.length c2) 45)
  have hx1 : Ext w (w.alloc (.cells #[.slice A W.length c, .slice A2 C.length c2] 45)) := (Ext.refl w).alloc _
  have CF := Lib.hid (HFe.out _ hx1)
  have HY := Lib.hid hy
  have HZ := Lib.hid hz
  have HL := Lib.hid hL
  have HPW := Lib.hid hPW
  have HD := Lib.hid hD
  clear hs hs2 hz hq hy hL hPW hD
  obtain ⟨p0, p1⟩ := HUp.out _ (Ext.refl _)
  go_enter Try.func13, Try.ntmps13
  go_wp2_with fail
  refine CF.out.mono ?_
  rintro x w2 ⟨rfl, hy2⟩
  obtain ⟨p0, p1⟩ := HUp.out _ hy2
  have hx2 := hx1.trans hy2
  cases q with
  | false =>
    go_wp2_with fail
    refine (HAw.out _).mono ?_
    rintro x w3 ⟨rfl, hy3⟩
    go_wp2
    go_ret
    exact ⟨rfl, hx2.trans hy3⟩
  | true =>
    go_wp2_with fail
    refine (HCh.out _ hx2).mono ?_
    rintro x w3 ⟨rfl, hy3⟩
    have hz3 := hy2.trans hy3
    obtain ⟨p0, p1⟩ := HUp.out _ hz3
    have hx3 := hx1.trans hz3
    by_cases ey : y = 0
    · have t : (y != 0) = false := by rw [ey]; rfl
      have hP := Lib.hid (agErr_zero (HY.out.symm.trans ey))
      clear ey
      go_wp2_with fail
      refine (HAn.out _ hx3).mono ?_
      rintro x w4 ⟨o1, o2, rfl, hpq, hy4⟩
      obtain ⟨B1, d1, B2, d2, rfl, rfl⟩ := prior_form8 hpq
      have Hpq := Lib.hid hpq
      have HUq := Lib.hid (cellsQ8 w4 (.slice B1 PW.length d1) (.slice B2 D.length d2) 45)
      have hz4 := (hz3.trans hy4).alloc (.cells #[.slice B1 PW.length d1, .slice B2 D.length d2] 45)
      obtain ⟨p0, p1⟩ := HUp.out _ hz4
      have hx4 := hx1.trans hz4
      clear hpq
      go_wp2_with fail
      refine (HPo.out _ hx4).mono ?_
      rintro x w5 ⟨vf, rfl, hf, hy5⟩
      obtain ⟨Af, cf, rfl, hlf, hcf⟩ := hf.form8
      have hz5 := hz4.trans hy5
      obtain ⟨p0, p1⟩ := HUp.out _ hz5
      obtain ⟨q0, q1⟩ := HUq.out _ hy5
      have hx5 := hx1.trans hz5
      by_cases ez : z = 0
      · have t2 : (z != 0) = false := by rw [ez]; rfl
        obtain ⟨_, a', k0, rfl, hk0, hac, _, hee⟩ := chkErr_zero (HZ.out.symm.trans ez)
        clear hk0
        have hLe : L = posts W C a' e W.length := by
          rw [HL.out]; unfold postsR; rw [if_neg (by rw [← HZ.out, ez]; simp)]; simp
        have hPWe : PW = W := by rw [HPW.out]; unfold priW; rw [if_neg (by rw [← HZ.out, ez]; simp)]
        have hDe : D = ann W C a' e := by rw [HD.out]; unfold priC; rw [if_neg (by rw [← HZ.out, ez]; simp)]; simp
        obtain ⟨hPD, hDl, hfa⟩ := ann_facts hP.out a' e
        rw [← hDe] at hPD hDl hfa
        have hll : L.length = W.length := by rw [hLe]; exact posts_len _ _ _ _ _
        subst hPWe
        have HLe := Lib.hid hLe
        have Hf : Hid (Fracs w5 (.slice Af PW.length cf) L) := by rw [hll] at hf; exact hf
        have HqR : Hid (Rows w4 (.slice B2 C.length d2) D) := by have := Hpq.out.2; rw [hDl] at this; exact this
        have Hpr : Hid (Prior w4 (.slice B1 PW.length d1) (.slice B2 C.length d2) PW D) := by have := Hpq.out; rw [hDl] at this; exact this
        rw [hll] at hlf ⊢
        have H45 : Hid (Ext (w4.alloc (.cells #[.slice B1 PW.length d1, .slice B2 C.length d2] 45)) w5) := by
          have := hy5
          rw [hDl] at this
          exact this
        rw [hDl] at q1 HUq ⊢
        have HPD := Lib.hid hPD
        have HDl := Lib.hid hDl
        have Hfa := Lib.hid hfa
        have Hll := Lib.hid hll
        have Hac := Lib.hid hac
        have n64 := hP.out.n64
        have c4 := hP.out.c4
        obtain ⟨adf, e1, _⟩ := Hf.out.get (i := 0) (by rw [hll]; exact hP.out.n0)
        subst e1
        have c0 : 0 < C.length := by omega
        obtain ⟨adq, _, _, e1, hbq, _⟩ := HqR.out.get (i := 0) (by rw [hDl]; exact c0)
        subst e1
        obtain ⟨adp, _, _, e1, hbp, _⟩ := H2.out.get (i := 0) c0
        subst e1
        have tn : ((PW.length : Int) != (PW.length : Int)) = false := by simp
        have tn2 : ((C.length : Int) != (C.length : Int)) = false := by simp
        clear hLe hDe hPD hDl hfa hll hf hac ez hy2 hy3 hy4 hy5 hz3
        go_wp2
        go_loopw [62] (fun v wr => ∃ m : Nat, m ≤ C.length ∧ v = .int .i64 m ∧ Ext w5 wr) (fun v _ => C.length - (intOf v).toNat)
        case atStart => exact ⟨0, Nat.zero_le _, rfl, Ext.refl _⟩
        case round =>
          obtain ⟨m, hm, rfl, hxr⟩ := hrel
          have hx := hx5.trans hxr
          obtain ⟨p0, p1⟩ := HUp.out _ (hz5.trans hxr)
          have hx4r := (((Ext.refl w4).alloc (.cells #[.slice B1 PW.length d1, .slice (some adq) C.length d2] 45)).trans H45.out).trans hxr
          obtain ⟨q0, q1⟩ := HUq.out _ (H45.out.trans hxr)
          by_cases hlt : m < C.length
          · obtain ⟨e1, Ar, kr, e2, _, hcr, hlr, hkr, hIr⟩ := HqR.out.get (i := m) (by rw [HDl.out]; exact hlt)
            obtain rfl : adq = e1 := by injection e2
            obtain ⟨e1, Ac, kc, e3, _, hcc, hlc, hkc, hIc⟩ := H2.out.get (i := m) hlt
            obtain rfl : adp = e1 := by injection e3
            have hrl : (nthL D m).length = PW.length := HPD.out.cl m (by rw [HDl.out]; exact hlt)
            have hcl : (nthL C m).length = PW.length := hP.out.cl m hlt
            have Hro : Hid (pOk (nthL D m)) := HPD.out.cok m (by rw [HDl.out]; exact hlt)
            have Hco : Hid (pOk (nthL C m)) := hP.out.cok m hlt
            rw [hrl] at hcr hlr
            rw [hcl] at hcc hlc
            have HIr : Hid (Ints .i64 w4 (.slice Ar PW.length kr) (nthL D m)) := by rw [hrl] at hIr; exact hIr
            have HIc : Hid (Ints .i64 w (.slice Ac PW.length kc) (nthL C m)) := by rw [hcl] at hIc; exact hIc
            have hcr' := (hx4r.cell (p := adq.add m) (by rw [addBlock]; exact hbq)).trans hcr
            have hcc' := (hx.cell (p := adp.add m) (by rw [addBlock]; exact hbp)).trans hcc
            have lp : adp.block < wr.heap.size := Nat.lt_of_lt_of_le hbp hx.size
            have lq : adq.block < wr.heap.size := Nat.lt_of_lt_of_le hbq hx4r.size
            have lw : w.heap.size < wr.heap.size := Nat.lt_of_lt_of_le (by simp) (hz5.trans hxr).size
            have lw4 : w4.heap.size < wr.heap.size := Nat.lt_of_lt_of_le (by simp) (H45.out.trans hxr).size
            have HKp : Hid (∀ w' w'' : World, (w'.cell? ⟨w.heap.size, 1, none⟩ = some (.slice (some adp) C.length c2) ∧ w'.cell? ⟨w4.heap.size, 1, none⟩ = some (.slice (some adq) C.length d2) ∧ w'.cell? (adp.add m) = some (.slice Ac PW.length kc) ∧ w'.cell? (adq.add m) = some (.slice Ar PW.length kr) ∧ Ext wr w') → Ext w' w'' → (w''.cell? ⟨w.heap.size, 1, none⟩ = some (.slice (some adp) C.length c2) ∧ w''.cell? ⟨w4.heap.size, 1, none⟩ = some (.slice (some adq) C.length d2) ∧ w''.cell? (adp.add m) = some (.slice Ac PW.length kc) ∧ w''.cell? (adq.add m) = some (.slice Ar PW.length kr) ∧ Ext wr w'')) := fun w' w'' ⟨c0, c1, c2, c3, k0⟩ kk => by
              have l2 := k0.size
              exact ⟨(kk.cell (show w.heap.size < _ by omega)).trans c0, (kk.cell (show w4.heap.size < _ by omega)).trans c1, (kk.cell (p := adp.add m) (by rw [addBlock]; omega)).trans c2, (kk.cell (p := adq.add m) (by rw [addBlock]; omega)).trans c3, k0.trans kk⟩
            have CR : Hid (∀ w', Ext wr w' → Calls Try.prog 50 #[.slice Ar PW.length kr, .slice Ac PW.length kc] w' fun e w'' => e = .returned (.bool true) ∧ Ext w' w'') := fun w' k =>
              HRf.out w' _ _ _ _ (HIr.out.ext (hx4r.trans k)) (HIc.out.ext (hx.trans k)) (by rw [hrl, hcl]) (by rw [hrl]; exact n64) Hro.out Hco.out (Hfa.out m hlt).1
            have hml : (m : Int) < (C.length : Int) := by omega
            have Hrl := Lib.hid hrl
            clear hrl hcl hIr hIc hcr hcc e2 e3
            go_wp2
            go_region_held3 (fun w' : World => w'.cell? ⟨w.heap.size, 1, none⟩ = some (.slice (some adp) C.length c2) ∧ w'.cell? ⟨w4.heap.size, 1, none⟩ = some (.slice (some adq) C.length d2) ∧ w'.cell? (adp.add m) = some (.slice Ac PW.length kc) ∧ w'.cell? (adq.add m) = some (.slice Ar PW.length kr) ∧ Ext wr w') (first | exact ⟨p1, q1, hcc', hcr', (Ext.refl _).drew⟩ | (go_split_ands; refine HKp.out _ _ ⟨?_, ?_, ?_, ?_, ?_⟩ hyB <;> assumption) | assumption) (first | (go_at_call 50; refine (CR.out _ (by go_split_ands; assumption)).mono ?_; rintro x wB ⟨rfl, hyB⟩))
            all_goals
              go_split_ands
              have hxB : Ext wr wB := by assumption
              obtain ⟨As, cc, ei, hss, _⟩ := HIr.out.ext (hx4r.trans hxB)
              injection ei with ei1 ei2 ei3
              subst ei1
              obtain ⟨adr, rfl, hbr, hcr0⟩ := hss.get (i := 0) (by rw [Hrl.out]; exact hP.out.n0)
              have HIrB := Lib.hid (HIr.out.ext (hx4r.trans hxB))
              clear hss ei2 ei3 hcr0
              go_wp2
              go_loopw [94] (fun v wi => ∃ i : Nat, i ≤ PW.length ∧ v = .int .i64 i ∧ Ext wB wi) (fun v _ => PW.length - (intOf v).toNat)
              case atStart => exact ⟨0, Nat.zero_le _, rfl, Ext.refl _⟩
              case round =>
                obtain ⟨i, hi, rfl, hxi⟩ := hrel
                have hBi := hxB.trans hxi
                by_cases hil : i < PW.length
                · have hri : i < (nthL D m).length := by rw [Hrl.out]; exact hil
                  obtain ⟨As, cc, ei, hss, _⟩ := HIrB.out.ext hxi
                  injection ei with ei1 ei2 ei3
                  subst ei1
                  obtain ⟨adi, e1, hbi, hci⟩ := hss.get hri
                  obtain rfl : adr = adi := by injection e1
                  have hgd := Hro.out i hri
                  obtain ⟨f, hf⟩ : ∃ f : Nat, nth (nthL D m) i = f := ⟨(nth (nthL D m) i).toNat, by have := hgd.1; omega⟩
                  have hfi : f ≤ i := by have := hgd.2.1; omega
                  rw [hf] at hci
                  have hpo := (Hfa.out m hlt).2 i hil
                  rw [hf, Int.toNat_natCast] at hpo
                  obtain ⟨ad1, e2, _, g0, _, g1⟩ := (Hf.out.ext (hxr.trans hBi)).get (i := i) (by rw [Hll.out]; exact hil)
                  obtain rfl : adf = ad1 := by injection e2
                  obtain ⟨ad2, e3, _, i0, _, i1⟩ := (Hf.out.ext (hxr.trans hBi)).get (i := f) (by rw [Hll.out]; omega)
                  obtain rfl : adf = ad2 := by injection e3
                  have hpk : nthF L i = post PW C a' i e := by rw [HLe.out]; exact posts_nth hil
                  have hpf : nthF L f = post PW C a' i e := by rw [HLe.out, posts_nth (by omega)]; exact hpo
                  rw [hpk] at g0 g1
                  rw [hpf] at i0 i1
                  obtain ⟨x1, hx1'⟩ : ∃ n, n = (post PW C a' i e).1 := ⟨_, rfl⟩
                  obtain ⟨x2, hx2'⟩ : ∃ n, n = (post PW C a' i e).2 := ⟨_, rfl⟩
                  rw [← hx1'] at g0 i0
                  rw [← hx2'] at g1 i1
                  have t6 : decide ((f : Int) < 0) = false := by rw [decide_eq_false_iff_not]; omega
                  have t7 : decide ((PW.length : Int) ≤ (f : Int)) = false := by rw [decide_eq_false_iff_not]; omega
                  have t7n : decide (PW.length ≤ f) = false := by rw [decide_eq_false_iff_not]; omega
                  have hfl : (f : Int) < (PW.length : Int) := by omega
                  clear hss ei2 ei3 e1 e2 e3 hgd hf hpo hpk hpf hx1' hx2'
                  go_wp2
                  go_region
                  all_goals
                    go_wp2
                    go_roundw
                    case rel => exact ⟨i + 1, by omega, by go_num, hxi.drew⟩
                    case measure => simp [intOf]; omega
                · obtain rfl : i = PW.length := by omega
                  go_wp2
                  go_roundw
                  case rel => exact ⟨m + 1, by omega, by go_num, hxr.trans hBi⟩
                  case measure => simp [intOf]; omega
          · obtain rfl : m = C.length := by omega
            have CQ := Lib.hid (HCk.out wr _ _ D (Hpr.out.ext hx4r) HPD.out)
            go_wp2_with fail
            refine CQ.out.mono ?_
            rintro x w6 ⟨rfl, hy6⟩
            go_wp2_with fail
            refine (HAw.out _).mono ?_
            rintro x w7 ⟨rfl, hy7⟩
            go_wp2
            go_ret
            exact ⟨rfl, (hx.trans hy6).trans hy7⟩
      · have t2 : (z != 0) = true := by rw [bne_iff_ne]; exact ez
        clear ez hf
        go_wp2_with fail
        refine (HAw.out _).mono ?_
        rintro x w6 ⟨rfl, hy6⟩
        go_wp2
        go_ret
        exact ⟨rfl, hx5.trans hy6⟩
    · have t : (y != 0) = true := by rw [bne_iff_ne]; exact ey
      clear ey
      go_wp2_with fail
      refine (HAw.out _).mono ?_
      rintro x w4 ⟨rfl, hy4⟩
      go_wp2
      go_ret
      exact ⟨rfl, hx3.trans hy4⟩

end Go.Proofs.Ytdlhfihddipjaab
