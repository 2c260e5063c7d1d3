/-
  AgreementMeans: the walk of the law.
-/
import Derived.Test.YtdlhfihddipjaabAgX
import Derived.Test.YtdlhfihddipjaabAg8
namespace Go.Proofs.Ytdlhfihddipjaab
open Go.RowKit

theorem cellsQ6 (w : World) (v1 v2 : Value) (t : TypeId) : ∀ w', Ext (w.alloc (.cells #[v1, v2] t)) w' → w'.cell? ⟨w.heap.size, 0, none⟩ = some v1 ∧ w'.cell? ⟨w.heap.size, 1, none⟩ = some v2 := fun w' k => by
  obtain ⟨p0, p1⟩ := cellsP w v1 v2 t
  exact ⟨(k.cell (by simp)).trans p0, (k.cell (by simp)).trans p1⟩
theorem Fracs.form {w : World} {v : Value} {L : List (Nat × Nat)} (h : Fracs w v L) : ∃ A c, v = .slice A L.length c ∧ L.length ≤ c ∧ c ≤ 9223372036854775807 := by
  obtain ⟨A, c, e, h1, h2, _⟩ := h
  exact ⟨A, c, e, h1, h2⟩
/-- A cell's weight is a multiple of the denominator; its share of the event the same multiple of the numerator. -/
theorem mean_step {W : List Int} {C : List (List Int)} (hP : PrOk W C) {a k : Nat} (ha : a < C.length) (hk : k < W.length) (e : Nat) :
    ∃ q : Nat, wt W (blockOf (nthL C a) k) = (((post W C a k e).2 * q : Nat) : Int) ∧ wt W (blockOf (nthL C a) k &&& e) = (((post W C a k e).1 * q : Nat) : Int) ∧ (post W C a k e).2 * q ≤ 1000000 ∧ (post W C a k e).1 * q ≤ 1000000 := by
  obtain ⟨hg, hd, hc⟩ := post_facts hP ha hk e
  obtain ⟨n1, b1⟩ := wt_nat hP (blockOf (nthL C a) k)
  obtain ⟨n2, b2⟩ := wt_nat hP (blockOf (nthL C a) k &&& e)
  rw [← n1, ← n2] at hc
  rw [← n1, ← n2]
  generalize (wt W (blockOf (nthL C a) k)).toNat = X at hc b1 ⊢
  generalize (wt W (blockOf (nthL C a) k &&& e)).toNat = Y at hc b2 ⊢
  generalize (post W C a k e).1 = m at hg hd hc ⊢
  generalize (post W C a k e).2 = d at hg hd hc ⊢
  have hc' : m * X = d * Y := by
    have : ((m * X : Nat) : Int) = ((d * Y : Nat) : Int) := by rw [Int.natCast_mul, Int.natCast_mul]; exact hc
    omega
  have hdv : d ∣ X := Nat.Coprime.dvd_of_dvd_mul_left (k := d) (m := m) (n := X) (by rw [Nat.Coprime, Nat.gcd_comm]; exact hg) ⟨Y, hc'⟩
  obtain ⟨q, rfl⟩ := hdv
  have h3 : m * q = Y := by
    have : d * (m * q) = d * Y := by rw [← hc', Nat.mul_left_comm]
    exact Nat.eq_of_mul_eq_mul_left hd this
  exact ⟨q, rfl, by rw [h3], b1, by rw [h3]; exact b2⟩
/-- The sum of the shares, cell by cell. -/
def meanTo (W : List Int) (c : List Int) (e k : Nat) : Int := sumTo (fun r => if nth c r = (r : Int) then wt W (blockOf c r &&& e) else 0) k
theorem mean_succ (W c : List Int) (e k : Nat) : meanTo W c e (k + 1) = meanTo W c e k + if nth c k = (k : Int) then wt W (blockOf c k &&& e) else 0 := rfl
theorem mean_bd {W : List Int} {C : List (List Int)} (hP : PrOk W C) (c : List Int) (e : Nat) : ∀ k, 0 ≤ meanTo W c e k ∧ meanTo W c e k ≤ 1000000 * k := by
  intro k
  induction k with
  | zero => exact ⟨Int.le_refl _, Int.le_refl _⟩
  | succ n ih =>
    rw [mean_succ]
    have h1 := wt_nat hP (blockOf c n &&& e)
    split <;> omega

theorem sum_in {S : Int} {k pt : Nat} (h : 0 ≤ S ∧ S ≤ 1000000 * (k : Int)) (hk : k ≤ 64) (hp : pt ≤ 1000000) : wrap64 (S + (pt : Int)) = S + (pt : Int) := IntWalk.wrap64_in _ ⟨by omega, by omega⟩

set_option maxRecDepth 100000 in
set_option maxHeartbeats 8000000 in
theorem means_law (w : World) (v1 v2 : Value) (W : List Int) (C : List (List Int)) (h : Prior w v1 v2 W C) (a : Int) (e : Nat) (he : e < 18446744073709551616) :
    Calls Try.prog 10 #[.agg #[v1, v2], .int .i64 a, .int .u64 e] w fun x w' => x = .returned (.bool true) ∧ Ext w w' := by
  have HAw : Hid (∀ w1, Calls Try.prog 26 #[] w1 fun x w' => x = .returned (.bool true) ∧ Ext w1 w') := awake24_any
  have HFe : Hid (∀ w1, Ext w w1 → Calls Try.prog 25 #[.agg #[v1, v2], .int .i64 20] w1 fun x w' => x = .returned (.bool (fewB W C 20)) ∧ Ext w1 w') := fun w1 hx => few_any w1 v1 v2 W C (h.ext hx) 20
  obtain ⟨y, hy⟩ : ∃ y, y = agErr W C := ⟨_, rfl⟩
  have HCh : Hid (∀ w1, Ext w w1 → Calls Try.prog 30 #[.agg #[v1, v2]] w1 fun x w' => x = .returned (.int .i64 y) ∧ Ext w1 w') := fun w1 hx => by
    have := agCheck_any w1 v1 v2 W C (h.ext hx)
    rwa [← hy] at this
  obtain ⟨z, hz⟩ : ∃ z, z = chkErr W C a 0 e := ⟨_, rfl⟩
  obtain ⟨L, hL⟩ : ∃ L, L = (postsR W C a e).1 := ⟨_, rfl⟩
  have HPo : Hid (∀ w1, Ext w w1 → Calls Try.prog 34 #[.agg #[v1, v2], .int .i64 a, .int .u64 e] w1 fun x w' => ∃ v', x = .returned (.tuple #[v', .int .i64 z]) ∧ Fracs w' v' L ∧ Ext w1 w') := fun w1 hx => by
    have := Posteriors_any w1 v1 v2 W C (h.ext hx) a e he
    rw [← hL, show (postsR W C a e).2 = z from by rw [hz]; unfold postsR; split <;> simp_all] at this
    exact this
  have HBl : Hid (∀ w1 v p (k : Nat), Ints .i64 w1 v p → p.length ≤ 64 → pOk p → k < p.length → Calls Try.prog 40 #[v, .int .i64 k] w1 fun e w' => e = .returned (.int .u64 (blockOf p k : Nat)) ∧ Ext w1 w') := fun w1 v p k hI h64 hp hk => block_ok w1 v p k hI h64 hp hk
  have HWt : Hid (∀ w1 (s : Nat), Ext w w1 → PrOk W C → s < 18446744073709551616 → Calls Try.prog 39 #[.agg #[v1, v2], .int .u64 s] w1 fun x w' => x = .returned (.int .i64 (wt W s)) ∧ Ext w1 w') := fun w1 s hx hP hs => refWeight_any w1 v1 v2 W (h.1.ext hx) hP.n64 hP.wok s hs
  obtain ⟨q, hq⟩ : ∃ q, q = fewB W C 20 := ⟨_, rfl⟩
  rw [← hq] at HFe
  have H2 := Lib.hid h.2
  obtain ⟨⟨A, c, rfl, hs, _⟩, ⟨A2, c2, vs, rfl, hs2, _⟩⟩ := h
  have HUp := Lib.hid (cellsQ6 w (.slice A W.length c) (.slice A2 C.length c2) 45)
  have hx1 : Ext w (w.alloc (.cells #[.slice A W.length c, .slice A2 C.length c2] 45)) := (Ext.refl w).alloc _
  have CF := Lib.hid (HFe.out _ hx1)
  have HY := Lib.hid hy
  have HZ := Lib.hid hz
  have HL := Lib.hid hL
  clear hs hs2 hz hq hy hL
  obtain ⟨p0, p1⟩ := HUp.out _ (Ext.refl _)
  go_enter Try.func10, Try.ntmps10
  go_wp2_with fail
  refine CF.out.mono ?_
  rintro x w2 ⟨rfl, hy2⟩
  obtain ⟨p0, p1⟩ := HUp.out _ hy2
  have hx2 := hx1.trans hy2
  cases q with
  | false =>
    go_wp2_with fail
    refine (HAw.out _).mono ?_
    rintro x w3 ⟨rfl, hy3⟩
    go_wp2
    go_ret
    exact ⟨rfl, hx2.trans hy3⟩
  | true =>
    go_wp2_with fail
    refine (HCh.out _ hx2).mono ?_
    rintro x w3 ⟨rfl, hy3⟩
    have hz3 := hy2.trans hy3
    obtain ⟨p0, p1⟩ := HUp.out _ hz3
    have hx3 := hx1.trans hz3
    by_cases ey : y = 0
    · have t : (y != 0) = false := by rw [ey]; rfl
      have hP := Lib.hid (agErr_zero (HY.out.symm.trans ey))
      clear ey
      go_wp2_with fail
      refine (HPo.out _ hx3).mono ?_
      rintro x w4 ⟨vf, rfl, hf, hy4⟩
      obtain ⟨Af, cf, rfl, hlf, hcf⟩ := hf.form
      have hz4 := hz3.trans hy4
      obtain ⟨p0, p1⟩ := HUp.out _ hz4
      have hx4 := hx1.trans hz4
      by_cases ez : z = 0
      · have t2 : (z != 0) = false := by rw [ez]; rfl
        obtain ⟨_, a', k0, rfl, hk0, hac, _, hee⟩ := chkErr_zero (HZ.out.symm.trans ez)
        clear hk0
        have hLe : L = posts W C a' e W.length := by
          rw [HL.out]; unfold postsR; rw [if_neg (by rw [← HZ.out, ez]; simp)]; simp
        have hll : L.length = W.length := by rw [hLe]; exact posts_len _ _ _ _ _
        have HLe := Lib.hid hLe
        rw [hll] at hlf ⊢
        have t3 : ((W.length : Int) != (W.length : Int)) = false := by simp
        have t4 : decide ((a' : Int) < 0) = false := by rw [decide_eq_false_iff_not]; omega
        have t5 : decide ((C.length : Int) ≤ (a' : Int)) = false := by rw [decide_eq_false_iff_not]; omega
        have t5n : decide (C.length ≤ a') = false := by rw [decide_eq_false_iff_not]; omega
        have Hf : Hid (Fracs w4 (.slice Af W.length cf) L) := by rw [hll] at hf; exact hf
        have Hll := Lib.hid hll
        have Hac := Lib.hid hac
        have Hee := Lib.hid hee
        obtain ⟨adc, A', c', rfl, hbc, hce, hle', hcap', hIc⟩ := H2.out.get hac
        obtain ⟨cs, hcs⟩ : ∃ cs, cs = nthL C a' := ⟨_, rfl⟩
        rw [← hcs] at hIc hce hle'
        have Hcs := Lib.hid hcs
        have HIc := Lib.hid hIc
        have Hcl : Hid (cs.length = W.length) := by rw [hcs]; exact hP.out.cl a' hac
        have Hco : Hid (pOk cs) := by rw [hcs]; exact hP.out.cok a' hac
        obtain ⟨adf, e1, _⟩ := Hf.out.get (i := 0) (by rw [hll]; exact hP.out.n0)
        subst e1
        clear hf hLe hll hac hee hcs hIc ez hy2 hy3 hz3
        go_wp2
        go_loopw [9, 52] (fun s v wr => ∃ k : Nat, k ≤ W.length ∧ v = .int .i64 k ∧ (∃ S : Int, s = .int .i64 S ∧ Hid (S = meanTo W cs e k)) ∧ Ext w4 wr) (fun _ v _ => W.length - (intOf v).toNat)
        case atStart => exact ⟨0, Nat.zero_le _, rfl, ⟨0, rfl, rfl⟩, Ext.refl _⟩
        case round =>
          obtain ⟨k, hk, rfl, ⟨S, rfl, hS⟩, hxr⟩ := hrel
          have hx := hx4.trans hxr
          obtain ⟨p0, p1⟩ := HUp.out _ (hz4.trans hxr)
          by_cases hlt : k < W.length
          · obtain ⟨ad1, e1, _, g0, _, g1⟩ := (Hf.out.ext hxr).get (i := k) (by rw [Hll.out]; exact hlt)
            obtain rfl : adf = ad1 := by injection e1
            have hkc : k < cs.length := by rw [Hcl.out]; exact hlt
            have hgd := Hco.out k hkc
            obtain ⟨f, hf⟩ : ∃ f : Nat, nth cs k = f := ⟨(nth cs k).toNat, by have := hgd.1; omega⟩
            have hfk : f ≤ k := by have := hgd.2.1; omega
            have hff : nth cs f = (f : Int) := by have := hgd.2.2; rw [hf] at this; simpa using this
            obtain ⟨ad2, e2, _, i0, _, i1⟩ := (Hf.out.ext hxr).get (i := f) (by rw [Hll.out]; omega)
            obtain rfl : adf = ad2 := by injection e2
            have hpk : nthF L k = post W C a' k e := by rw [HLe.out]; exact posts_nth hlt
            have hpf : nthF L f = post W C a' k e := by rw [HLe.out, posts_nth (by omega)]; exact post_congr e (by rw [← Hcs.out, hff, hf])
            obtain ⟨_, hd0, _⟩ := post_facts hP.out Hac.out hlt e
            have hmd := post_le hP.out Hac.out hlt e
            obtain ⟨qq, hq1, hq2, hq3, hq4⟩ := mean_step hP.out Hac.out hlt e
            rw [← Hcs.out] at hq1 hq2
            rw [hpk] at g0 g1
            rw [hpf] at i0 i1
            obtain ⟨m, hm⟩ : ∃ m, m = (post W C a' k e).1 := ⟨_, rfl⟩
            obtain ⟨d, hd⟩ : ∃ d, d = (post W C a' k e).2 := ⟨_, rfl⟩
            rw [← hm] at g0 i0 hmd hq2 hq4
            rw [← hd] at g1 i1 hmd hd0 hq1 hq3
            obtain ⟨As, cc, ei, hss, _⟩ := HIc.out.ext hx
            injection ei with ei1 ei2 ei3
            subst ei1
            obtain ⟨adi, rfl, hbi, hci⟩ := hss.get hkc
            rw [hf] at hci
            have hce := (hx.cell (p := adc.add a') (by rw [addBlock]; exact hbc)).trans hce
            have t6 : decide ((d : Int) < 1) = false := by rw [decide_eq_false_iff_not]; omega
            have t7 : decide ((m : Int) < 0) = false := by rw [decide_eq_false_iff_not]; omega
            have t8 : decide ((d : Int) < (m : Int)) = false := by rw [decide_eq_false_iff_not]; omega
            have t6n : decide (d = 0) = false := by rw [decide_eq_false_iff_not]; omega
            have t6m : decide (d < 1) = false := by rw [decide_eq_false_iff_not]; omega
            have t8n : decide (d < m) = false := by rw [decide_eq_false_iff_not]; omega
            have hfl : (f : Int) < (W.length : Int) := by omega
            have B1 := cellsP wr (.int .i64 (m : Nat)) (.int .i64 (d : Nat)) 56
            have Hq1 := Lib.hid hq1
            have Hq2 := Lib.hid hq2
            have Hff := Lib.hid hff
            have Hf3 := Lib.hid hf
            have Hm := Lib.hid hm
            have Hd := Lib.hid hd
            clear hss ei2 ei3 hq1 hq2 hff hgd hpk hpf hf hm hd e1 e2
            have hxa := (Ext.refl wr).alloc (.cells #[.int .i64 (m : Nat), .int .i64 (d : Nat)] 56)
            obtain ⟨p0a, p1a⟩ := HUp.out _ (hz4.trans (hxr.trans hxa))
            have hcea := (hxa.cell (p := adc.add a') (by rw [addBlock]; exact Nat.lt_of_lt_of_le hbc hx.size)).trans hce
            have hcia := (hxa.cell (p := adi.add k) (by rw [addBlock]; exact hbi)).trans hci
            have hbf2 : adf.block < wr.heap.size := by assumption
            have i0a := (hxa.cell (p := adf.add (f * 2)) (by rw [addBlock]; exact hbf2)).trans i0
            have i1a := (hxa.cell (p := ⟨(adf.add (f * 2)).block, (adf.add (f * 2)).off + 1, none⟩) (by show (adf.add (f * 2)).block < _; rw [addBlock]; exact hbf2)).trans i1
            obtain ⟨B0, B1⟩ := B1
            clear i0 i1 p0 p1 hci
            go_wp2
            go_region
            all_goals
              by_cases hfe : f = k
              · have t10 : ((f : Int) != (k : Int)) = false := by rw [bne_eq_false_iff_eq]; omega
                have Hfe := Lib.hid hfe
                have n64 := hP.out.n64
                have lw : w.heap.size < wr.heap.size := Nat.lt_of_lt_of_le (by simp) (hz4.trans hxr).size
                have la : adc.block < wr.heap.size := Nat.lt_of_lt_of_le hbc hx.size
                have HKp : Hid (∀ w' w'' : World, (w'.cell? ⟨w.heap.size, 0, none⟩ = some (.slice A W.length c) ∧ w'.cell? ⟨w.heap.size, 1, none⟩ = some (.slice (some adc) C.length c2) ∧ w'.cell? (adc.add a') = some (.slice (some adi) cs.length c') ∧ w'.cell? ⟨wr.heap.size, 0, none⟩ = some (.int .i64 (m : Nat)) ∧ w'.cell? ⟨wr.heap.size, 1, none⟩ = some (.int .i64 (d : Nat)) ∧ Ext (wr.alloc (.cells #[.int .i64 (m : Nat), .int .i64 (d : Nat)] 56)) w') → Ext w' w'' → (w''.cell? ⟨w.heap.size, 0, none⟩ = some (.slice A W.length c) ∧ w''.cell? ⟨w.heap.size, 1, none⟩ = some (.slice (some adc) C.length c2) ∧ w''.cell? (adc.add a') = some (.slice (some adi) cs.length c') ∧ w''.cell? ⟨wr.heap.size, 0, none⟩ = some (.int .i64 (m : Nat)) ∧ w''.cell? ⟨wr.heap.size, 1, none⟩ = some (.int .i64 (d : Nat)) ∧ Ext (wr.alloc (.cells #[.int .i64 (m : Nat), .int .i64 (d : Nat)] 56)) w'')) := fun w' w'' ⟨c0, c1, c2, c3, c4, k0⟩ kk => by
                  have l1 : (wr.alloc (.cells #[.int .i64 (m : Nat), .int .i64 (d : Nat)] 56)).heap.size = wr.heap.size + 1 := by simp
                  have l2 := k0.size
                  exact ⟨(kk.cell (show w.heap.size < _ by omega)).trans c0, (kk.cell (show w.heap.size < _ by omega)).trans c1, (kk.cell (p := adc.add a') (by rw [addBlock]; omega)).trans c2, (kk.cell (show wr.heap.size < _ by omega)).trans c3, (kk.cell (show wr.heap.size < _ by omega)).trans c4, k0.trans kk⟩
                have hbk : blockOf cs k < 18446744073709551616 := blockOf_lt cs k (by rw [Hcl.out]; exact n64)
                obtain ⟨cw, hcw⟩ : ∃ n : Nat, n = d * qq := ⟨_, rfl⟩
                obtain ⟨pt, hpt⟩ : ∃ n : Nat, n = m * qq := ⟨_, rfl⟩
                have HWk : Hid (∀ w1, Ext w w1 → Calls Try.prog 39 #[.agg #[.slice A W.length c, .slice (some adc) C.length c2], .int .u64 (blockOf cs k : Nat)] w1 fun x w' => x = .returned (.int .i64 (cw : Nat)) ∧ Ext w1 w') := fun w1 hx1 => by
                  have := HWt.out w1 (blockOf cs k) hx1 hP.out hbk
                  rwa [Hq1.out, ← hcw] at this
                have Hpt : Hid (wt W (blockOf cs k &&& e) = (pt : Nat)) := by show _ = _; rw [Hq2.out, ← hpt]
                have u1 : ((d : Int) == 0) = false := by rw [beq_eq_false_iff_ne]; omega
                have u1n : (d == 0) = false := by rw [beq_eq_false_iff_ne]; omega
                have u2 : (((cw : Int) % (d : Int)) != 0) = false := by
                  rw [hcw, bne_eq_false_iff_eq, Int.natCast_mul]; exact Int.mul_emod_right _ _
                have u3 : (cw : Int) / (d : Int) = (qq : Int) := by
                  rw [hcw, Int.natCast_mul]; exact Int.mul_ediv_cancel_left _ (by omega)
                have hqb : qq ≤ 1000000 := by
                  refine Nat.le_trans ?_ hq3
                  exact Nat.le_mul_of_pos_left qq hd0
                have u4 : wrap64 (qq : Int) = (qq : Int) := IntWalk.wrap64_in (qq : Int) ⟨by omega, by omega⟩
                have u5 : wrap64 ((qq : Int) * (m : Int)) = (pt : Int) := by
                  rw [hpt, Nat.mul_comm, Int.natCast_mul]
                  refine IntWalk.wrap64_in _ ?_
                  rw [← Int.natCast_mul, Nat.mul_comm]
                  omega
                have hSb := mean_bd hP.out cs e k
                rw [← hS.out] at hSb
                have hpb : pt ≤ 1000000 := by rw [hpt]; exact hq4
                have u6 : wrap64 (S + (pt : Int)) = S + (pt : Int) := sum_in hSb (Nat.le_trans hk n64) hpb
                have HSn : Hid (S + (pt : Int) = meanTo W cs e (k + 1)) := by
                  show _ = _
                  rw [mean_succ, if_pos (by rw [Hf3.out, hfe]), Hpt.out, hS.out]
                have HU := Lib.hid (And.intro u1 (And.intro u1n (And.intro u2 (And.intro u3 (And.intro u4 (And.intro u5 u6))))))
                have Hbk := Lib.hid hbk
                clear hfe hbk hcw hpt hSb u1 u1n u2 u3 u4 u5 u6 hqb hpb hq3 hq4
                go_wp2
                go_region_held3 (fun w' : World => w'.cell? ⟨w.heap.size, 0, none⟩ = some (.slice A W.length c) ∧ w'.cell? ⟨w.heap.size, 1, none⟩ = some (.slice (some adc) C.length c2) ∧ w'.cell? (adc.add a') = some (.slice (some adi) cs.length c') ∧ w'.cell? ⟨wr.heap.size, 0, none⟩ = some (.int .i64 (m : Nat)) ∧ w'.cell? ⟨wr.heap.size, 1, none⟩ = some (.int .i64 (d : Nat)) ∧ Ext (wr.alloc (.cells #[.int .i64 (m : Nat), .int .i64 (d : Nat)] 56)) w') (first | exact ⟨p0a, p1a, hcea, B0, B1, (Ext.refl _).drew.drew⟩ | (go_split_ands; refine HKp.out _ _ ⟨?_, ?_, ?_, ?_, ?_, ?_⟩ hyB <;> assumption) | (go_split_ands; refine HKp.out _ _ ⟨?_, ?_, ?_, ?_, ?_, ?_⟩ hyC <;> assumption) | assumption) (first | (go_at_call 40; refine (HBl.out _ _ cs k (HIc.out.ext (hx.trans (hxa.trans (by go_split_ands; assumption)))) (by rw [Hcl.out]; exact n64) Hco.out hkc).mono ?_; rintro x wB ⟨rfl, hyB⟩) | (go_at_call 39; refine (HWk.out _ (hx.trans (hxa.trans (by go_split_ands; assumption)))).mono ?_; rintro x wC ⟨rfl, hyC⟩))
                all_goals
                  go_split_ands
                  have hxC : Ext wr wC := hxa.trans (by assumption)
                  obtain ⟨u1, u1n, u2, u3, u4, u5, u6⟩ := HU.out
                  go_wp2
                  go_region
                  all_goals
                    go_wp2
                    go_roundw
                    case rel => exact ⟨k + 1, by omega, by go_num, ⟨S + (pt : Int), by rw [u6], HSn.out⟩, (hxr.trans hxC).drew⟩
                    case measure => simp [intOf]; omega
              · have t10 : ((f : Int) != (k : Int)) = true := by rw [bne_iff_ne]; omega
                have Hfe : Hid (meanTo W cs e (k + 1) = meanTo W cs e k) := by
                  show _ = _
                  rw [mean_succ, if_neg (by rw [Hf3.out]; omega), Int.add_zero]
                have n64 := hP.out.n64
                clear hfe
                go_wp2
                go_roundw
                case rel => exact ⟨k + 1, by omega, by go_num, ⟨S, rfl, by show _ = _; rw [Hfe.out]; exact hS.out⟩, (hxr.alloc _).drew⟩
                case measure => simp [intOf]; omega
          · obtain rfl : k = W.length := by omega
            have hSe : S = wt W e := by rw [hS.out]; unfold meanTo; rw [Hcs.out]; exact mean_sum hP.out Hac.out e
            have HWe := Lib.hid (HWt.out wr e hx hP.out he)
            rw [← hSe] at HWe
            clear hSe
            go_wp2_with fail
            refine HWe.out.mono ?_
            rintro x w5 ⟨rfl, hy5⟩
            go_wp2_with fail
            refine (HAw.out _).mono ?_
            rintro x w6 ⟨rfl, hy6⟩
            go_wp2
            go_ret
            exact ⟨rfl, (hx.trans hy5).trans hy6⟩
      · have t2 : (z != 0) = true := by rw [bne_iff_ne]; exact ez
        clear ez hf
        go_wp2_with fail
        refine (HAw.out _).mono ?_
        rintro x w5 ⟨rfl, hy5⟩
        go_wp2
        go_ret
        exact ⟨rfl, hx4.trans hy5⟩
    · have t : (y != 0) = true := by rw [bne_iff_ne]; exact ey
      clear ey
      go_wp2_with fail
      refine (HAw.out _).mono ?_
      rintro x w4 ⟨rfl, hy4⟩
      go_wp2
      go_ret
      exact ⟨rfl, hx3.trans hy4⟩

end Go.Proofs.Ytdlhfihddipjaab
