/-
  AgreementEnds: the walk of the law.
-/
import Derived.Test.YtdlhfihddipjaabAgX
import Derived.Test.YtdlhfihddipjaabAgE
namespace Go.Proofs.Ytdlhfihddipjaab
open Go.RowKit

theorem cellsQ4 (w : World) (v1 v2 : Value) (t : TypeId) : ∀ w', Ext (w.alloc (.cells #[v1, v2] t)) w' → w'.cell? ⟨w.heap.size, 0, none⟩ = some v1 ∧ w'.cell? ⟨w.heap.size, 1, none⟩ = some v2 := fun w' k => by
  obtain ⟨p0, p1⟩ := cellsP w v1 v2 t
  exact ⟨(k.cell (by simp)).trans p0, (k.cell (by simp)).trans p1⟩
theorem prior_sl4 {w1 : World} {o1 o2 : Value} {W : List Int} {C : List (List Int)} (hp : Prior w1 o1 o2 W C) : ∃ A n c A' n' c', o1 = .slice A n c ∧ o2 = .slice A' n' c' := by
  obtain ⟨⟨A, c, e1, _⟩, ⟨A', c', _, e2, _⟩⟩ := hp
  exact ⟨_, _, _, _, _, _, e1, e2⟩
theorem Pris.form4 {w : World} {v : Value} {W : List Int} {css : List (List (List Int))} (h : Pris w v W css) : ∃ A c, v = .slice A css.length c ∧ css.length ≤ c ∧ c ≤ 9223372036854775807 := by
  obtain ⟨A, c, e, h1, h2, _⟩ := h
  exact ⟨A, c, e, h1, h2⟩

theorem ix0 (w : World) (ad : Addr) (K d : Nat) (h : 0 < K) : (Instr.indexAt 47 (.slice (some ad) K d) (.int .i64 0)).run Try.prog w = .ok (.pointer (some ad)) w := by
  go_simp

set_option maxRecDepth 100000 in
set_option maxHeartbeats 8000000 in
theorem ends_law (w : World) (v1 v2 : Value) (W : List Int) (C : List (List Int)) (h : Prior w v1 v2 W C) (e : Nat) (he : e < 18446744073709551616) :
    Calls Try.prog 7 #[.agg #[v1, v2], .int .u64 e] w fun x w' => x = .returned (.bool true) ∧ Ext w w' := by
  have HAw : Hid (∀ w1, Calls Try.prog 26 #[] w1 fun x w' => x = .returned (.bool true) ∧ Ext w1 w') := awake24_any
  have HFe : Hid (∀ w1, Ext w w1 → Calls Try.prog 25 #[.agg #[v1, v2], .int .i64 16] w1 fun x w' => x = .returned (.bool (fewB W C 16)) ∧ Ext w1 w') := fun w1 hx => few_any w1 v1 v2 W C (h.ext hx) 16
  obtain ⟨y, hy⟩ : ∃ y, y = agErr W C := ⟨_, rfl⟩
  have HCh : Hid (∀ w1, Ext w w1 → Calls Try.prog 30 #[.agg #[v1, v2]] w1 fun x w' => x = .returned (.int .i64 y) ∧ Ext w1 w') := fun w1 hx => by
    have := agCheck_any w1 v1 v2 W C (h.ext hx)
    rwa [← hy] at this
  obtain ⟨z, hz⟩ : ∃ z, z = anyErr W C 0 e := ⟨_, rfl⟩
  have HP1 : Hid (∀ w1, Ext w w1 → Calls Try.prog 27 #[.agg #[v1, v2], .int .u64 e] w1 fun x w' => ∃ o, x = .returned (.tuple #[o, .int .i64 z]) ∧ Pris w' o W (exR W C e) ∧ Ext w1 w') := fun w1 hx => by
    have := Exchange_any w1 v1 v2 W C (h.ext hx) e he
    rwa [← hz] at this
  have HSm : Hid (∀ w1 u1 u2 x1 x2 V D, Prior w1 u1 u2 V D → Prior w1 x1 x2 V D → Calls Try.prog 29 #[.agg #[u1, u2], .agg #[x1, x2]] w1 fun e w' => e = .returned (.bool true) ∧ Ext w1 w') := fun w1 u1 u2 x1 x2 V D ha hb => by
    have := same24_any w1 u1 u2 x1 x2 V V D D ha hb
    rwa [decide_eq_true ⟨rfl, rfl⟩] at this
  have HAg : Hid (∀ w1 u1 u2 D (k : Nat), Prior w1 u1 u2 W D → agrR W D k e = (true, 0) → Calls Try.prog 31 #[.agg #[u1, u2], .int .i64 k, .int .u64 e] w1 fun x w' => x = .returned (.tuple #[.bool true, .int .i64 0]) ∧ Ext w1 w') := fun w1 u1 u2 D k hp hr => by
    have := Agree_any w1 u1 u2 W D hp k e he
    rwa [hr] at this
  have hfl : fewB W C 16 = true → W.length ≤ 16 := fun q => by have := (few_len q).1; omega
  obtain ⟨q, hq⟩ : ∃ q, q = fewB W C 16 := ⟨_, rfl⟩
  rw [← hq] at HFe hfl
  have Hfl := Lib.hid hfl
  have Hpr := Lib.hid h
  obtain ⟨⟨A, c, rfl, hs, _⟩, ⟨A2, c2, vs, rfl, hs2, _⟩⟩ := h
  have HUp := Lib.hid (cellsQ4 w (.slice A W.length c) (.slice A2 C.length c2) 45)
  have hx1 : Ext w (w.alloc (.cells #[.slice A W.length c, .slice A2 C.length c2] 45)) := (Ext.refl w).alloc _
  have CF := Lib.hid (HFe.out _ hx1)
  have HY := Lib.hid hy
  have HZ := Lib.hid hz
  clear hs hs2 hz hq hy hfl
  obtain ⟨p0, p1⟩ := HUp.out _ (Ext.refl _)
  go_enter Try.func7, Try.ntmps7
  go_wp2_with fail
  refine CF.out.mono ?_
  rintro x w2 ⟨rfl, hy2⟩
  obtain ⟨p0, p1⟩ := HUp.out _ hy2
  have hx2 := hx1.trans hy2
  cases q with
  | false =>
    go_wp2_with fail
    refine (HAw.out _).mono ?_
    rintro x w3 ⟨rfl, hy3⟩
    go_wp2
    go_ret
    exact ⟨rfl, hx2.trans hy3⟩
  | true =>
    have h16 := Hfl.out rfl
    go_wp2_with fail
    refine (HCh.out _ hx2).mono ?_
    rintro x w3 ⟨rfl, hy3⟩
    have hz3 := hy2.trans hy3
    obtain ⟨p0, p1⟩ := HUp.out _ hz3
    have hx3 := hx1.trans hz3
    by_cases ey : y = 0
    · have t : (y != 0) = false := by rw [ey]; rfl
      have hP := Lib.hid (agErr_zero (HY.out.symm.trans ey))
      clear ey
      go_wp2_with fail
      refine (HP1.out _ hx3).mono ?_
      rintro x w4 ⟨o1, rfl, hp1, hy4⟩
      have hz4 := hz3.trans hy4
      obtain ⟨p0, p1⟩ := HUp.out _ hz4
      have hx4 := hx1.trans hz4
      by_cases ez : z = 0
      · have t2 : (z != 0) = false := by rw [ez]; rfl
        have hel : exR W C e = exL W C e (exN W C e + 1) := by unfold exR; rw [if_neg (by rw [← HZ.out, ez]; simp)]
        rw [hel] at hp1
        have Hee : Hid (e < 2 ^ W.length) := by obtain ⟨_, _, _, _, hh⟩ := anyErr_zero (HZ.out.symm.trans ez); exact hh
        have hN := (exN_spec hP.out e)
        obtain ⟨N, hNN⟩ : ∃ N, N = exN W C e := ⟨_, rfl⟩
        rw [← hNN] at hp1 hN
        have HN := Lib.hid hN.1
        have hNb := hN.2
        obtain ⟨B1, d1, rfl, hl1, hm1⟩ := hp1.form4
        rw [exL_len] at hl1 hp1 ⊢
        have h0 := hp1.get (show 0 < (exL W C e (N + 1)).length by rw [exL_len]; omega)
        have hN' := hp1.get (show N < (exL W C e (N + 1)).length by rw [exL_len]; omega)
        rw [nthC_exL (by omega)] at h0 hN'
        obtain ⟨ad, u1, u2, rfl, hb1, q1, q2, q3, hu⟩ := h0
        obtain ⟨ad', x1, x2, ea, hb2, r1, r2, r3, hv⟩ := hN'
        obtain rfl : ad = ad' := by injection ea
        obtain ⟨E1, m1, g1, E2, m2, g2, rfl, rfl⟩ := prior_sl4 hu
        obtain ⟨E3, m3, g3, E4, m4, g4, rfl, rfl⟩ := prior_sl4 hv
        have hu : Prior w4 (.slice E1 m1 g1) (.slice E2 m2 g2) W C := hu
        have f1 : w4.cell? ad = some (.slice E1 m1 g1) := by simpa [Addr.add] using q1
        have f2 : w4.cell? ⟨ad.block, ad.off + 1, none⟩ = some (.slice E2 m2 g2) := by simpa [Addr.add] using q3
        have CS := Lib.hid (HSm.out w4.drew _ _ _ _ _ _ (hu.ext (Ext.refl w4).drew) (Hpr.out.ext (hx4.trans (Ext.refl w4).drew)))
        have Hv := Lib.hid hv
        have HR := Lib.hid (show Ext w4 w4 from Ext.refl _)
        have hc4 := hP.out.c4
        have hM : W.length * C.length ≤ 64 := Nat.mul_le_mul h16 hc4
        obtain ⟨M, hMM⟩ : ∃ M, M = W.length * C.length := ⟨_, rfl⟩
        rw [← hMM] at hM hNb
        have hmul : IntKind.i64.wrap ((W.length : Int) * (C.length : Int)) = (M : Int) := by rw [hMM, ← Int.natCast_mul, ← hMM, IntKind.wrap_i64]; omega
        have hadd : IntKind.i64.wrap (1 + (M : Int)) = 1 + (M : Int) := by rw [IntKind.wrap_i64]; omega
        have HNb := Lib.hid hNb
        obtain ⟨K, hK⟩ : ∃ K, K = N + 1 := ⟨_, rfl⟩
        rw [← hK]
        have hpos : 0 < K := by omega
        have hix : ∀ w' : World, (Instr.indexAt 47 (.slice (some ad) K d1) (.int .i64 0)).run Try.prog w' = .ok (.pointer (some ad)) w' := fun w' => ix0 w' ad K d1 hpos
        have hk0 : decide (K = 0) = false := by rw [decide_eq_false_iff_not]; omega
        have hk1 : decide (K < 1) = false := by rw [decide_eq_false_iff_not]; omega
        have hk2 : decide (1 + M < K) = false := by rw [decide_eq_false_iff_not]; omega
        have hgt : decide (1 + (M : Int) < (K : Int)) = false := by rw [decide_eq_false_iff_not]; omega
        have hlt1 : decide ((K : Int) < 1) = false := by rw [decide_eq_false_iff_not]; omega
        have HK := Lib.hid hK
        clear hK
        clear hel hN hNN hMM ea hu hv hp1 ez h16 hc4 hM hNb q1 q2 q3 r2
        have R1 := Lib.hid r1
        have R3 := Lib.hid r3
        clear r1 r3
        go_wp2
        go_region_held3 (fun w' : World => w'.cell? ad = some (.slice E1 m1 g1) ∧ w'.cell? ⟨ad.block, ad.off + 1, none⟩ = some (.slice E2 m2 g2) ∧ w'.cell? ⟨w.heap.size, 0, none⟩ = some (.slice A W.length c) ∧ w'.cell? ⟨w.heap.size, 1, none⟩ = some (.slice A2 C.length c2)) (first | exact ⟨f1, f2, p0, p1⟩ | exact ⟨(hy5.cell (p := ad) hb1).trans f1, (hy5.cell (p := ⟨ad.block, ad.off + 1, none⟩) hb1).trans f2, HUp.out _ (hz4.drew.trans hy5)⟩ | assumption) (first | (go_at_call 29; refine CS.out.mono ?_; rintro x w5 ⟨rfl, hy5⟩))
        all_goals
          have hsub : IntKind.i64.wrap ((K : Int) - 1) = (N : Int) := by have := HK.out; rw [IntKind.wrap_i64]; omega
          have hnn : (0 : Int) ≤ (N : Int) := by omega
          have hNK : (N : Int) < (K : Int) := by have := HK.out; omega
          clear hpos hix hk0 hk1 hk2 hgt hlt1 hmul hadd
          go_split_ands
          have hx5 := hx4.trans (((Ext.refl w4).drew).trans hy5)
          have hy45 := ((Ext.refl w4).drew).trans hy5
          clear hy5
          go_wp2
          go_loopw [55] (fun v wr => ∃ k : Nat, k ≤ W.length ∧ v = .int .i64 k ∧ Ext w5 wr) (fun v _ => W.length - (intOf v).toNat)
          case atStart => exact ⟨0, Nat.zero_le _, rfl, Ext.refl _⟩
          case round =>
            obtain ⟨k, hk, rfl, hxr⟩ := hrel
            have hx := hx5.trans hxr
            by_cases hlt : k < W.length
            · have hyr := hy45.trans hxr
              have n64 := hP.out.n64
              have r1 := (hyr.cell (p := ad.add (N * 2)) (by rw [addBlock]; exact hb1)).trans R1.out
              have r3 := (hyr.cell (p := ⟨(ad.add (N * 2)).block, (ad.add (N * 2)).off + 1, none⟩) (by show (ad.add (N * 2)).block < _; rw [addBlock]; exact hb1)).trans R3.out
              have CG := Lib.hid (HAg.out wr _ _ _ k (Hv.out.ext hyr) (ends_plain (exC_ok hP.out e N) HN.out hlt Hee.out))
              have hM2 := HNb.out
              go_wp2_with fail
              refine CG.out.mono ?_
              rintro x w6 ⟨rfl, hy6⟩
              have hx6 := hxr.trans hy6
              go_wp2
              go_roundw
              case rel => exact ⟨k + 1, by omega, by go_num, hx6⟩
              case measure => simp [intOf]; omega
            · obtain rfl : k = W.length := by omega
              go_wp2_with fail
              refine (HAw.out _).mono ?_
              rintro x w10 ⟨rfl, hy10⟩
              go_wp2
              go_ret
              exact ⟨rfl, hx.trans hy10⟩
      · have t2 : (z != 0) = true := by rw [bne_iff_ne]; exact ez
        clear ez hp1
        go_wp2_with fail
        refine (HAw.out _).mono ?_
        rintro x w5 ⟨rfl, hy5⟩
        go_wp2
        go_ret
        exact ⟨rfl, hx4.trans hy5⟩
    · have t : (y != 0) = true := by rw [bne_iff_ne]; exact ey
      clear ey
      go_wp2_with fail
      refine (HAw.out _).mono ?_
      rintro x w4 ⟨rfl, hy4⟩
      go_wp2
      go_ret
      exact ⟨rfl, hx3.trans hy4⟩

end Go.Proofs.Ytdlhfihddipjaab
