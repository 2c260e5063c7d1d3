/-
  Contracts of the package postulates: Order.
-/
import Derived.Test.YtdlhfihddipjaabDoorTg5
namespace Go.Proofs.YtdlhfihddipjaabDoor
open Go.RowKit

set_option maxRecDepth 100000 in
set_option maxHeartbeats 2000000 in
theorem order_no (w : World) (v : Value) (T : List Nat) (m k : Nat) (hG : RevG w) (hm : m ≤ 3) (h : Sets w v T) (hl : T.length = 2 ^ 2 ^ m) (ht : ∀ i, i < T.length → nthN T i < 2 ^ 2 ^ m) (hk : k < 2 ^ 2 ^ m) (hn : pMask (2 ^ 2 ^ m) k (nthN T) ≠ 63) :
    Calls Tryd.prog 9 #[.int .i64 m, .int .u64 k, v] w fun e w' => e = .returned (.tuple #[.slice none 0 0, .int .i64 6]) ∧ Ext w w' := by
  have CR := Lib.hid (revision_ok w v T m k hG hm h hl ht hk)
  have HG2 : Hid (∀ w1, Ext w w1 → ∃ ad cap, w1.cell? ⟨0, 0, none⟩ = some (.slice (some ad) 6 cap)) := fun w1 hx => by
    obtain ⟨ad, cap, h1, _⟩ := hG.ext hx
    exact ⟨ad, cap, h1⟩
  obtain ⟨M, hM⟩ : ∃ M, M = pMask (2 ^ 2 ^ m) k (nthN T) := ⟨_, rfl⟩
  rw [← hM] at CR hn
  have t : ((M : Int) != 63) = true := by rw [bne_iff_ne]; omega
  clear hM h hl ht hk hG hn
  go_enter Tryd.func9, Tryd.ntmps9
  go_wp2_with fail
  refine CR.out.mono ?_
  rintro x w2 ⟨a, b, rfl, hy2⟩
  obtain ⟨adg, capg, g0⟩ := HG2.out w2 hy2
  go_wp2
  go_ret2
  exact ⟨rfl, hy2⟩

/-- What is asked of a pair, in the order's innermost loop. -/
def lowP (N : Nat) (t : Nat → Nat) (L v : Nat) : Bool := L.testBit v && (List.range N).all fun w => !L.testBit w || (t (2 ^ v ||| 2 ^ w)).testBit v
def lowTo (t : Nat → Nat) (L v u : Nat) : Bool := (List.range u).all fun w => !L.testBit w || (t (2 ^ v ||| 2 ^ w)).testBit v
theorem lowTo_succ (t : Nat → Nat) (L v u : Nat) : lowTo t L v (u + 1) = (lowTo t L v u && (!L.testBit u || (t (2 ^ v ||| 2 ^ u)).testBit v)) := by
  unfold lowTo; rw [List.range_succ, List.all_append]; simp
theorem lowOf4_mask (N : Nat) (t : Nat → Nat) (L : Nat) : lowOf4 N t L = maskTo (lowP N t L) N := rfl
/-- The ranks under construction. -/
def rkTo (N : Nat) (t : Nat → Nat) (L : Nat) (d : List Int) (r : Nat) (v i : Nat) : Int := if i < v ∧ lowP N t L i = true then (r : Int) else nth d i

set_option maxRecDepth 100000 in
set_option maxHeartbeats 8000000 in
theorem order_yes (w : World) (v : Value) (T : List Nat) (m k : Nat) (hG : RevG w) (hm : m ≤ 3) (h : Sets w v T) (hl : T.length = 2 ^ 2 ^ m) (ht : ∀ i, i < T.length → nthN T i < 2 ^ 2 ^ m) (hk : k < 2 ^ 2 ^ m) (hn : pMask (2 ^ 2 ^ m) k (nthN T) = 63) :
    Calls Tryd.prog 9 #[.int .i64 m, .int .u64 k, v] w fun e w' => ∃ v' d, e = .returned (.tuple #[v', .int .i64 0]) ∧ Ints .i64 w' v' d ∧ d.length = 2 ^ m ∧ (∀ i, i < 2 ^ m → 0 ≤ nth d i ∧ nth d i ≤ 1000) ∧ (∀ x, x < 2 ^ 2 ^ m → bestOf d x = nthN T x) ∧ Ext w w' := by
  have CR := Lib.hid (revision_ok w v T m k hG hm h hl ht hk)
  have HG2 : Hid (∀ w1, Ext w w1 → ∃ ad cap, w1.cell? ⟨0, 0, none⟩ = some (.slice (some ad) 6 cap)) := fun w1 hx => by
    obtain ⟨ad, cap, h1, _⟩ := hG.ext hx
    exact ⟨ad, cap, h1⟩
  have HC : Hid (∀ w1 : World, Calls Tryd.prog 14 #[.int .i64 m] w1 fun e w' => e = .returned (.int .i64 (2 ^ 2 ^ m : Nat)) ∧ w1 = w') := fun w1 => sets_ok w1 m hm
  rw [hn] at CR
  have hkm := km_iff.1 (pMask_all.1 hn)
  have hM := pow_small3 hm
  have hN8 : 2 ^ m ≤ 8 := Nat.pow_le_pow_right (n := 2) (by omega) hm
  have hwm := wrap64_pow m (by omega)
  have hcv := u64_wrap_small (2 ^ 2 ^ m) (by omega)
  have hS1 : IntKind.u64.wrap (((2 ^ 2 ^ m : Nat) : Int) - 1) = ((full (2 ^ m) : Nat) : Int) := by
    have h2 := Nat.two_pow_pos (2 ^ m)
    rw [IntKind.wrap_u64]
    unfold full
    generalize (2 ^ 2 ^ m : Nat) = M at *
    omega
  obtain ⟨N, hN⟩ : ∃ N, N = 2 ^ m := ⟨_, rfl⟩
  rw [← hN] at HC hkm hM hN8 hwm hcv hS1 hl ⊢
  have hTl : ∀ i, i < 2 ^ N → nthN T i < 18446744073709551616 := fun i hi => by
    have := ht i (by rw [hl]; exact hi)
    rw [← hN] at this
    omega
  obtain ⟨t, htt⟩ : ∃ t, t = nthN T := ⟨_, rfl⟩
  have Ht := Lib.hid htt
  rw [← htt] at hkm
  have HK := Lib.hid hkm
  have H := Lib.hid h
  have Hl := Lib.hid hl
  have HTl := Lib.hid hTl
  have hst := OrdTo.start (N := N) (t := t)
  have Hst := Lib.hid hst
  obtain ⟨S, hS⟩ : ∃ S, S = 2 ^ N := ⟨_, rfl⟩
  rw [← hS] at HC hcv hS1 hM
  obtain ⟨F, hF⟩ : ∃ F, F = full N := ⟨_, rfl⟩
  rw [← hF] at hS1 Hst
  have hFlt : F < 2 ^ N := by rw [hF]; exact full_lt N
  have HS := Lib.hid hS
  have hmk := run_make_row' (P := Tryd.prog) 22 3 (.int .i64 0) 8 Tryd.underlying22 Tryd.infoInt rfl .i64 .i64 N (by omega) (by omega)
  obtain ⟨At, ct, evt, hst0, _⟩ := h
  subst evt
  have hlt0 := hst0.le
  have hct0 := hst0.cap
  clear hS hF hN ht hk hG hn htt hkm hl hTl hst hst0
  go_enter Tryd.func9, Tryd.ntmps9
  go_wp2_with fail
  refine CR.out.mono ?_
  rintro x w2 ⟨a, b, rfl, hy2⟩
  obtain ⟨adg, capg, g0⟩ := HG2.out w2 hy2
  go_wp2_with fail
  refine (HC.out _).mono ?_
  rintro x w3 ⟨rfl, rfl⟩
  go_wp2
  try rw [hwm]
  have hx2 := hy2.alloc (.cells (madeCells #[.int .i64 0] N) 3)
  go_loopw [13, 14] (fun l r wr => ∃ L rr : Nat, ∃ d : List Int, l = .int .u64 L ∧ r = .int .i64 rr ∧ Hid (OrdTo N t L d rr) ∧ wr.rowIs w2.heap.size 3 N (fun i => .int .i64 (nth d i)) ∧ Ext w2 wr) (fun l _ _ => (intOf l).toNat)
  case atStart => exact ⟨F, 0, List.replicate N 0, rfl, rfl, Hst.out, (World.rowIs_made _ _ _ _).congr (fun i hi => by rw [nth_replicate _ _ _ hi]), (Ext.refl w2).alloc _⟩
  case round =>
    obtain ⟨L, r, d, rfl, rfl, ho, hrow, hxr⟩ := hrel
    have hsum := ho.out.sum
    have hLlt := ho.out.lt
    have hr256 : r < 256 := by have := HS.out; omega
    have hL256 : L < 256 := by have := HS.out; omega
    by_cases h0 : L = 0
    · subst h0
      have hd := ho.out.done HK.out
      have hdl := ho.out.len
      have hrk := ho.out.rk
      go_wp2
      go_ret2
      refine ⟨_, d, rfl, Ints.of_row hrow hdl (by omega) (fun i hi => ?_), hdl, fun i hi => ?_, fun x hx => by rw [← Ht.out]; exact hd x hx, hy2.trans hxr⟩
      · have := hrk i (by omega); exact fits_small (by omega) (by omega)
      · have := hrk i hi; omega
    · have tL : ((L : Int) != 0) = true := by rw [bne_iff_ne]; omega
      have H0 := Lib.hid h0
      clear h0 hsum hLlt
      go_wp2
      go_loopw [15, 51] (fun lo v wv => ∃ j : Nat, j ≤ N ∧ v = .int .i64 j ∧ lo = .int .u64 (maskTo (lowP N t L) j : Nat) ∧ wv.rowIs w2.heap.size 3 N (fun i => .int .i64 (rkTo N t L d r j i)) ∧ Ext w2 wv) (fun _ v _ => N - (intOf v).toNat)
      case atStart => exact ⟨0, Nat.zero_le _, rfl, rfl, hrow.congr (fun i hi => by unfold rkTo; rw [if_neg (by omega)]), hxr⟩
      case round =>
        obtain ⟨j, hj, rfl, rfl, hrowj, hxj⟩ := hrel
        by_cases hlt : j < N
        · have hb1 := u64_bit0 L j (by omega)
          cases hbL : L.testBit j with
          | false =>
            rw [hbL] at hb1
            have hlp : lowP N t L j = false := by unfold lowP; rw [hbL]; rfl
            have hmk' : Hid (maskTo (lowP N t L) (j + 1) = maskTo (lowP N t L) j) := by show _ = _; rw [mask_succ, hlp]; rfl
            have hrk' : Hid (∀ i, rkTo N t L d r (j + 1) i = rkTo N t L d r j i) := fun i => by
              unfold rkTo
              by_cases q : i = j
              · subst q; rw [if_neg (by rw [hlp]; simp), if_neg (by omega)]
              · by_cases q2 : i < j ∧ lowP N t L i = true
                · rw [if_pos ⟨by omega, q2.2⟩, if_pos q2]
                · rw [if_neg (fun z => q2 ⟨by omega, z.2⟩), if_neg q2]
            clear hbL hlp
            go_wp2
            go_roundw
            case rel => exact ⟨j + 1, by omega, by go_num, by rw [hmk'.out], hrowj.congr (fun i hi => by rw [hrk'.out]), hxj⟩
            case measure => simp [intOf]; omega
          | true =>
            rw [hbL] at hb1
            have HbL := Lib.hid hbL
            clear hbL
            go_wp2
            go_loopw [17, 61] (fun lw v wu => ∃ u : Nat, u ≤ N ∧ v = .int .i64 u ∧ lw = .bool (lowTo t L j u) ∧ wu.rowIs w2.heap.size 3 N (fun i => .int .i64 (rkTo N t L d r j i)) ∧ Ext w2 wu) (fun _ v _ => N - (intOf v).toNat)
            case atStart => exact ⟨0, Nat.zero_le _, rfl, rfl, hrowj, hxj⟩
            case round =>
              obtain ⟨u, hu, rfl, rfl, hrowu, hxu⟩ := hrel
              by_cases hul : u < N
              · have hpl : 2 ^ j ||| 2 ^ u < T.length := by rw [Hl.out]; exact pair_lt hlt hul
                have hpT := HTl.out (2 ^ j ||| 2 ^ u) (pair_lt hlt hul)
                have hb2 := u64_bit0 L u (by omega)
                have hls := lowTo_succ t L j u
                have hb3 := u64_bit1 (nthN T (2 ^ j ||| 2 ^ u)) j hpT
                rw [show nthN T (2 ^ j ||| 2 ^ u) = t (2 ^ j ||| 2 ^ u) by rw [Ht.out]] at hb3
                have hpj := u64_wrap_pow j (by omega)
                have hpu := u64_wrap_pow u (by omega)
                have hor := u64_or (2 ^ j) (2 ^ u) (pow_lt64 (by omega)) (pow_lt64 (by omega))
                obtain ⟨As, cc, ei, hss, _⟩ := H.out.ext (hy2.trans hxu)
                injection ei with ei1 ei2 ei3
                subst ei1
                obtain ⟨adT, e1, hbT, hcT⟩ := hss.get hpl
                subst e1
                rw [show nthN T (2 ^ j ||| 2 ^ u) = t (2 ^ j ||| 2 ^ u) by rw [Ht.out]] at hcT
                obtain ⟨pj, hpje⟩ : ∃ n, n = 2 ^ j := ⟨_, rfl⟩
                obtain ⟨pu, hpue⟩ : ∃ n, n = 2 ^ u := ⟨_, rfl⟩
                rw [← hpje, ← hpue] at hor hb3 hcT hpl hls
                rw [← hpje] at hpj
                rw [← hpue] at hpu
                obtain ⟨pr, hpre⟩ : ∃ n, n = pj ||| pu := ⟨_, rfl⟩
                rw [← hpre] at hor hb3 hcT hpl hls
                obtain ⟨tv, htv⟩ : ∃ n, n = t pr := ⟨_, rfl⟩
                rw [← htv] at hb3 hcT hls
                obtain ⟨b1, hb1e⟩ : ∃ b, b = lowTo t L j u := ⟨_, rfl⟩
                obtain ⟨b2, hb2e⟩ : ∃ b, b = L.testBit u := ⟨_, rfl⟩
                obtain ⟨b3, hb3e⟩ : ∃ b, b = tv.testBit j := ⟨_, rfl⟩
                rw [← hb1e, ← hb2e, ← hb3e] at hls
                rw [← hb1e]
                rw [← hb2e] at hb2
                rw [← hb3e] at hb3
                have hpli : (pr : Int) < (T.length : Int) := by omega
                have Hls := Lib.hid hls
                have Hl1 := Lib.hid hb1e
                clear hls hpje hpue hpre htv hb1e hb2e hb3e hss ei2 ei3 hpT
                cases b1 with
                | false =>
                  go_wp2
                  go_quiet (fail)
                  go_wp2
                  go_roundw
                  case rel => exact ⟨u + 1, by omega, by go_num, by rw [Hls.out]; rfl, hrowu.of_block ((((Ext.refl _).drewN _).block _ hrowu.lt)), hxu.drewN _⟩
                  case measure => simp [intOf]; omega
                | true =>
                  cases b2 with
                  | false =>
                    go_wp2
                    go_quiet (fail)
                    go_wp2
                    go_roundw
                    case rel => exact ⟨u + 1, by omega, by go_num, by rw [Hls.out]; rfl, hrowu.of_block ((((Ext.refl _).drewN _).block _ hrowu.lt)), hxu.drewN _⟩
                    case measure => simp [intOf]; omega
                  | true =>
                    go_wp2
                    go_quiet (fail)
                    go_wp2
                    go_roundw
                    case rel => exact ⟨u + 1, by omega, by go_num, by rw [Hls.out]; simp, hrowu.of_block ((((Ext.refl _).drewN _).block _ hrowu.lt)), hxu.drewN _⟩
                    case measure => simp [intOf]; omega
              · obtain rfl : u = N := by omega
                obtain ⟨b1, hb1e⟩ : ∃ b, b = lowTo t L j u := ⟨_, rfl⟩
                have hlp : lowP u t L j = b1 := by
                  rw [hb1e]; unfold lowP; rw [HbL.out, Bool.true_and]; rfl
                rw [← hb1e]
                have hms := mask_succ (lowP u t L) j
                rw [hlp] at hms
                have hmk64 : maskTo (lowP u t L) j < 18446744073709551616 := maskTo_lt64 _ (by omega)
                have hor := u64_or_pow (maskTo (lowP u t L) j) j hmk64 (by omega)
                have hpj := u64_wrap_pow j (by omega)
                obtain ⟨pj, hpje⟩ : ∃ n, n = 2 ^ j := ⟨_, rfl⟩
                obtain ⟨mo, hmo⟩ : ∃ n, n = maskTo (lowP u t L) j ||| pj := ⟨_, rfl⟩
                rw [hpj, ← hpje, ← hmo] at hor
                rw [← hpje] at hpj
                rw [← hpje, ← hmo] at hms
                have Hms := Lib.hid hms
                have Hlp := Lib.hid hlp
                clear hb1e hpje hmo hms hlp hmk64
                cases b1 with
                | false =>
                  have hrk' : Hid (∀ i, rkTo u t L d r (j + 1) i = rkTo u t L d r j i) := fun i => by
                    unfold rkTo
                    by_cases q : i = j
                    · subst q; rw [if_neg (by rw [Hlp.out]; simp), if_neg (by omega)]
                    · by_cases q2 : i < j ∧ lowP u t L i = true
                      · rw [if_pos ⟨by omega, q2.2⟩, if_pos q2]
                      · rw [if_neg (fun z => q2 ⟨by omega, z.2⟩), if_neg q2]
                  go_wp2
                  go_roundw
                  case rel => exact ⟨j + 1, by omega, by go_num, by rw [Hms.out]; rfl, hrowu.congr (fun i hi => by rw [hrk'.out]), hxu⟩
                  case measure => simp [intOf]; omega
                | true =>
                  have hrk' : Hid (∀ i, rkTo u t L d r (j + 1) i = if i = j then (r : Int) else rkTo u t L d r j i) := fun i => by
                    unfold rkTo
                    by_cases q : i = j
                    · subst q; rw [if_pos ⟨by omega, Hlp.out⟩, if_pos rfl]
                    · rw [if_neg q]
                      by_cases q2 : i < j ∧ lowP u t L i = true
                      · rw [if_pos ⟨by omega, q2.2⟩, if_pos q2]
                      · rw [if_neg (fun z => q2 ⟨by omega, z.2⟩), if_neg q2]
                  have hc := hrowu.cell hlt
                  have hfz := hrowu.frozen j
                  have hji : (j : Int) < (u : Int) := by omega
                  go_wp2
                  go_roundw
                  case rel => exact ⟨j + 1, by omega, by go_num, by rw [Hms.out]; rfl, (hrowu.set j _).congr (fun i hi => by
                    rw [hrk'.out]
                    by_cases q : i = j
                    · subst q; simp
                    · simp [q]), hxu.setCell (Nat.le_refl _) _⟩
                  case measure => simp [intOf]; omega
        · obtain rfl : j = N := by omega
          have hmm := lowOf4_mask j t L
          obtain ⟨lo, hlo⟩ : ∃ n, n = maskTo (lowP j t L) j := ⟨_, rfl⟩
          rw [← hlo] at hmm ⊢
          have hst := ho.out.step HK.out H0.out (d' := (List.range j).map (rkTo j t L d r j)) (by simp) (fun i hi => by
            rw [nth_ofFn j _ i hi, hmm, hlo]
            unfold rkTo
            rw [maskTo_bit]
            by_cases q : lowP j t L i = true
            · rw [if_pos ⟨hi, q⟩, if_pos (by simp [hi, q])]
            · rw [if_neg (fun z => q z.2), if_neg (by simp [q])])
          rw [hmm] at hst
          obtain ⟨hne, hlt', hst⟩ := hst
          have t0 : ((lo : Int) == 0) = false := by rw [beq_eq_false_iff_ne]; omega
          have hlo64 : lo < 18446744073709551616 := by rw [hlo]; exact maskTo_lt64 _ (by omega)
          have han := u64_andNot L lo (by omega) hlo64
          obtain ⟨L', hL'⟩ : ∃ n, n = sdiff L lo := ⟨_, rfl⟩
          rw [← hL'] at han hst hlt'
          have Hst2 := Lib.hid hst
          have Hlt := Lib.hid hlt'
          clear hlo hL' hst hmm hne hlt'
          go_wp2
          go_roundw
          case rel => exact ⟨L', r + 1, _, rfl, by go_num, Hst2.out, hrowj.congr (fun i hi => by rw [nth_ofFn j _ i hi]), hxj⟩
          case measure => have := Hlt.out; simp [intOf]; omega

end Go.Proofs.YtdlhfihddipjaabDoor
