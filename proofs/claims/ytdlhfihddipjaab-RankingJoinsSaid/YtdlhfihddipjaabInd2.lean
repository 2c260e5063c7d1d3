/-
  Contract: ranking.Independent.
-/
import Derived.Test.YtdlhfihddipjaabInd1
namespace Go.Proofs.Ytdlhfihddipjaab
open Go.RowKit

theorem sets2_at (w : World) (a b : Nat) (t : TypeId) : SlcAt (w.alloc (.cells #[.int .u64 a, .int .u64 b] t)) (some ⟨w.heap.size, 0, none⟩) 2 2 (fun i => .int .u64 (nthN [a, b] i : Nat)) := by
  have := World.rowIs_alloc w #[.int .u64 a, .int .u64 b] t (fun i => .int .u64 (nthN [a, b] i : Nat)) (fun i hi => by
    have : i = 0 ∨ i = 1 := by simp at hi; omega
    rcases this with rfl | rfl <;> rfl)
  exact SlcAt.of_row this (by decide)
theorem two_lt {a b N : Nat} (ha : a < N) (hb : b < N) {k : Nat} (hk : k < 2) : nthN [a, b] k < N := by
  have : k = 0 ∨ k = 1 := by omega
  rcases this with rfl | rfl
  · exact ha
  · exact hb
theorem indB_all {r : List Int} {a b : Nat} : indB r a b = true ↔ ∀ k, k < 2 → ∀ j, j < 2 → addB r (nthN [a, sdiff (full r.length) a] k) (nthN [b, sdiff (full r.length) b] j) = true := by
  unfold indB
  simp only [Bool.and_eq_true]
  constructor
  · rintro ⟨⟨⟨h1, h2⟩, h3⟩, h4⟩ k hk j hj
    have hk' : k = 0 ∨ k = 1 := by omega
    have hj' : j = 0 ∨ j = 1 := by omega
    rcases hk' with rfl | rfl <;> rcases hj' with rfl | rfl
    · exact h1
    · exact h2
    · exact h3
    · exact h4
  · intro h
    exact ⟨⟨⟨h 0 (by omega) 0 (by omega), h 0 (by omega) 1 (by omega)⟩, h 1 (by omega) 0 (by omega)⟩, h 1 (by omega) 1 (by omega)⟩

set_option maxRecDepth 100000 in
set_option maxHeartbeats 4000000 in
theorem Independent_any (w : World) (v : Value) (n : Int) (r : List Int) (a b : Nat) (h : Ints .i64 w v r) (ha64 : a < 18446744073709551616) (hb64 : b < 18446744073709551616) :
    Calls Try.prog 20 #[.int .i64 n, v, .int .u64 a, .int .u64 b] w fun e w' => e = .returned (.tuple #[.bool (indR n r a b).1, .int .i64 (indR n r a b).2]) ∧ Ext w w' := by
  have hx0 := (Ext.refl w).alloc (.cells #[.int .u64 a, .int .u64 b] 23)
  have C1 := Lib.hid (rkcheck_any _ v _ n r [a, b] (h.ext hx0) (Sets.lit2 w a b 23 ha64 hb64))
  have H := Lib.hid h
  clear h
  unfold indR
  by_cases h0 : rkSets n r [a, b] = 0
  · obtain ⟨m, rfl, hm, hr, hl, hx⟩ := rkSets_zero h0
    have haN := hx a (by simp)
    have hbN := hx b (by simp)
    have hcN : sdiff (full r.length) a < 2 ^ r.length := sdiff_lt (full_lt _)
    have hdN : sdiff (full r.length) b < 2 ^ r.length := sdiff_lt (full_lt _)
    have HN := Lib.hid (pow_lt64 (show r.length < 64 by omega))
    have hRA : ∀ w1, Ext w w1 → _ := fun w1 hx => rest_any w1 v r a (H.out.ext hx) hl ha64
    have hRB : ∀ w1, Ext w w1 → _ := fun w1 hx => rest_any w1 v r b (H.out.ext hx) hl hb64
    have HA := @indB_all r a b
    rw [if_neg (by simpa using h0)]
    rw [h0] at C1
    obtain ⟨c, hc⟩ : ∃ c, c = sdiff (full r.length) a := ⟨_, rfl⟩
    obtain ⟨d, hd⟩ : ∃ d, d = sdiff (full r.length) b := ⟨_, rfl⟩
    rw [← hc] at hcN hRA HA
    rw [← hd] at hdN hRB HA
    obtain ⟨z, hz⟩ : ∃ z, z = indB r a b := ⟨_, rfl⟩
    rw [← hz] at HA ⊢
    have RA := Lib.hid hRA
    have RB := Lib.hid hRB
    have HR : Hid (∀ w1 x, Ext w w1 → x < 18446744073709551616 → Calls Try.prog 63 #[v, .int .u64 (x : Nat)] w1 fun e w' => e = .returned (.int .i64 (rankOf r x)) ∧ w1 = w') := fun w1 x hx hx64 => rank_same w1 v r x (H.out.ext hx) hl hx64
    have HAll := Lib.hid HA
    have HacN := Lib.hid (show ∀ k, k < 2 → nthN [a, c] k < 2 ^ r.length from fun k hk => two_lt haN hcN hk)
    have HbdN := Lib.hid (show ∀ k, k < 2 → nthN [b, d] k < 2 ^ r.length from fun k hk => two_lt hbN hdN hk)
    have Hr := Lib.hid hr
    have hsA := sets2_at (w.alloc (.cells #[.int .u64 a, .int .u64 b] 23)) a c 23
    have hxA := hx0.alloc (.cells #[.int .u64 a, .int .u64 c] 23)
    rw [show (w.alloc (.cells #[.int .u64 a, .int .u64 b] 23)).heap.size = w.heap.size + 1 by simp] at hsA
    clear hRA hRB HA hz hc hd haN hbN hcN hdN hr h0 hx ha64 hb64
    go_enter Try.func20, Try.ntmps20
    go_wp2_with fail
    refine C1.out.mono ?_
    rintro e w1 ⟨rfl, rfl⟩
    clear C1
    go_wp2_with fail
    refine (RA.out _ hx0).mono ?_
    rintro e w1 ⟨rfl, rfl⟩
    clear RA
    go_wp2
    go_loopw [30] (fun i wr => ∃ k : Nat, k ≤ 2 ∧ i = .int .i64 k ∧ Hid (∀ k', k' < k → ∀ j, j < 2 → addB r (nthN [a, c] k') (nthN [b, d] j) = true) ∧ Ext ((w.alloc (.cells #[.int .u64 a, .int .u64 b] 23)).alloc (.cells #[.int .u64 a, .int .u64 c] 23)) wr) (fun i _ => 2 - (intOf i).toNat)
    case atStart => exact ⟨0, Nat.zero_le _, rfl, fun j hj => absurd hj (by omega), Ext.refl _⟩
    case round =>
      obtain ⟨k, hk, rfl, hgo, hxr⟩ := hrel
      by_cases hlt : k < 2
      · obtain ⟨ad, eqa, _, hc1⟩ := (hsA.ext hxr).get hlt
        injection eqa with eqa
        subst eqa
        rw [add_zeroOff] at hc1
        have hxN := HacN.out k hlt
        obtain ⟨x, hxx⟩ : ∃ x, x = nthN [a, c] k := ⟨_, rfl⟩
        rw [← hxx] at hc1 hxN
        have Hxx := Lib.hid hxx
        have RB2 := Lib.hid (RB.out wr (hxA.trans hxr))
        clear hxx
        go_wp2_with fail
        refine RB2.out.mono ?_
        rintro e w1 ⟨rfl, rfl⟩
        have hsB := sets2_at wr b d 23
        have hxw := (hxA.trans hxr).alloc (.cells #[.int .u64 b, .int .u64 d] 23)
        have hxk := hxr.alloc (.cells #[.int .u64 b, .int .u64 d] 23)
        clear RB2
        go_wp2
        go_loopw [40] (fun i wr2 => ∃ j : Nat, j ≤ 2 ∧ i = .int .i64 j ∧ Hid (∀ j', j' < j → addB r x (nthN [b, d] j') = true) ∧ Ext (wr.alloc (.cells #[.int .u64 b, .int .u64 d] 23)) wr2) (fun i _ => 2 - (intOf i).toNat)
        case atStart => exact ⟨0, Nat.zero_le _, rfl, fun j hj => absurd hj (by omega), Ext.refl _⟩
        case round =>
          obtain ⟨j, hj, rfl, hgo2, hxr2⟩ := hrel
          have hxw2 := hxw.trans hxr2
          by_cases hlj : j < 2
          · obtain ⟨ad, eqa, _, hc2⟩ := (hsB.ext hxr2).get hlj
            injection eqa with eqa
            subst eqa
            rw [add_zeroOff] at hc2
            have hyN := HbdN.out j hlj
            obtain ⟨y, hyy⟩ : ∃ y, y = nthN [b, d] j := ⟨_, rfl⟩
            rw [← hyy] at hc2 hyN
            have Hyy := Lib.hid hyy
            clear hyy
            have hx64 := Nat.lt_trans hxN HN.out
            have hy64 := Nat.lt_trans hyN HN.out
            have hand := u64_and x y hx64 hy64
            have hiN := and_lt (y := y) hxN
            obtain ⟨i, hi⟩ : ∃ i, i = x &&& y := ⟨_, rfl⟩
            rw [← hi] at hand hiN
            have Hi := Lib.hid hi
            clear hi
            have B1 := HR.out wr x hxw2 hx64
            have B2 := HR.out wr y hxw2 hy64
            have B3 := HR.out wr i hxw2 (Nat.lt_trans hiN HN.out)
            have l1 := rankOf_le r x
            have l2 := rankOf_le r y
            have l3 := rankOf_le r i
            have g1 := rankOf_ge Hr.out x
            have g2 := rankOf_ge Hr.out y
            have g3 := rankOf_ge Hr.out i
            have hA : addB r x y = decide (min (rankOf r x + rankOf r y) 1099511627776 = rankOf r i) := by rw [Hi.out]; rfl
            obtain ⟨X, hX⟩ : ∃ X, X = rankOf r x := ⟨_, rfl⟩
            obtain ⟨Y, hY⟩ : ∃ Y, Y = rankOf r y := ⟨_, rfl⟩
            obtain ⟨Z, hZ⟩ : ∃ Z, Z = rankOf r i := ⟨_, rfl⟩
            rw [← hX] at B1 l1 g1 hA
            rw [← hY] at B2 l2 g2 hA
            rw [← hZ] at B3 l3 g3 hA
            have B1 := Lib.hid B1
            have B2 := Lib.hid B2
            have B3 := Lib.hid B3
            have hw : wrap64 (X + Y) = X + Y := IntWalk.wrap64_in _ ⟨by omega, by omega⟩
            clear hX hY hZ hx64 hy64 hiN
            by_cases hm1 : 1099511627776 < X + Y
            · skip
              by_cases e : min (X + Y) 1099511627776 = Z
              · rw [decide_eq_true e] at hA
                have t : ((1099511627776 : Int) != Z) = false := by rw [bne_eq_false_iff_eq]; omega
                have HAd := Lib.hid hA
                clear hA e l1 l2 l3 g1 g2 g3
                go_wp2_with fail
                refine B1.out.mono ?_
                rintro e w1 ⟨rfl, rfl⟩
                go_wp2_with fail
                refine B2.out.mono ?_
                rintro e w1 ⟨rfl, rfl⟩
                go_wp2_with fail
                refine B3.out.mono ?_
                rintro e w1 ⟨rfl, rfl⟩
                go_wp2_with fail
                go_roundw
                case rel => exact ⟨j + 1, by omega, by go_num, fun j' hj' => by
                  by_cases q : j' = j
                  · rw [q, ← Hyy.out]; exact HAd.out
                  · exact hgo2.out j' (by omega), hxr2⟩
                case measure => simp [intOf]; omega
              · rw [decide_eq_false e] at hA
                have t : ((1099511627776 : Int) != Z) = true := by rw [bne_iff_ne]; omega
                have HAd := Lib.hid hA
                clear hA e l1 l2 l3 g1 g2 g3
                go_wp2_with fail
                refine B1.out.mono ?_
                rintro e w1 ⟨rfl, rfl⟩
                go_wp2_with fail
                refine B2.out.mono ?_
                rintro e w1 ⟨rfl, rfl⟩
                go_wp2_with fail
                refine B3.out.mono ?_
                rintro e w1 ⟨rfl, rfl⟩
                go_wp2_with fail
                go_ret2
                have hz : z = false := by
                  cases q : z with
                  | false => rfl
                  | true =>
                    have := HAll.out.1 q k hlt j hlj
                    rw [← Hxx.out, ← Hyy.out, HAd.out] at this
                    cases this
                exact ⟨by rw [hz]; rfl, hxw2⟩
            · skip
              by_cases e : min (X + Y) 1099511627776 = Z
              · rw [decide_eq_true e] at hA
                have t : ((X + Y) != Z) = false := by rw [bne_eq_false_iff_eq]; omega
                have HAd := Lib.hid hA
                clear hA e l1 l2 l3 g1 g2 g3
                go_wp2_with fail
                refine B1.out.mono ?_
                rintro e w1 ⟨rfl, rfl⟩
                go_wp2_with fail
                refine B2.out.mono ?_
                rintro e w1 ⟨rfl, rfl⟩
                go_wp2_with fail
                refine B3.out.mono ?_
                rintro e w1 ⟨rfl, rfl⟩
                go_wp2_with fail
                go_roundw
                case rel => exact ⟨j + 1, by omega, by go_num, fun j' hj' => by
                  by_cases q : j' = j
                  · rw [q, ← Hyy.out]; exact HAd.out
                  · exact hgo2.out j' (by omega), hxr2⟩
                case measure => simp [intOf]; omega
              · rw [decide_eq_false e] at hA
                have t : ((X + Y) != Z) = true := by rw [bne_iff_ne]; omega
                have HAd := Lib.hid hA
                clear hA e l1 l2 l3 g1 g2 g3
                go_wp2_with fail
                refine B1.out.mono ?_
                rintro e w1 ⟨rfl, rfl⟩
                go_wp2_with fail
                refine B2.out.mono ?_
                rintro e w1 ⟨rfl, rfl⟩
                go_wp2_with fail
                refine B3.out.mono ?_
                rintro e w1 ⟨rfl, rfl⟩
                go_wp2_with fail
                go_ret2
                have hz : z = false := by
                  cases q : z with
                  | false => rfl
                  | true =>
                    have := HAll.out.1 q k hlt j hlj
                    rw [← Hxx.out, ← Hyy.out, HAd.out] at this
                    cases this
                exact ⟨by rw [hz]; rfl, hxw2⟩
          · obtain rfl : j = 2 := by omega
            go_wp2
            go_roundw
            case rel => exact ⟨k + 1, by omega, by go_num, fun k' hk' j hj => by
              by_cases q : k' = k
              · rw [q, ← Hxx.out]; exact hgo2.out j hj
              · exact hgo.out k' (by omega) j hj, hxk.trans hxr2⟩
            case measure => simp [intOf]; omega
      · obtain rfl : k = 2 := by omega
        have hz : Hid (z = true) := HAll.out.2 hgo.out
        go_wp2
        go_ret2
        exact ⟨by rw [hz.out]; rfl, hxA.trans hxr⟩
  · rw [if_pos (by simpa using h0)]
    have t : (rkSets n r [a, b] != 0) = true := by rw [bne_iff_ne]; exact h0
    obtain ⟨z, hz⟩ : ∃ z, z = rkSets n r [a, b] := ⟨_, rfl⟩
    rw [← hz] at t C1 ⊢
    clear h0 hz ha64 hb64
    go_enter Try.func20, Try.ntmps20
    go_wp2_with fail
    refine C1.out.mono ?_
    rintro e w1 ⟨rfl, rfl⟩
    go_wp2_with fail
    go_ret2
    exact ⟨rfl, hx0⟩

end Go.Proofs.Ytdlhfihddipjaab
