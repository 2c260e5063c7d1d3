/-
  The walk of RankingIterates: belief behind a list of revisions.
-/
import Derived.Test.YtdlhfihddipjaaaLw2
import Derived.Test.YtdlhfihddipjaaaRkQ
namespace Go.Proofs.Ytdlhfihddipjaaa
open Go.RowKit

/-- A revision of either kind, of any arguments. -/
theorem belL_nil (nat : Bool) (n : Int) (r : List Int) : belL nat n [] r = ((belR n r).1, decide ((belR n r).2 = 0)) := rfl
theorem belL_cons (nat : Bool) (n : Int) (s : Nat) (xs : List Nat) (r : List Int) : belL nat n (s :: xs) r = if (stepR nat n r s).2 ≠ 0 then (0, false) else belL nat n xs (stepR nat n r s).1 := rfl
theorem drop_cons {xs : List Nat} {k : Nat} (h : k < xs.length) : xs.drop k = nthN xs k :: xs.drop (k + 1) := by
  rw [nthN_eq h]; exact List.drop_eq_getElem_cons h

set_option maxRecDepth 100000 in
set_option maxHeartbeats 1000000 in
theorem belief_any (w : World) (v v2 : Value) (n : Int) (nat : Bool) (r : List Int) (xs : List Nat) (h : Ints .i64 w v r) (h2 : Sets w v2 xs) :
    Calls Try.prog 64 #[.int .i64 n, v, .bool nat, v2] w fun e w' => e = .returned (.tuple #[.int .u64 (belL nat n xs r).1, .bool (belL nat n xs r).2]) ∧ Ext w w' := by
  have HN : Hid (∀ (w1 : World) (v1 : Value) (r1 : List Int) (s : Nat), Ints .i64 w1 v1 r1 → s < 18446744073709551616 → Calls Try.prog 45 #[.int .i64 n, v1, .int .u64 s] w1 fun e w' => ∃ v', e = .returned (.tuple #[v', .int .i64 (stepR true n r1 s).2]) ∧ Ints .i64 w' v' (stepR true n r1 s).1 ∧ Ext w1 w') := fun w1 v1 r1 s h hs => Natural_any w1 v1 n r1 s h hs
  have HV : Hid (∀ (w1 : World) (v1 : Value) (r1 : List Int) (s : Nat), Ints .i64 w1 v1 r1 → s < 18446744073709551616 → Calls Try.prog 43 #[.int .i64 n, v1, .int .u64 s] w1 fun e w' => ∃ v', e = .returned (.tuple #[v', .int .i64 (stepR false n r1 s).2]) ∧ Ints .i64 w' v' (stepR false n r1 s).1 ∧ Ext w1 w') := fun w1 v1 r1 s h hs => Revise_any w1 v1 n r1 s h hs
  have HB : Hid (∀ w1 v1 r1, Ints .i64 w1 v1 r1 → Calls Try.prog 60 #[.int .i64 n, v1] w1 fun e w' => e = .returned (.tuple #[.int .u64 (belR n r1).1, .int .i64 (belR n r1).2]) ∧ Ext w1 w') := fun w1 v1 r1 h => Belief_any w1 v1 n r1 h
  have H := Lib.hid h
  obtain ⟨A, c, rfl, hs, hf⟩ := h2
  have hle := hs.le
  have hcap := hs.cap
  have Hf := Lib.hid hf
  clear hf h
  obtain ⟨z, hz⟩ : ∃ z, z = belL nat n xs r := ⟨_, rfl⟩
  rw [← hz]
  have Hz := Lib.hid hz
  clear hz
  go_enter Try.func64, Try.ntmps64
  go_wp2
  go_loopw [1, 17] (fun q i wr => ∃ (k : Nat) (r1 : List Int), k ≤ xs.length ∧ i = .int .i64 k ∧ Hid (Ints .i64 wr q r1) ∧ Hid (belL nat n (xs.drop k) r1 = z) ∧ Ext w wr) (fun _ i _ => xs.length - (intOf i).toNat)
  case atStart => exact ⟨0, r, Nat.zero_le _, rfl, H.out, by show belL _ _ _ _ = _; rw [Hz.out]; rfl, Ext.refl w⟩
  case round =>
    obtain ⟨k, r1, hk, rfl, hI, hgo, hx⟩ := hrel
    by_cases hlt : k < xs.length
    · obtain ⟨ad, rfl, hb, hc⟩ := (hs.ext hx).get hlt
      have hstep := hgo.out
      rw [drop_cons hlt, belL_cons] at hstep
      obtain ⟨s, hss⟩ : ∃ s, s = nthN xs k := ⟨_, rfl⟩
      have hs64 : s < 18446744073709551616 := hss ▸ Hf.out k hlt
      rw [← hss] at hc hstep
      clear hss
      obtain ⟨L, hL⟩ : ∃ L, L = stepR nat n r1 s := ⟨_, rfl⟩
      rw [← hL] at hstep
      cases nat with
      | true =>
        have C := HN.out wr _ r1 s hI.out hs64
        rw [← hL] at C
        have C := Lib.hid C
        by_cases e : L.2 = 0
        · have t : (L.2 != 0) = false := by rw [e]; rfl
          rw [if_neg (by simpa using e)] at hstep
          have Hs := Lib.hid hstep
          clear hstep hL hs64 e
          go_wp2_with fail
          refine C.out.mono ?_
          rintro e w1 ⟨v1, rfl, hJ, hy⟩
          have HJ := Lib.hid hJ
          clear hJ
          go_wp2_with fail
          go_roundw
          case rel => exact ⟨k + 1, L.1, by omega, by go_num, HJ.out, Hs.out, hx.trans hy⟩
          case measure => simp [intOf]; omega
        · have t : (L.2 != 0) = true := by rw [bne_iff_ne]; exact e
          rw [if_pos (by simpa using e)] at hstep
          have Hs := Lib.hid hstep
          clear hstep hL hs64 e
          go_wp2_with fail
          refine C.out.mono ?_
          rintro e w1 ⟨v1, rfl, hJ, hy⟩
          clear hJ
          go_wp2_with fail
          go_ret2
          exact ⟨by rw [← Hs.out]; rfl, hx.trans hy⟩
      | false =>
        have C := HV.out wr _ r1 s hI.out hs64
        rw [← hL] at C
        have C := Lib.hid C
        by_cases e : L.2 = 0
        · have t : (L.2 != 0) = false := by rw [e]; rfl
          rw [if_neg (by simpa using e)] at hstep
          have Hs := Lib.hid hstep
          clear hstep hL hs64 e
          go_wp2_with fail
          refine C.out.mono ?_
          rintro e w1 ⟨v1, rfl, hJ, hy⟩
          have HJ := Lib.hid hJ
          clear hJ
          go_wp2_with fail
          go_roundw
          case rel => exact ⟨k + 1, L.1, by omega, by go_num, HJ.out, Hs.out, hx.trans hy⟩
          case measure => simp [intOf]; omega
        · have t : (L.2 != 0) = true := by rw [bne_iff_ne]; exact e
          rw [if_pos (by simpa using e)] at hstep
          have Hs := Lib.hid hstep
          clear hstep hL hs64 e
          go_wp2_with fail
          refine C.out.mono ?_
          rintro e w1 ⟨v1, rfl, hJ, hy⟩
          clear hJ
          go_wp2_with fail
          go_ret2
          exact ⟨by rw [← Hs.out]; rfl, hx.trans hy⟩
    · obtain rfl : k = xs.length := by omega
      have hstep := hgo.out
      rw [List.drop_length, belL_nil] at hstep
      have Hs := Lib.hid hstep
      have C := Lib.hid (HB.out wr _ r1 hI.out)
      clear hstep
      go_wp2_with fail
      refine C.out.mono ?_
      rintro e w1 ⟨rfl, hy⟩
      go_wp2_with fail
      go_ret2
      exact ⟨by rw [← Hs.out]; rfl, hx.trans hy⟩

/-! ### the law -/
theorem bools_lit (w : World) (t : TypeId) : SlcAt (w.alloc (.cells #[.bool false, .bool true] t)) (some ⟨w.heap.size, 0, none⟩) 2 2 (fun i => .bool (decide (i = 1))) := by
  have := World.rowIs_alloc w #[.bool false, .bool true] t (fun i => .bool (decide (i = 1))) (fun i hi => by
    have : i = 0 ∨ i = 1 := by simp at hi; omega
    rcases this with rfl | rfl <;> rfl)
  exact SlcAt.of_row this (by decide)
theorem sub_zero {x y : Nat} (h : ∀ i, x.testBit i = true → y.testBit i = true) : sdiff x y = 0 := by
  apply Nat.eq_of_testBit_eq
  intro i
  rw [sdiff_bit, Nat.zero_testBit]
  cases hx : x.testBit i with
  | false => rfl
  | true => rw [h i hx]; rfl
theorem zero_sub {x y : Nat} (h : sdiff x y = 0) : ∀ i, x.testBit i = true → y.testBit i = true := by
  intro i hx
  have : (sdiff x y).testBit i = false := by rw [h, Nat.zero_testBit]
  rw [sdiff_bit, hx] at this
  simpa using this
theorem zero_and {x y : Nat} (h : x &&& y = 0) : ∀ i, x.testBit i = true → y.testBit i = false := by
  intro i hx
  have : (x &&& y).testBit i = false := by rw [h, Nat.zero_testBit]
  rw [Nat.testBit_and, hx] at this
  simpa using this
theorem and_ne {x y : Nat} : x &&& y ≠ 0 ↔ ∃ i, x.testBit i = true ∧ y.testBit i = true := by
  constructor
  · intro h
    apply Classical.byContradiction
    intro k
    apply h
    apply Nat.eq_of_testBit_eq
    intro i
    rw [Nat.testBit_and, Nat.zero_testBit]
    cases hx : x.testBit i with
    | false => rfl
    | true =>
      cases hy : y.testBit i with
      | false => rfl
      | true => exact absurd ⟨i, hx, hy⟩ k
  · rintro ⟨i, hx, hy⟩ h
    have := zero_and h i hx
    rw [hy] at this
    cases this

set_option maxRecDepth 100000 in
set_option maxHeartbeats 8000000 in
theorem iterates37_any (w : World) (v : Value) (n : Int) (r : List Int) (x y : Nat) (h : Ints .i64 w v r) (hx64 : x < 18446744073709551616) (hy64 : y < 18446744073709551616) :
    Calls Try.prog 14 #[.int .i64 n, v, .agg #[.int .u64 x, .int .u64 y]] w fun e w' => e = .returned (.bool true) ∧ Ext w w' := by
  have CA := Lib.hid awake37_any
  have H := Lib.hid h
  have hq := cells2 w (.int .u64 x) (.int .u64 y) 46
  obtain ⟨hq0, hq1⟩ := hq
  have hx := (Ext.refl w).alloc (.cells #[.int .u64 x, .int .u64 y] 46)
  have HK : Hid (∀ w1, Ext w w1 → Calls Try.prog 49 #[.int .i64 n, v] w1 fun e w' => e = .returned (.int .i64 (rkErr n r)) ∧ w1 = w') := fun w1 hx => rkCheck_any w1 v n r (H.out.ext hx)
  obtain ⟨A, c, rfl, hs, hf⟩ := h
  have hle := hs.le
  have hcap := hs.cap
  clear hf
  by_cases hl : 16 < r.length
  · clear hq0 hq1 hs
    go_enter Try.func14, Try.ntmps14
    go_wp2_with fail
    refine (CA.out _).mono ?_
    rintro e w1 ⟨rfl, hy⟩
    go_wp2_with fail
    go_ret
    exact ⟨rfl, hx.trans hy⟩
  by_cases h0 : rkErr n r = 0
  rotate_left 1
  · have t : (rkErr n r != 0) = true := by rw [bne_iff_ne]; exact h0
    obtain ⟨ee, hee⟩ : ∃ ee, ee = rkErr n r := ⟨_, rfl⟩
    rw [← hee] at t HK
    clear h0 hee hq0 hq1 hs
    go_enter Try.func14, Try.ntmps14
    go_wp2_with fail
    refine (HK.out _ hx).mono ?_
    rintro e w1 ⟨rfl, rfl⟩
    go_wp2_with fail
    refine (CA.out _).mono ?_
    rintro e w1 ⟨rfl, hy⟩
    go_wp2_with fail
    go_ret
    exact ⟨rfl, hx.trans hy⟩
  rw [h0] at HK
  obtain ⟨m, rfl, hm, hr⟩ := rkErr_zero h0
  clear h0
  have hN := pow_lt64 (show r.length < 64 by omega)
  have hf64 : full r.length < 18446744073709551616 := full_lt64 (by omega)
  have HA : Hid (∀ w1, Calls Try.prog 56 #[.int .i64 m] w1 fun e w' => e = .returned (.int .u64 (full r.length : Nat)) ∧ w1 = w') := fun w1 => by rw [hr.1.1]; exact refAll37_ok w1 m hm
  have e1 := u64_and x (full r.length) hx64 hf64
  have e2 := u64_and y (full r.length) hy64 hf64
  have aN : ∀ x, x &&& full r.length < 2 ^ r.length := fun x => by rw [Nat.and_comm]; exact and_lt (full_lt _)
  obtain ⟨a, ha⟩ : ∃ a, a = x &&& full r.length := ⟨_, rfl⟩
  obtain ⟨b, hb⟩ : ∃ a, a = y &&& full r.length := ⟨_, rfl⟩
  have haN : a < 2 ^ r.length := ha ▸ aN x
  have hbN : b < 2 ^ r.length := hb ▸ aN y
  rw [← ha] at e1
  rw [← hb] at e2
  obtain ⟨f, hf⟩ : ∃ f, f = full r.length := ⟨_, rfl⟩
  rw [← hf] at e1 e2 HA
  clear ha hb hf hf64 aN hx64 hy64
  have ha64 := Nat.lt_trans haN hN
  have hb64 := Nat.lt_trans hbN hN
  have Hr := Lib.hid hr
  have HaN := Lib.hid haN
  have HbN := Lib.hid hbN
  have HN := Lib.hid hN
  have HL := Lib.hid hl
  have hsx := hs.ext hx
  clear hr haN hbN hN
  go_enter Try.func14, Try.ntmps14
  go_wp2_with fail
  refine (HK.out _ hx).mono ?_
  rintro e w1 ⟨rfl, rfl⟩
  clear HK
  go_wp2
  go_loop [30] (fun i => ∃ k : Nat, k ≤ r.length ∧ i = .int .i64 k ∧ Hid (∀ j, j < k → nth r j ≤ 900)) (fun i => r.length - (intOf i).toNat)
  case atStart => exact ⟨0, Nat.zero_le _, rfl, fun j hj => absurd hj (by omega)⟩
  case round =>
    obtain ⟨k, hk, rfl, hgo⟩ := hrel
    by_cases hlt : k < r.length
    · obtain ⟨ad, rfl, _, hc⟩ := hsx.get hlt
      by_cases hbig : 900 < nth r k
      · go_wp2_with fail
        refine (CA.out _).mono ?_
        rintro e w1 ⟨rfl, hy⟩
        go_wp2_with fail
        go_ret
        exact ⟨rfl, hx.trans hy⟩
      · go_wp2
        go_round
        case rel => exact ⟨k + 1, by omega, by go_num, fun j hj => by
          by_cases e : j = k
          · rw [e]; omega
          · exact hgo.out j (by omega)⟩
        case measure => simp [intOf]; omega
    · obtain rfl : k = r.length := by omega
      clear hs hsx
      by_cases ha0 : a = 0
      · have t0 : ((a : Int) == 0) = true := by rw [ha0]; rfl
        clear ha0
        go_wp2_with fail
        refine (HA.out _).mono ?_
        rintro e w1 ⟨rfl, rfl⟩
        go_wp2
        go_quiet (fail)
        have hx := hx.drewN nq
        clear hq0 hq1
        go_wp2_with fail
        refine (CA.out _).mono ?_
        rintro e w1 ⟨rfl, hy⟩
        go_wp2_with fail
        go_ret
        exact ⟨rfl, hx.trans hy⟩
      have t0 : ((a : Int) == 0) = false := by rw [beq_eq_false_iff_ne]; omega
      by_cases hb0 : b = 0
      · have t1 : ((b : Int) == 0) = true := by rw [hb0]; rfl
        clear ha0 hb0
        go_wp2_with fail
        refine (HA.out _).mono ?_
        rintro e w1 ⟨rfl, rfl⟩
        go_wp2
        go_quiet (fail)
        have hx := hx.drewN nq
        clear hq0 hq1
        go_wp2_with fail
        refine (CA.out _).mono ?_
        rintro e w1 ⟨rfl, hy⟩
        go_wp2_with fail
        go_ret
        exact ⟨rfl, hx.trans hy⟩
      have t1 : ((b : Int) == 0) = false := by rw [beq_eq_false_iff_ne]; omega
      have HI : Hid (∀ nat, ∃ T, T < 2 ^ r.length ∧ belL nat m [a] r = (minset r a, true) ∧ belL nat m [b, a] r = (T, true) ∧ minset r a ≠ 0 ∧ sdiff (minset r a) a = 0 ∧ sdiff T a = 0 ∧
          ((sdiff a b = 0 ∨ a &&& b = 0) → minset r a = T) ∧ (sdiff (minset r a) b = 0 → sdiff T b = 0) ∧ (minset r a &&& b ≠ 0 → T &&& b ≠ 0)) := fun nat => by
        have i1 := bel_one hm Hr.out hgo.out HaN.out ha0 nat
        obtain ⟨T, j1, j2, j3, j4, j5, j6, j7⟩ := iterates hm Hr.out hgo.out HaN.out HbN.out ha0 hb0 nat
        refine ⟨T, ?_, i1, j1, j2, sub_zero j3, sub_zero j4, ?_, fun k => sub_zero (j6 (zero_sub k)), fun k => and_ne.2 (j7 (and_ne.1 k))⟩
        · rw [lt_pow_iff]
          intro j hj
          cases e : T.testBit j with
          | false => rfl
          | true => have := j4 j e; rw [lt_pow_iff.1 HaN.out j hj] at this; cases this
        · rintro (k | k)
          · exact j5 (.inl (zero_sub k))
          · exact j5 (.inr (zero_and k))
      have O64 : minset r a < 18446744073709551616 := Nat.lt_trans (maskTo_lt _ _) HN.out
      obtain ⟨O, hO⟩ : ∃ O, O = minset r a := ⟨_, rfl⟩
      rw [← hO] at HI O64
      clear hO ha0 hb0 hgo
      have d1 := u64_andNot a b ha64 hb64
      have d2 := u64_and a b ha64 hb64
      have d3 := u64_andNot O a O64 ha64
      have d4 := u64_andNot O b O64 hb64
      have d5 := u64_and O b O64 hb64
      go_wp2_with fail
      refine (HA.out _).mono ?_
      rintro e w1 ⟨rfl, rfl⟩
      go_wp2
      go_quiet (fail)
      have hx := hx.drewN nq
      clear hq0 hq1 HA e1 e2
      generalize hW : (w.alloc (.cells #[.int .u64 x, .int .u64 y] 46)).drewN nq = W at hx ⊢
      clear hW
      have hsB := bools_lit W 4
      go_wp2
      go_loopw [57] (fun i wr => ∃ k : Nat, k ≤ 2 ∧ i = .int .i64 k ∧ Ext (W.alloc (.cells #[.bool false, .bool true] 4)) wr) (fun i _ => 2 - (intOf i).toNat)
      case atStart => exact ⟨0, Nat.zero_le _, rfl, Ext.refl _⟩
      case round =>
        obtain ⟨k, hk, rfl, hxr⟩ := hrel
        have hxw := (hx.alloc _).trans hxr
        by_cases hlt : k < 2
        · obtain ⟨ad, eqa, _, hc⟩ := (hsB.ext hxr).get hlt
          injection eqa with eqa
          subst eqa
          obtain ⟨nat, hnat⟩ : ∃ nat, nat = decide (k = 1) := ⟨_, rfl⟩
          rw [add_zeroOff] at hc
          rw [← hnat] at hc
          clear hnat
          obtain ⟨T, hT, i1, i2, i3, i4, i5, i6, i7, i8⟩ := HI.out nat
          have T64 := Nat.lt_trans hT HN.out
          have hC1 := belief_any (wr.alloc (.cells #[.int .u64 a] 31)) (.slice A r.length c) (.slice (some ⟨wr.heap.size, 0, none⟩) 1 1) m nat r [a] (H.out.ext (hxw.alloc _)) (Sets.lit1 wr a 31 ha64)
          rw [i1] at hC1
          have C1 := Lib.hid hC1
          have hC2 : ∀ w1, Ext w w1 → _ := fun w1 hx => belief_any (w1.alloc (.cells #[.int .u64 b, .int .u64 a] 31)) (.slice A r.length c) (.slice (some ⟨w1.heap.size, 0, none⟩) 2 2) m nat r [b, a] (H.out.ext (hx.alloc _)) (Sets.lit2 w1 b a 31 hb64 ha64)
          rw [i2] at hC2
          have HC2 := Lib.hid hC2
          have f1 : ((O : Int) == 0) = false := by rw [beq_eq_false_iff_ne]; omega
          have f2 := u64_andNot T a T64 ha64
          have f3 := u64_andNot T b T64 hb64
          have f4 := u64_and T b T64 hb64
          rw [i5] at f2
          have f5 := d3
          rw [i4] at f5
          obtain ⟨D, hD⟩ : ∃ D, D = sdiff a b := ⟨_, rfl⟩
          obtain ⟨I, hI⟩ : ∃ D, D = a &&& b := ⟨_, rfl⟩
          obtain ⟨U, hU⟩ : ∃ D, D = sdiff O b := ⟨_, rfl⟩
          obtain ⟨V, hV⟩ : ∃ D, D = sdiff T b := ⟨_, rfl⟩
          obtain ⟨X, hX⟩ : ∃ D, D = O &&& b := ⟨_, rfl⟩
          obtain ⟨Y, hY⟩ : ∃ D, D = T &&& b := ⟨_, rfl⟩
          have g1 := d1
          have g2 := d2
          have g4 := d4
          have g5 := d5
          rw [← hD] at g1 i6
          rw [← hI] at g2 i6
          rw [← hU] at g4 i7
          rw [← hX] at g5 i8
          rw [← hV] at f3 i7
          rw [← hY] at f4 i8
          have k1 : Hid ((((D : Int) == 0) = true ∧ ((O : Int) != (T : Int)) = false) ∨ (((D : Int) == 0) = false ∧ ((I : Int) == 0) = true ∧ ((O : Int) != (T : Int)) = false) ∨ (((D : Int) == 0) = false ∧ ((I : Int) == 0) = false)) := by
            by_cases q : D = 0
            · exact .inl ⟨by rw [q]; rfl, by rw [i6 (.inl q)]; simp⟩
            · have q1 : ((D : Int) == 0) = false := by rw [beq_eq_false_iff_ne]; omega
              by_cases q2 : I = 0
              · exact .inr (.inl ⟨q1, by rw [q2]; rfl, by rw [i6 (.inr q2)]; simp⟩)
              · exact .inr (.inr ⟨q1, by rw [beq_eq_false_iff_ne]; omega⟩)
          have k2 : Hid ((((U : Int) == 0) = true ∧ ((V : Int) != 0) = false) ∨ ((U : Int) == 0) = false) := by
            by_cases q : U = 0
            · exact .inl ⟨by rw [q]; rfl, by rw [i7 q]; rfl⟩
            · exact .inr (by rw [beq_eq_false_iff_ne]; omega)
          have k3 : Hid (((X : Int) != 0) = false ∨ (((X : Int) != 0) = true ∧ ((Y : Int) == 0) = false)) := by
            by_cases q : X = 0
            · exact .inl (by rw [q]; rfl)
            · exact .inr ⟨by rw [bne_iff_ne]; omega, by have := i8 q; rw [beq_eq_false_iff_ne]; omega⟩
          clear hC1 hC2 hD hI hU hV hX hY i1 i2 i3 i4 i5 i6 i7 i8 hT T64 d1 d2 d3 d4 d5 HI
          go_wp2_with fail
          refine C1.out.mono ?_
          rintro e w1 ⟨rfl, hy⟩
          have hyx := (hxr.alloc (.cells #[.int .u64 a] 31)).trans hy
          have hxw := (hxw.alloc (.cells #[.int .u64 a] 31)).trans hy
          have C2 := Lib.hid (HC2.out w1 hxw)
          clear hy C1 HC2 hc
          go_wp2_with fail
          refine C2.out.mono ?_
          rintro e w2 ⟨rfl, hy⟩
          have hyx := (hyx.alloc (.cells #[.int .u64 b, .int .u64 a] 31)).trans hy
          clear hy C2
          rcases k1.out with ⟨z1, z2⟩ | ⟨z1, z2, z3⟩ | ⟨z1, z2⟩
          all_goals
            rcases k2.out with ⟨y1, y2⟩ | y1
          all_goals
            rcases k3.out with x1 | ⟨x1, x2⟩
          all_goals
            clear k1 k2 k3
            go_wp2_with fail
            go_roundw
            case rel => exact ⟨k + 1, by omega, by go_num, hyx⟩
            case measure => simp [intOf]; omega
        · obtain rfl : k = 2 := by omega
          have hx := hxw
          go_wp2_with fail
          refine (CA.out _).mono ?_
          rintro e w1 ⟨rfl, hy⟩
          go_wp2_with fail
          go_ret
          exact ⟨rfl, hx.trans hy⟩

end Go.Proofs.Ytdlhfihddipjaaa
