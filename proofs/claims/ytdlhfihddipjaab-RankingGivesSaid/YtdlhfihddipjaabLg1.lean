/-
  RankingGives: what a contraction leaves of belief: the plain law, and the walk.
-/
import Derived.Test.YtdlhfihddipjaabAwk37
import Derived.Test.YtdlhfihddipjaabRkP
namespace Go.Proofs.Ytdlhfihddipjaab
open Go.RowKit

/-- The law's own search for the least rank outside of a set. -/
def leastTo (r : List Int) (s : Nat) : Nat → Int
  | 0 => 1001
  | k + 1 => if s.testBit k then leastTo r s k else min (leastTo r s k) (nth r k)
theorem least_eq (r : List Int) (s k : Nat) (hk : k ≤ r.length) : leastTo r s k = min 1001 (rkTo r (sdiff (full r.length) s) k) := by
  induction k with
  | zero => rfl
  | succ k ih =>
    rw [leastTo, rkTo, ih (by omega), comp_bit (show k < r.length by omega)]
    cases s.testBit k <;> simp <;> omega
def wantP (r : List Int) (s : Nat) (x : Int) : Nat → Bool := fun v => decide (nth r v = 0) || (!s.testBit v && decide (nth r v = x))

theorem gives {m : Nat} (hm : m ≤ 4) {r : List Int} (hr : RkV m r) {s : Nat} (h0 : (conR m r s).2 = 0) :
    ∃ c, conR m r s = (c, 0) ∧ belR m c = (maskTo (wantP r s (leastTo r s r.length)) r.length, 0) ∧ sdiff (maskTo (wantP r s (leastTo r s r.length)) r.length) s ≠ 0 := by
  unfold conR at h0 ⊢
  by_cases e1 : rkSets m r [s] = 0
  rotate_left 1
  · rw [if_pos (by simpa using e1)] at h0; exact absurd h0 e1
  rw [if_neg (by simpa using e1)] at h0 ⊢
  by_cases e2 : sdiff (full r.length) s = 0
  · rw [if_pos e2] at h0; cases h0
  rw [if_neg e2] at h0 ⊢
  have hdl : sdiff (full r.length) s < 2 ^ r.length := sdiff_lt (full_lt _)
  obtain ⟨k, hk, hkb, ek⟩ := rank_att' hr hdl e2
  have hk1000 := (hr.1.2 k hk).2
  have hleast : leastTo r s r.length = rankOf r (sdiff (full r.length) s) := by
    rw [least_eq r s _ (Nat.le_refl _)]
    show min 1001 (rankOf r _) = _
    rw [← ek]
    omega
  rw [hleast]
  obtain ⟨d, hd⟩ : ∃ d, d = sdiff (full r.length) s := ⟨_, rfl⟩
  have hdb : ∀ i, i < r.length → d.testBit i = !s.testBit i := fun i hi => by rw [hd]; exact comp_bit hi
  rw [← hd] at ek hkb h0 hdl ⊢
  have hx : ∀ i, i < r.length → d.testBit i = true → rankOf r d ≤ nth r i := fun i hi hb => rank_below hi hb
  have hg := rankOf_ge hr d
  obtain ⟨x, hxx⟩ : ∃ x, x = rankOf r d := ⟨_, rfl⟩
  rw [← hxx] at ek hx hg h0 ⊢
  obtain ⟨c, hc⟩ : ∃ c, c = shL r (fun i => if d.testBit i then -x else 0) r.length := ⟨_, rfl⟩
  rw [← hc] at h0 ⊢
  have cl : c.length = r.length := by rw [hc]; exact shL_len _ _ _
  have cn : ∀ i, i < r.length → nth c i = nth r i + if d.testBit i then -x else 0 := fun i hi => by rw [hc, shL_nth hi]
  have cb : ∀ i, i < r.length → 0 ≤ nth c i ∧ nth c i ≤ 1000 := fun i hi => by
    rw [cn i hi]
    have := hr.1.2 i hi
    cases hb : d.testBit i with
    | true => have := hx i hi hb; rw [if_pos rfl]; omega
    | false => rw [if_neg (by simp)]; omega
  have hRk : RkV m c := ⟨⟨by rw [cl]; exact hr.1.1, fun i hi => cb i (by omega)⟩, ⟨k, by omega, by rw [cn k hk, if_pos hkb]; omega⟩⟩
  refine ⟨c, limR_ok fun i hi => (cb i (by omega)).2, ?_, ?_⟩
  · unfold belR
    rw [if_neg (by simpa using rkErr_ok hm hRk)]
    unfold zeros
    rw [cl]
    rw [maskTo_congr fun i hi => ?_]
    rw [cn i hi]
    unfold wantP
    have h1 := hdb i hi
    have h2 := hr.1.2 i hi
    cases hs : s.testBit i with
    | true =>
      rw [hs] at h1
      rw [h1, if_neg (by simp)]
      simp
    | false =>
      rw [hs] at h1
      have h1 : d.testBit i = true := h1
      have h3 := hx i hi h1
      rw [if_pos h1]
      simp only [Bool.not_false, Bool.true_and]
      rw [← Bool.decide_or, decide_eq_decide]
      omega
  · intro hz
    have hb : (sdiff (maskTo (wantP r s x) r.length) s).testBit k = true := by
      have h1 := hdb k hk
      rw [hkb] at h1
      have h2 : s.testBit k = false := by cases e : s.testBit k <;> rw [e] at h1 <;> simp at h1 ⊢
      rw [sdiff_bit, maskTo_bit, h2]
      unfold wantP
      simp [hk, h2, ek]
    rw [hz] at hb
    simp at hb

set_option maxRecDepth 100000 in
set_option maxHeartbeats 4000000 in
theorem gives37_any (w : World) (v : Value) (n : Int) (r : List Int) (s : Nat) (h : Ints .i64 w v r) (hs64 : s < 18446744073709551616) :
    Calls Try.prog 3 #[.int .i64 n, v, .int .u64 s] w fun e w' => e = .returned (.bool true) ∧ Ext w w' := by
  have CA := Lib.hid awake37_any
  have H := Lib.hid h
  have hx := Ext.refl w
  have HK : Hid (∀ w1, Ext w w1 → Calls Try.prog 14 #[.int .i64 n, v] w1 fun e w' => e = .returned (.int .i64 (rkErr n r)) ∧ w1 = w') := fun w1 hx => rkCheck_any w1 v n r (H.out.ext hx)
  obtain ⟨A, c, rfl, hs, hf⟩ := h
  have hle := hs.le
  have hcap := hs.cap
  clear hf
  by_cases hl : 16 < r.length
  · clear hs
    go_enter Try.func3, Try.ntmps3
    go_wp2_with fail
    refine (CA.out _).mono ?_
    rintro e w1 ⟨rfl, hy⟩
    go_wp2_with fail
    go_ret
    exact ⟨rfl, hx.trans hy⟩
  by_cases h0 : rkErr n r = 0
  rotate_left 1
  · have t : (rkErr n r != 0) = true := by rw [bne_iff_ne]; exact h0
    obtain ⟨ee, hee⟩ : ∃ ee, ee = rkErr n r := ⟨_, rfl⟩
    rw [← hee] at t HK
    clear h0 hee hs
    go_enter Try.func3, Try.ntmps3
    go_wp2_with fail
    refine (HK.out _ hx).mono ?_
    rintro e w1 ⟨rfl, rfl⟩
    go_wp2_with fail
    refine (CA.out _).mono ?_
    rintro e w1 ⟨rfl, hy⟩
    go_wp2_with fail
    go_ret
    exact ⟨rfl, hx.trans hy⟩
  rw [h0] at HK
  obtain ⟨m, rfl, hm, hr⟩ := rkErr_zero h0
  clear h0
  have C1 := Contract_any w (.slice A r.length c) m r s H.out hs64
  by_cases e0 : (conR m r s).2 = 0
  rotate_left 1
  · have t : ((conR m r s).2 != 0) = true := by rw [bne_iff_ne]; exact e0
    obtain ⟨L, hL⟩ : ∃ L, L = conR m r s := ⟨_, rfl⟩
    rw [← hL] at t C1
    have C1 := Lib.hid C1
    clear e0 hL hr hs
    go_enter Try.func3, Try.ntmps3
    go_wp2_with fail
    refine (HK.out _ hx).mono ?_
    rintro e w1 ⟨rfl, rfl⟩
    clear HK
    go_wp2_with fail
    refine C1.out.mono ?_
    rintro e w1 ⟨va, rfl, ha, hy⟩
    have hx := hx.trans hy
    clear hy ha C1
    go_wp2_with fail
    refine (CA.out _).mono ?_
    rintro e w1 ⟨rfl, hy⟩
    go_wp2_with fail
    go_ret
    exact ⟨rfl, hx.trans hy⟩
  obtain ⟨l, q1, q2, q3⟩ := gives hm hr e0
  rw [q1] at C1
  have C1 := Lib.hid C1
  have hC2 : ∀ w1 v1, Ints .i64 w1 v1 l → _ := fun w1 v1 h => Belief_any w1 v1 m l h
  rw [q2] at hC2
  have C2 := Lib.hid hC2
  have HR := Lib.hid hr.1.2
  have HB : Hid (∀ k : Nat, bits .and .u64 ((s : Int) / 2 ^ k) 1 = if s.testBit k then 1 else 0) := fun k => u64_bit s k hs64
  have B64 : maskTo (wantP r s (leastTo r s r.length)) r.length < 18446744073709551616 := maskTo_lt64 _ (by omega)
  have hand := u64_andNot _ s B64 hs64
  obtain ⟨D, hD⟩ : ∃ D, D = sdiff (maskTo (wantP r s (leastTo r s r.length)) r.length) s := ⟨_, rfl⟩
  rw [← hD] at hand q3
  have t9 : ((D : Int) != 0) = true := by rw [bne_iff_ne]; omega
  obtain ⟨x, hxx⟩ : ∃ x, x = leastTo r s r.length := ⟨_, rfl⟩
  rw [← hxx] at hand C2
  have HX := Lib.hid hxx
  have Hand := Lib.hid hand
  clear hxx hD q1 q2 q3 e0 hr hC2 B64 hs64 hand
  go_enter Try.func3, Try.ntmps3
  go_wp2_with fail
  refine (HK.out _ hx).mono ?_
  rintro e w1 ⟨rfl, rfl⟩
  clear HK
  go_wp2_with fail
  refine C1.out.mono ?_
  rintro e w1 ⟨va, rfl, ha, hy⟩
  have hx := hx.trans hy
  have HA2 := Lib.hid ha
  clear hy ha C1
  go_wp2
  go_loop [9, 37] (fun o i => ∃ k : Nat, k ≤ r.length ∧ i = .int .i64 k ∧ o = .int .i64 (leastTo r s k)) (fun _ i => r.length - (intOf i).toNat)
  case atStart => exact ⟨0, Nat.zero_le _, rfl, rfl⟩
  case round =>
    obtain ⟨k, hk, rfl, rfl⟩ := hrel
    by_cases hlt : k < r.length
    · obtain ⟨ad, rfl, hb, hc⟩ := (hs.ext hx).get hlt
      have bk := HB.out k
      have hstep : leastTo r s (k + 1) = if s.testBit k then leastTo r s k else min (leastTo r s k) (nth r k) := rfl
      cases hbv : s.testBit k with
      | true =>
        rw [hbv, if_pos rfl] at bk hstep
        have Hs := Lib.hid hstep
        clear hstep hbv
        go_wp2
        go_round
        case rel => exact ⟨k + 1, by omega, by go_num, by rw [Hs.out]⟩
        case measure => simp [intOf]; omega
      | false =>
        rw [hbv, if_neg (by simp)] at bk hstep
        have Hs := Lib.hid hstep
        clear hstep hbv
        go_wp2
        go_round
        case rel => exact ⟨k + 1, by omega, by go_num, by rw [Hs.out]; congr 1; try (split <;> omega)⟩
        case measure => simp [intOf]; omega
    · obtain rfl : k = r.length := by omega
      rw [← HX.out]
      go_wp2
      go_loop [11, 55] (fun o i => ∃ k : Nat, k ≤ r.length ∧ i = .int .i64 k ∧ o = .int .u64 (maskTo (wantP r s x) k : Nat)) (fun _ i => r.length - (intOf i).toNat)
      case atStart => exact ⟨0, Nat.zero_le _, rfl, rfl⟩
      case round =>
        obtain ⟨k, hk, rfl, rfl⟩ := hrel
        by_cases hlt : k < r.length
        · obtain ⟨ad, rfl, hb, hc⟩ := (hs.ext hx).get hlt
          have bk := HB.out k
          have hor := u64_or_pow (maskTo (wantP r s x) k) k (maskTo_lt64 _ (by omega)) (by omega)
          have hstep := maskTo_succ (wantP r s x) k
          have hP : wantP r s x k = (decide (nth r k = 0) || (!s.testBit k && decide (nth r k = x))) := rfl
          by_cases g0 : nth r k = 0
          · have t : (nth r k == 0) = true := by rw [g0]; rfl
            rw [if_pos (by rw [hP]; simp [g0])] at hstep
            rw [← hstep] at hor
            clear hstep hP g0 bk
            go_wp2
            go_round
            case rel => exact ⟨k + 1, by omega, by go_num, rfl⟩
            case measure => simp [intOf]; omega
          have t : (nth r k == 0) = false := by rw [beq_eq_false_iff_ne]; exact g0
          cases hbv : s.testBit k with
          | true =>
            rw [hbv, if_pos rfl] at bk
            rw [if_neg (by rw [hP]; simp [g0, hbv]), Nat.or_zero] at hstep
            have Hs := Lib.hid hstep
            clear hstep hP g0 hbv hor
            go_wp2
            go_round
            case rel => exact ⟨k + 1, by omega, by go_num, by rw [Hs.out]⟩
            case measure => simp [intOf]; omega
          | false =>
            rw [hbv, if_neg (by simp)] at bk
            by_cases g1 : nth r k = x
            · have t1 : (nth r k == x) = true := by rw [g1]; simp
              rw [if_pos (by rw [hP]; simp [g1, hbv])] at hstep
              rw [← hstep] at hor
              clear hstep hP g0 g1 hbv
              go_wp2
              go_round
              case rel => exact ⟨k + 1, by omega, by go_num, rfl⟩
              case measure => simp [intOf]; omega
            · have t1 : (nth r k == x) = false := by rw [beq_eq_false_iff_ne]; exact g1
              rw [if_neg (by rw [hP]; simp [g0, g1])  , Nat.or_zero] at hstep
              have Hs := Lib.hid hstep
              clear hstep hP g0 g1 hbv hor
              go_wp2
              go_round
              case rel => exact ⟨k + 1, by omega, by go_num, by rw [Hs.out]⟩
              case measure => simp [intOf]; omega
        · obtain rfl : k = r.length := by omega
          have C3 := C2.out _ _ HA2.out
          obtain ⟨M, hM⟩ : ∃ M, M = maskTo (wantP r s x) r.length := ⟨_, rfl⟩
          rw [← hM] at C3 Hand ⊢
          have hand := Hand.out
          have C3 := Lib.hid C3
          clear hM C2
          go_wp2_with fail
          refine C3.out.mono ?_
          rintro e w2 ⟨rfl, hy⟩
          have hx := hx.trans hy
          clear hy C3
          go_wp2_with fail
          refine (CA.out _).mono ?_
          rintro e w1 ⟨rfl, hy⟩
          go_wp2_with fail
          go_ret
          exact ⟨rfl, hx.trans hy⟩

end Go.Proofs.Ytdlhfihddipjaab
