/-
  The agreement texts: whether all agents have the same posterior, of the program and of its reference.
-/
import Derived.Test.YtdlhfihddipjaabAg8
namespace Go.Proofs.Ytdlhfihddipjaab
open Go.RowKit

def agreeB (W : List Int) (C : List (List Int)) (k e : Nat) : Bool := (List.range C.length).all fun a => decide (post W C a k e = post W C 0 k e)
theorem agreeB_iff {W : List Int} {C : List (List Int)} {k e : Nat} : agreeB W C k e = true ↔ ∀ a, a < C.length → post W C a k e = post W C 0 k e := by
  unfold agreeB
  rw [List.all_eq_true]
  exact ⟨fun h a ha => by have := h a (List.mem_range.2 ha); rwa [decide_eq_true_eq] at this, fun h a ha => by rw [decide_eq_true_eq]; exact h a (List.mem_range.1 ha)⟩
def agrR (W : List Int) (C : List (List Int)) (k : Int) (e : Nat) : Bool × Int := if anyErr W C k e ≠ 0 then (false, anyErr W C k e) else (agreeB W C k.toNat e, 0)
theorem anyErr_zero {W : List Int} {C : List (List Int)} {k : Int} {e : Nat} (h : anyErr W C k e = 0) : PrOk W C ∧ ∃ k' : Nat, k = k' ∧ k' < W.length ∧ e < 2 ^ W.length := by
  unfold anyErr at h
  by_cases h0 : agErr W C = 0
  · rw [if_neg (by simpa using h0)] at h
    by_cases h1 : (k < 0 ∨ (W.length : Int) ≤ k) ∨ 2 ^ W.length ≤ e
    · rw [if_pos h1] at h; cases h
    · obtain ⟨k', rfl⟩ := Int.eq_ofNat_of_zero_le (show 0 ≤ k by omega)
      exact ⟨agErr_zero h0, k', rfl, by omega, by omega⟩
  · rw [if_pos (by simpa using h0)] at h; exact absurd h h0
theorem any_ev (W : List Int) (C : List (List Int)) (k : Int) (e : Nat) : anyErr W C k e = if evErr W C e ≠ 0 then evErr W C e else if k < 0 ∨ (W.length : Int) ≤ k then 2 else 0 := by
  by_cases h0 : agErr W C = 0
  · have ev : evErr W C e = if 2 ^ W.length ≤ e then 2 else 0 := by unfold evErr; rw [if_neg (by simpa using h0)]
    have ck : anyErr W C k e = if (k < 0 ∨ (W.length : Int) ≤ k) ∨ 2 ^ W.length ≤ e then 2 else 0 := by unfold anyErr; rw [if_neg (by simpa using h0)]
    rw [ev, ck]
    by_cases h1 : 2 ^ W.length ≤ e
    · rw [if_pos h1, if_pos (.inr h1), if_pos (by decide)]
    · rw [if_neg h1, if_neg (show ¬ ((0 : Int) ≠ 0) by decide)]
      by_cases h2 : k < 0 ∨ (W.length : Int) ≤ k
      · rw [if_pos h2, if_pos (by omega)]
      · rw [if_neg h2, if_neg (by omega)]
  · have ev : evErr W C e = agErr W C := by unfold evErr; rw [if_pos (by simpa using h0)]
    have ck : anyErr W C k e = agErr W C := by unfold anyErr; rw [if_pos (by simpa using h0)]
    rw [ev, ck, if_pos (by simpa using h0)]

set_option maxRecDepth 100000 in
set_option maxHeartbeats 4000000 in
theorem Agree_any (w : World) (v1 v2 : Value) (W : List Int) (C : List (List Int)) (h : Prior w v1 v2 W C) (k : Int) (e : Nat) (he : e < 18446744073709551616) :
    Calls Try.prog 31 #[.agg #[v1, v2], .int .i64 k, .int .u64 e] w fun x w' => x = .returned (.tuple #[.bool (agrR W C k e).1, .int .i64 (agrR W C k e).2]) ∧ Ext w w' := by
  obtain ⟨h1, h2⟩ := h
  obtain ⟨A, c, rfl, hs, hf⟩ := id h1
  have hle := hs.le
  have hcap := hs.cap
  obtain ⟨A2, c2, vs, rfl, hs2, _⟩ := id h2
  have hle2 := hs2.le
  have hcap2 := hs2.cap
  clear hs hf hs2
  obtain ⟨q0, q1⟩ := cellsP w (.slice A W.length c) (.slice A2 C.length c2) 45
  have hx0 := (Ext.refl w).alloc (.cells #[.slice A W.length c, .slice A2 C.length c2] 45)
  have CK := anybody_any _ _ _ W C ⟨h1.ext hx0, h2.ext hx0⟩ k e he
  by_cases h0 : anyErr W C k e = 0
  rotate_left 1
  · unfold agrR
    rw [if_pos (by simpa using h0)]
    have t : (anyErr W C k e != 0) = true := by rw [bne_iff_ne]; exact h0
    obtain ⟨z, hz⟩ : ∃ z, z = anyErr W C k e := ⟨_, rfl⟩
    rw [← hz] at t CK ⊢
    have CK := Lib.hid CK
    clear h0 hz h1 h2
    go_enter Try.func31, Try.ntmps31
    go_wp2_with fail
    refine CK.out.mono ?_
    rintro x w2 ⟨rfl, hy⟩
    have hx2 := hx0.trans hy
    have l0 : w.heap.size < w2.heap.size := by have := hy.size; simp at this; omega
    have q0 := (hy.cell (by simp)).trans q0
    have q1 := (hy.cell (by simp)).trans q1
    clear hy CK
    go_wp2
    go_ret2
    exact ⟨rfl, hx2⟩
  rw [h0] at CK
  have CK := Lib.hid CK
  obtain ⟨hP, k', rfl, hk, hel⟩ := anyErr_zero h0
  have e9 : agrR W C (k' : Nat) e = (agreeB W C k' e, 0) := by unfold agrR; rw [if_neg (by simpa using h0)]; simp
  rw [e9]
  have HPo : Hid (∀ w1, Ext w w1 → ∀ a : Nat, a < C.length → Calls Try.prog 80 #[.agg #[.slice A W.length c, .slice A2 C.length c2], .int .i64 (a : Nat), .int .i64 (k' : Nat), .int .u64 e] w1 fun x w' => x = .returned (fracV (post W C a k' e)) ∧ Ext w1 w') := fun w1 hx a ha => posterior_any w1 _ _ W C ⟨h1.ext hx, h2.ext hx⟩ hP a k' e ha hk he
  obtain ⟨z, hz⟩ : ∃ z, z = agreeB W C k' e := ⟨_, rfl⟩
  rw [← hz]
  have HzE := Lib.hid hz
  have Hz : Hid ((∃ i, i < C.length ∧ post W C i k' e ≠ post W C 0 k' e) → z = false) := by
    rintro ⟨i, hi, q⟩
    cases e : z with
    | false => rfl
    | true => rw [hz] at e; exact absurd (agreeB_iff.1 e i hi) q
  have t1 : decide ((k' : Int) < 0) = false := by rw [decide_eq_false_iff_not]; omega
  have t2 : decide ((W.length : Int) ≤ (k' : Int)) = false := by rw [decide_eq_false_iff_not]; omega
  have t3 : decide (W.length ≤ k') = false := by rw [decide_eq_false_iff_not]; omega
  clear e9 hP h1 h2 h0 hel hz 
  go_enter Try.func31, Try.ntmps31
  go_wp2_with fail
  refine CK.out.mono ?_
  rintro x w2 ⟨rfl, hy⟩
  have hx2 := hx0.trans hy
  have l0 : w.heap.size < w2.heap.size := by have := hy.size; simp at this; omega
  have q0 := (hy.cell (by simp)).trans q0
  have q1 := (hy.cell (by simp)).trans q1
  clear hy CK
  go_wp2
  go_loopw [20] (fun i wr => ∃ j : Nat, j ≤ C.length ∧ i = .int .i64 j ∧ Hid (∀ i, i < j → i < C.length → post W C i k' e = post W C 0 k' e) ∧ Ext w2 wr) (fun i _ => C.length - (intOf i).toNat)
  case atStart => exact ⟨0, by omega, rfl, fun i hi => absurd hi (by omega), Ext.refl _⟩
  case round =>
    obtain ⟨j, hj, rfl, hgo, hxr⟩ := hrel
    have hxw := hx2.trans hxr
    have lr : w.heap.size < wr.heap.size := by have := hxr.size; omega
    have q0 := (hxr.cell l0).trans q0
    have q1 := (hxr.cell l0).trans q1
    by_cases hlt : j < C.length
    · have hC1 : ∀ w1, Ext w w1 → _ := fun w1 hx => HPo.out w1 hx j hlt
      have hC2 : ∀ w1, Ext w w1 → _ := fun w1 hx => HPo.out w1 hx 0 (by omega)
      obtain ⟨F, hF⟩ : ∃ F, F = post W C j k' e := ⟨_, rfl⟩
      obtain ⟨G, hG⟩ : ∃ F, F = post W C 0 k' e := ⟨_, rfl⟩
      rw [← hF] at hC1
      rw [← hG] at hC2
      have HF := Lib.hid hF
      have HG := Lib.hid hG
      clear hF hG
      obtain ⟨x1, x2⟩ := F
      obtain ⟨y1, y2⟩ := G
      have C1 : Hid (∀ w1, Ext w w1 → Calls Try.prog 80 #[.agg #[.slice A W.length c, .slice A2 C.length c2], .int .i64 (j : Nat), .int .i64 (k' : Nat), .int .u64 e] w1 fun x w' => x = .returned (.agg #[.int .i64 (x1 : Nat), .int .i64 (x2 : Nat)]) ∧ Ext w1 w') := hC1
      have C2 : Hid (∀ w1, Ext w w1 → Calls Try.prog 80 #[.agg #[.slice A W.length c, .slice A2 C.length c2], .int .i64 0, .int .i64 (k' : Nat), .int .u64 e] w1 fun x w' => x = .returned (.agg #[.int .i64 (y1 : Nat), .int .i64 (y2 : Nat)]) ∧ Ext w1 w') := hC2
      clear hC1 hC2
      by_cases e1 : x1 = y1
      · have i1 : ((x1 : Int) = (y1 : Int)) = True := eq_true (by omega)
        by_cases e2 : x2 = y2
        · have i2 : ((x2 : Int) = (y2 : Int)) = True := eq_true (by omega)
          have hg : Hid (post W C j k' e = post W C 0 k' e) := by show _ = _; rw [← HF.out, ← HG.out, e1, e2]
          clear e1 e2
          go_wp2
          go_region_with (first | (go_at_call_of 80 (Value.int IntKind.i64 0); refine (C2.out _ ?_).mono ?_; (first | exact hxw | exact hxw.drew); rintro x w4 ⟨rfl, hy⟩; have hyr := hyr.trans hy; have hxw := hxw.trans hy) | (go_at_call 80; refine (C1.out _ ?_).mono ?_; (exact hxw.drew); rintro x w3 ⟨rfl, hy⟩; have hyr := ((Ext.refl wr).drew).trans hy; have hxw := hxw.drew.trans hy; have q0 := (hy.cell (show w.heap.size < _ by simp <;> omega)).trans q0; have q1 := (hy.cell (show w.heap.size < _ by simp <;> omega)).trans q1))
          all_goals
            go_wp2
            go_roundw
            case rel => exact ⟨j + 1, by omega, by go_num, fun i hi => by
              by_cases q : i = j
              · rw [q]; exact fun _ => hg.out
              · exact hgo.out i (by omega), hxr.trans hyr⟩
            case measure => simp [intOf]; omega
        · have i2 : ((x2 : Int) = (y2 : Int)) = False := eq_false (by omega)
          have hg : Hid (∃ i, i < C.length ∧ post W C i k' e ≠ post W C 0 k' e) := ⟨j, hlt, by rw [← HF.out, ← HG.out]; intro q; exact e2 (congrArg Prod.snd q)⟩
          clear e1 e2
          go_wp2
          go_region_with (first | (go_at_call_of 80 (Value.int IntKind.i64 0); refine (C2.out _ ?_).mono ?_; (first | exact hxw | exact hxw.drew); rintro x w4 ⟨rfl, hy⟩; have hyr := hyr.trans hy; have hxw := hxw.trans hy) | (go_at_call 80; refine (C1.out _ ?_).mono ?_; (exact hxw.drew); rintro x w3 ⟨rfl, hy⟩; have hyr := ((Ext.refl wr).drew).trans hy; have hxw := hxw.drew.trans hy; have q0 := (hy.cell (show w.heap.size < _ by simp <;> omega)).trans q0; have q1 := (hy.cell (show w.heap.size < _ by simp <;> omega)).trans q1))
          all_goals
            go_wp2
            go_ret2
            exact ⟨by rw [Hz.out hg.out]; rfl, hxw⟩
      · have i1 : ((x1 : Int) = (y1 : Int)) = False := eq_false (by omega)
        have hg : Hid (∃ i, i < C.length ∧ post W C i k' e ≠ post W C 0 k' e) := ⟨j, hlt, by rw [← HF.out, ← HG.out]; intro q; exact e1 (congrArg Prod.fst q)⟩
        clear e1
        go_wp2
        go_region_with (first | (go_at_call_of 80 (Value.int IntKind.i64 0); refine (C2.out _ ?_).mono ?_; (first | exact hxw | exact hxw.drew); rintro x w4 ⟨rfl, hy⟩; have hyr := hyr.trans hy; have hxw := hxw.trans hy) | (go_at_call 80; refine (C1.out _ ?_).mono ?_; (exact hxw.drew); rintro x w3 ⟨rfl, hy⟩; have hyr := ((Ext.refl wr).drew).trans hy; have hxw := hxw.drew.trans hy; have q0 := (hy.cell (show w.heap.size < _ by simp <;> omega)).trans q0; have q1 := (hy.cell (show w.heap.size < _ by simp <;> omega)).trans q1))
        all_goals
          go_wp2
          go_ret2
          exact ⟨by rw [Hz.out hg.out]; rfl, hxw⟩
    · have hz : Hid (z = true) := by show z = true; rw [HzE.out]; exact agreeB_iff.2 fun i hi => hgo.out i (by omega) hi
      go_wp2
      go_ret2
      exact ⟨by rw [hz.out]; rfl, hxw⟩

end Go.Proofs.Ytdlhfihddipjaab
