/-
  The agreement texts: weights of events, fractions in lowest terms.
-/
import Derived.Test.YtdlhfihddipjaacDoorAg1
namespace Go.Proofs.YtdlhfihddipjaacDoor
open Go.RowKit

/-- The weight of the members of an event below 'k'. -/
def wtTo (W : List Int) (e : Nat) : Nat → Int
  | 0 => 0
  | k + 1 => if e.testBit k then wtTo W e k + nth W k else wtTo W e k
def wt (W : List Int) (e : Nat) : Int := wtTo W e W.length
theorem wtTo_bd {W : List Int} (h : ∀ i, i < W.length → 1 ≤ nth W i ∧ nth W i ≤ 1000) (e k : Nat) (hk : k ≤ W.length) : 0 ≤ wtTo W e k ∧ wtTo W e k ≤ 1000 * k := by
  induction k with
  | zero => simp [wtTo]
  | succ k ih =>
    rw [wtTo]
    have := ih (by omega)
    have := h k (by omega)
    split <;> omega

set_option maxRecDepth 100000 in
set_option maxHeartbeats 2000000 in
theorem weight_any (w : World) (v1 v2 : Value) (W : List Int) (h : Ints .i64 w v1 W) (h64 : W.length ≤ 64) (hok : ∀ i, i < W.length → 1 ≤ nth W i ∧ nth W i ≤ 1000) (e : Nat) (he : e < 18446744073709551616) :
    Calls Tryd.prog 66 #[.agg #[v1, v2], .int .u64 e] w fun x w' => x = .returned (.int .i64 (wt W e)) ∧ Ext w w' := by
  obtain ⟨A, c, rfl, hs, hf⟩ := h
  have hle := hs.le
  have hcap := hs.cap
  obtain ⟨q0, q1⟩ := cellsP w (.slice A W.length c) v2 37
  have hx := (Ext.refl w).alloc (.cells #[.slice A W.length c, v2] 37)
  have hs' := hs.ext hx
  have Hok := Lib.hid hok
  unfold wt
  clear hs hf hok q1
  go_enter Tryd.func66, Tryd.ntmps66
  go_wp2
  go_loop [5, 11] (fun o i => ∃ k : Nat, k ≤ W.length ∧ i = .int .i64 k ∧ o = .int .i64 (wtTo W e k)) (fun _ i => W.length - (intOf i).toNat)
  case atStart => exact ⟨0, Nat.zero_le _, rfl, rfl⟩
  case round =>
    obtain ⟨k, hk, rfl, rfl⟩ := hrel
    by_cases hlt : k < W.length
    · obtain ⟨ad, rfl, hb, hc⟩ := hs'.get hlt
      have hbit := u64_bit1 e k he
      have hstep : wtTo W e (k + 1) = if e.testBit k then wtTo W e k + nth W k else wtTo W e k := rfl
      have g1 := wtTo_bd Hok.out e k hk
      have g2 := Hok.out k hlt
      have hw : wrap64 (wtTo W e k + nth W k) = wtTo W e k + nth W k := IntWalk.wrap64_in _ ⟨by omega, by omega⟩
      cases hbv : e.testBit k with
      | true =>
        rw [hbv] at hbit
        rw [hbv, if_pos rfl] at hstep
        have Hs := Lib.hid hstep
        clear hstep hbv
        go_wp2
        go_round
        case rel => exact ⟨k + 1, by omega, by go_num, by rw [Hs.out]⟩
        case measure => simp [intOf]; omega
      | false =>
        rw [hbv] at hbit
        rw [hbv, if_neg (by simp)] at hstep
        have Hs := Lib.hid hstep
        clear hstep hbv
        go_wp2
        go_round
        case rel => exact ⟨k + 1, by omega, by go_num, by rw [Hs.out]⟩
        case measure => simp [intOf]; omega
    · obtain rfl : k = W.length := by omega
      go_wp2
      go_ret
      exact ⟨rfl, hx⟩

set_option maxRecDepth 100000 in
set_option maxHeartbeats 2000000 in
theorem fraction_any (w : World) (a b : Nat) (hb0 : 0 < b) (ha : a ≤ 1000000) (hb : b ≤ 1000000) :
    Calls Tryd.prog 65 #[.int .i64 a, .int .i64 b] w fun e w' => e = .returned (.agg #[.int .i64 (a / Nat.gcd a b : Nat), .int .i64 (b / Nat.gcd a b : Nat)]) ∧ Ext w w' := by
  obtain ⟨g, hg⟩ : ∃ g, g = Nat.gcd a b := ⟨_, rfl⟩
  have hg0 : 0 < g := hg ▸ Nat.gcd_pos_of_pos_right a hb0
  rw [← hg]
  have Hg := Lib.hid hg
  clear hg
  go_enter Tryd.func65, Tryd.ntmps65
  go_wp2
  go_loopw [5, 6] (fun o i wr => ∃ x y n : Nat, o = .int .i64 x ∧ i = .int .i64 y ∧ x ≤ 1000000 ∧ y ≤ 1000000 ∧ Hid (Nat.gcd x y = g) ∧ wr = (w.alloc (.cells #[.int .i64 0, .int .i64 0] 52)).drewN n) (fun _ i _ => (intOf i).toNat)
  case atStart => exact ⟨a, b, 0, rfl, rfl, ha, hb, Hg.out.symm, rfl⟩
  case round =>
    obtain ⟨x, y, n, rfl, rfl, hx, hy, hgg, rfl⟩ := hrel
    by_cases h0 : y = 0
    · have t : ((y : Int) != 0) = false := by rw [h0]; rfl
      have hxg : x = g := by have := hgg.out; rw [h0, Nat.gcd_zero_right] at this; exact this
      subst hxg
      have t2 : ((x : Int) == 0) = false := by rw [beq_eq_false_iff_ne]; omega
      have k1 : a / x ≤ a := Nat.div_le_self _ _
      have k2 : b / x ≤ b := Nat.div_le_self _ _
      have q1 : wrap64 ((a : Int) / (x : Int)) = ((a / x : Nat) : Int) := by
        rw [show ((a : Int) / (x : Int)) = ((a / x : Nat) : Int) by simp]
        generalize a / x = d at k1 ⊢
        exact IntWalk.wrap64_in (d : Int) ⟨by omega, by omega⟩
      have q2 : wrap64 ((b : Int) / (x : Int)) = ((b / x : Nat) : Int) := by
        rw [show ((b : Int) / (x : Int)) = ((b / x : Nat) : Int) by simp]
        generalize b / x = d at k2 ⊢
        exact IntWalk.wrap64_in (d : Int) ⟨by omega, by omega⟩
      clear h0 hgg k1 k2
      go_wp2
      go_region
      all_goals
        go_wp2
        refine bodyPost_ret (v := .agg #[.int .i64 ((a : Int) / (x : Int)), .int .i64 ((b : Int) / (x : Int))]) (by simp [results, Tryd.results65, go_sem]) rfl ⟨by simp, ?_⟩
        exact ((((Ext.refl w).alloc _).drewN _).setCell (Nat.le_refl _) _).setCell (Nat.le_refl _) _
    · have t : ((y : Int) != 0) = true := by rw [bne_iff_ne]; omega
      have t2 : ((y : Int) == 0) = false := by rw [beq_eq_false_iff_ne]; omega
      have hlt := Nat.mod_lt x (show 0 < y by omega)
      have hg2 : Hid (Nat.gcd y (x % y) = g) := by
        show Nat.gcd y (x % y) = g
        rw [← hgg.out, Nat.gcd_comm x y, Nat.gcd_rec y x, Nat.gcd_comm]
      go_wp2
      go_quiet (fail)
      go_wp2
      go_roundw
      case rel => exact ⟨y, x % y, n + nq, rfl, by first | rfl | (congr 1; simp) | go_num, hy, by omega, hg2, by rw [World.drewN_drewN]⟩
      case measure => simp [intOf]; omega

end Go.Proofs.YtdlhfihddipjaacDoor
