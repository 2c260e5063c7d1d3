/-
  TopDalal: the distances from a belief set.
-/
import Derived.Test.YtdlhfihddipjaacDoorTg9
namespace Go.Proofs.YtdlhfihddipjaacDoor
open Go.RowKit

/-- The distance of valuation v, one greater, from the members of b below u; 0: none was met. -/
def dTo (b v : Nat) : Nat → Nat
  | 0 => 0
  | u + 1 => if b.testBit u = true ∧ (dTo b v u = 0 ∨ pop (u ^^^ v) + 1 < dTo b v u) then pop (u ^^^ v) + 1 else dTo b v u
def dist (b N v : Nat) : Nat := dTo b v N - 1
def dists (b N : Nat) : List Int := (List.range N).map fun v => (dist b N v : Nat)
theorem pop_le (x : Nat) : pop x ≤ 2 := by unfold pop; split <;> split <;> omega
theorem dTo_le (b v u : Nat) : dTo b v u ≤ 3 := by
  induction u with
  | zero => exact Nat.zero_le _
  | succ u ih =>
    unfold dTo
    split
    · have := pop_le (u ^^^ v); omega
    · exact ih
theorem dists_len (b N : Nat) : (dists b N).length = N := by simp [dists]
theorem dists_nth {b N v : Nat} (h : v < N) : nth (dists b N) v = (dist b N v : Nat) := nth_ofFn N _ v h
theorem dists_ranks (b m : Nat) : Ranks m (dists b (2 ^ m)) := ⟨dists_len _ _, fun i hi => by
  rw [dists_len] at hi
  rw [dists_nth hi]
  have := dTo_le b i (2 ^ m)
  unfold dist
  omega⟩
/-- The valuations of least distance are the belief set. -/
theorem dists_best : ∀ m, m < 3 → ∀ b, b < 16 → b ≠ 0 → b < 2 ^ 2 ^ m → bestOf (dists b (2 ^ m)) (full (2 ^ m)) = b := by
  decide +kernel
theorem wrap_succ {n : Nat} (h : n ≤ 1000) : wrap64 ((n : Int) + 1) = (n : Int) + 1 := IntWalk.wrap64_in _ ⟨by omega, by omega⟩
theorem wrap_pred {n : Nat} (h : n ≤ 1000) : wrap64 ((n : Int) - 1) = (n : Int) - 1 := IntWalk.wrap64_in _ ⟨by omega, by omega⟩
theorem max_pred (n : Nat) : (if (1 : Int) < (n : Int) then (n : Int) - 1 else 0) = ((n - 1 : Nat) : Int) := by split <;> omega
theorem xor4 : ∀ u, u < 4 → ∀ v, v < 4 → bits .xor .i64 ((u : Nat) : Int) ((v : Nat) : Int) = ((u ^^^ v : Nat) : Int) ∧ u ^^^ v < 4 := by
  decide +kernel
/-- What a row holds while valuation v is measured (the members below u are met). -/
def dRow (b N v u i : Nat) : Nat := if i < v then dist b N i else if i = v then dTo b v u else 0

set_option maxRecDepth 100000 in
set_option maxHeartbeats 8000000 in
theorem distances_ok (w : World) (m b : Nat) (hm : m ≤ 2) (hb : b < 2 ^ 2 ^ m) :
    Calls Tryd.prog 9 #[.int .i64 m, .int .u64 b] w fun e w' => ∃ v, e = .returned (.tuple #[v, .int .i64 0]) ∧ Ints .i64 w' v (dists b (2 ^ m)) ∧ Ext w w' := by
  have HC : Hid (∀ w1, Calls Tryd.prog 26 #[.int .u64 b, .int .i64 m] w1 fun e w' => e = .returned (.int .i64 0) ∧ w1 = w') := fun w1 => belCheck_ok w1 b m (by omega) hb
  have HO : Hid (∀ w1 x, x < 4 → Calls Tryd.prog 27 #[.int .u64 (x : Nat)] w1 fun e w' => e = .returned (.int .i64 (pop x : Nat)) ∧ Ext w1 w') := fun w1 x hx => ones_ok w1 x hx
  have hN4 : 2 ^ m ≤ 4 := Nat.pow_le_pow_right (n := 2) (by omega) hm
  have hb64 : b < 18446744073709551616 := Nat.lt_of_lt_of_le hb (Nat.pow_le_pow_right (n := 2) (by omega) (show 2 ^ m ≤ 64 by omega))
  have hwm := wrap64_pow m (by omega)
  have t1 : decide ((m : Int) < 0) = false := by rw [decide_eq_false_iff_not]; omega
  have t2 : decide ((4 : Int) < (m : Int)) = false := by rw [decide_eq_false_iff_not]; omega
  have t2n : decide (4 < m) = false := by rw [decide_eq_false_iff_not]; omega
  obtain ⟨N, hN⟩ : ∃ N, N = 2 ^ m := ⟨_, rfl⟩
  rw [← hN] at hN4 hwm ⊢
  have hmk := run_make_row' (P := Tryd.prog) 30 3 (.int .i64 0) 8 Tryd.underlying30 Tryd.infoInt rfl .i64 .i64 N (by omega) (by omega)
  clear hN hb
  go_enter Tryd.func9, Tryd.ntmps9
  go_wp2_with fail
  refine (HC.out _).mono ?_
  rintro x w1 ⟨rfl, rfl⟩
  go_wp2
  try rw [hwm]
  have hx2 := (Ext.refl w).alloc (.cells (madeCells #[.int .i64 0] N) 3)
  go_loopw [25] (fun v wr => ∃ k : Nat, k ≤ N ∧ v = .int .i64 k ∧ wr.rowIs w.heap.size 3 N (fun i => .int .i64 (dRow b N k 0 i : Nat)) ∧ Ext w wr) (fun v _ => N - (intOf v).toNat)
  case atStart => exact ⟨0, Nat.zero_le _, rfl, (World.rowIs_made _ _ _ _).congr (fun i hi => by unfold dRow; rw [if_neg (by omega)]; split <;> rfl), hx2⟩
  case round =>
    obtain ⟨k, hk, rfl, hrow, hxr⟩ := hrel
    by_cases hlt : k < N
    · go_wp2
      go_loopw [30] (fun v wu => ∃ u : Nat, u ≤ N ∧ v = .int .i64 u ∧ wu.rowIs w.heap.size 3 N (fun i => .int .i64 (dRow b N k u i : Nat)) ∧ Ext w wu) (fun v _ => N - (intOf v).toNat)
      case atStart => exact ⟨0, Nat.zero_le _, rfl, hrow, hxr⟩
      case round =>
        obtain ⟨u, hu, rfl, hrowu, hxu⟩ := hrel
        by_cases hul : u < N
        · obtain ⟨hxo, hx4⟩ := xor4 u (by omega) k (by omega)
          have hin := u64_wrap_small (u ^^^ k) (by omega)
          have CO := Lib.hid (HO.out wr (u ^^^ k) hx4)
          have hpl := pop_le (u ^^^ k)
          have hbit := u64_bit1 b u hb64
          have hsucc : dTo b k (u + 1) = if b.testBit u = true ∧ (dTo b k u = 0 ∨ pop (u ^^^ k) + 1 < dTo b k u) then pop (u ^^^ k) + 1 else dTo b k u := rfl
          obtain ⟨x, hx⟩ : ∃ x, x = u ^^^ k := ⟨_, rfl⟩
          rw [← hx] at hxo hin CO hpl hsucc
          obtain ⟨px, hpx⟩ : ∃ n, n = pop x := ⟨_, rfl⟩
          rw [← hpx] at CO hpl hsucc
          have hd3 := dTo_le b k u
          have hdk : dRow b N k u k = dTo b k u := by unfold dRow; simp
          obtain ⟨dv, hdv⟩ : ∃ n, n = dTo b k u := ⟨_, rfl⟩
          rw [← hdv] at hsucc hd3 hdk
          have Hdv := Lib.hid hdv
          have Hdk := Lib.hid hdk
          have Hsucc := Lib.hid hsucc
          have hpw : wrap64 ((px : Int) + 1) = (px : Int) + 1 := wrap_succ (Nat.le_trans hpl (by decide))
          have hki : (k : Int) < (N : Int) := by omega
          have Hrow : Hid (∀ i, dRow b N k (u + 1) i = if i = k then dTo b k (u + 1) else dRow b N k u i) := fun i => by
            unfold dRow
            by_cases q1 : i < k
            · rw [if_pos q1, if_neg (by omega), if_pos q1]
            · rw [if_neg q1]
              by_cases q2 : i = k
              · rw [if_pos q2, if_pos q2]
              · rw [if_neg q2, if_neg q2, if_neg q1, if_neg q2]
          clear hx hpx hdv hdk hsucc hx4
          go_wp2_with fail
          refine CO.out.mono ?_
          rintro _ w5 ⟨rfl, hy5⟩
          have hrow5 := hrowu.of_block (hy5.block _ hrowu.lt)
          have hcur := hrow5.cell hlt
          rw [Hdk.out] at hcur
          have hfz := hrow5.frozen k
          have hx5 := hxu.trans hy5
          have keep : ∀ q : dTo b k (u + 1) = dv, w5.rowIs w.heap.size 3 N (fun i => .int .i64 (dRow b N k (u + 1) i : Nat)) := fun q => hrow5.congr (fun i hi => by
            rw [Hrow.out]
            by_cases z : i = k
            · subst z; rw [if_pos rfl, q, Hdk.out]
            · rw [if_neg z])
          have put : ∀ q : dTo b k (u + 1) = px + 1, (w5.setCell ⟨w.heap.size, k, none⟩ (.int .i64 ((px : Int) + 1))).rowIs w.heap.size 3 N (fun i => .int .i64 (dRow b N k (u + 1) i : Nat)) := fun q => (hrow5.set k _).congr (fun i hi => by
            rw [Hrow.out]
            by_cases z : i = k
            · subst z; rw [if_pos rfl, if_pos rfl, q]; simp
            · rw [if_neg z, if_neg z])
          have Keep := Lib.hid keep
          have Put := Lib.hid put
          clear keep put hrow5 hrowu hpw
          cases hbv : b.testBit u with
          | false =>
            rw [hbv] at hbit
            have hq : Hid (dTo b k (u + 1) = dv) := by show _ = _; rw [Hsucc.out, if_neg (by rw [hbv]; simp)]
            clear hbv
            go_wp2
            go_roundw
            case rel => exact ⟨u + 1, by omega, by go_num, Keep.out hq.out, hx5⟩
            case measure => simp [intOf]; omega
          | true =>
            rw [hbv] at hbit
            by_cases h0 : dv = 0
            · have hq : Hid (dTo b k (u + 1) = px + 1) := by show _ = _; rw [Hsucc.out, if_pos ⟨hbv, .inl h0⟩]
              have t5 : ((dv : Int) == 0) = true := by rw [beq_iff_eq]; omega
              clear hbv h0
              go_wp2
              go_roundw
              case rel => exact ⟨u + 1, by omega, by go_num, Put.out hq.out, hx5.setCell (Nat.le_refl _) _⟩
              case measure => simp [intOf]; omega
            · have t5 : ((dv : Int) == 0) = false := by rw [beq_eq_false_iff_ne]; omega
              by_cases h1 : px + 1 < dv
              · have hq : Hid (dTo b k (u + 1) = px + 1) := by show _ = _; rw [Hsucc.out, if_pos ⟨hbv, .inr h1⟩]
                have t6 : decide ((px : Int) + 1 < (dv : Int)) = true := by rw [decide_eq_true_eq]; omega
                clear hbv h0 h1
                go_wp2
                go_roundw
                case rel => exact ⟨u + 1, by omega, by go_num, Put.out hq.out, hx5.setCell (Nat.le_refl _) _⟩
                case measure => simp [intOf]; omega
              · have hq : Hid (dTo b k (u + 1) = dv) := by show _ = _; rw [Hsucc.out, if_neg (fun z => z.2.elim h0 h1)]
                have t6 : decide ((px : Int) + 1 < (dv : Int)) = false := by rw [decide_eq_false_iff_not]; omega
                clear hbv h0 h1
                go_wp2
                go_roundw
                case rel => exact ⟨u + 1, by omega, by go_num, Keep.out hq.out, hx5⟩
                case measure => simp [intOf]; omega
        · obtain rfl : u = N := by omega
          have hdk : dRow b u k u k = dTo b k u := by unfold dRow; simp
          have hcur := hrowu.cell hlt
          rw [hdk] at hcur
          have hfz := hrowu.frozen k
          have hd3 := dTo_le b k u
          obtain ⟨dv, hdv⟩ : ∃ n, n = dTo b k u := ⟨_, rfl⟩
          rw [← hdv] at hcur hd3
          have Hdist : Hid (dist b u k = dv - 1) := by show _ = _; unfold dist; rw [← hdv]
          have hki : (k : Int) < (u : Int) := by omega
          have hsb : wrap64 ((dv : Int) - 1) = (dv : Int) - 1 := wrap_pred (Nat.le_trans hd3 (by decide))
          have hmx := max_pred dv
          have hnew : (wr.setCell ⟨w.heap.size, k, none⟩ (.int .i64 (if (1 : Int) < (dv : Int) then (dv : Int) - 1 else 0))).rowIs w.heap.size 3 u (fun i => .int .i64 (dRow b u (k + 1) 0 i : Nat)) := (hrowu.set k _).congr (fun i hi => by
            unfold dRow
            by_cases q : i = k
            · subst q; rw [hmx, if_pos rfl, if_pos (show i < i + 1 by omega), Hdist.out]
            · rw [if_neg q]
              by_cases q1 : i < k
              · rw [if_pos q1, if_pos (by omega)]
              · rw [if_neg q1, if_neg q, if_neg (by omega)]; split <;> rfl)
          have Hnew := Lib.hid hnew
          clear hdv hdk hrowu hnew hrow hmx
          go_wp2
          go_roundw
          case rel => exact ⟨k + 1, by omega, by go_num, Hnew.out, hxu.setCell (Nat.le_refl _) _⟩
          case measure => simp [intOf]; omega
    · obtain rfl : k = N := by omega
      go_wp2
      go_ret2
      refine ⟨_, rfl, Ints.of_row (hrow.congr fun i hi => ?_) (dists_len _ _) (by omega) (fun i hi => ?_), hxr⟩
      · rw [dists_nth hi]; unfold dRow; rw [if_pos hi]
      · rw [dists_len] at hi
        rw [dists_nth hi]
        have := dTo_le b i k
        unfold dist
        exact fits_small (by omega) (by omega)

end Go.Proofs.YtdlhfihddipjaacDoor
