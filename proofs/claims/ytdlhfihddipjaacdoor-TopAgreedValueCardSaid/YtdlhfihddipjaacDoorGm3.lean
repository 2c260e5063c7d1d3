/-
  The doors: model.Check, model.Generated.
-/
import Derived.Test.YtdlhfihddipjaacDoorGm2
namespace Go.Proofs.YtdlhfihddipjaacDoor
open Go.RowKit

theorem cellsM3 (w : World) (a b c : Value) (t : TypeId) : ∀ w', Ext (w.alloc (.cells #[a, b, c] t)) w' → w'.cell? ⟨w.heap.size, 0, none⟩ = some a ∧ w'.cell? ⟨w.heap.size, 1, none⟩ = some b ∧ w'.cell? ⟨w.heap.size, 2, none⟩ = some c := fun w' k => by
  have h := MBlk.made w a b c t
  have h' : MBlk w' w.heap.size t a b c := h.ext k
  exact ⟨MBlk.c0 h', MBlk.c1 h', MBlk.c2 h'⟩

set_option maxRecDepth 100000 in
set_option maxHeartbeats 2000000 in
theorem mchk_ok (w : World) (y z : Value) (n : Nat) (R : List (List Nat)) (hy : Sets w y []) (hR : SRows w z R) (n0 : 0 < n) (n64 : n ≤ 64) (hl : R.length ≤ 4) (hlen : ∀ i, i < R.length → (nthR R i).length = n) (hent : ∀ i, i < R.length → ∀ k, k < (nthR R i).length → nthN (nthR R i) k < 2 ^ n) :
    Calls Tryd.prog 34 #[.agg #[.int .i64 n, y, z]] w fun e w' => e = .returned (.int .i64 0) ∧ Ext w w' := by
  have HO : Hid (∀ w1, Ext w w1 → Calls Tryd.prog 58 #[y, .int .i64 n] w1 fun e w' => e = .returned (.bool false) ∧ Ext w1 w') := fun w1 hx => outside_no w1 y [] n n64 (hy.ext hx) (fun i hi => absurd hi (by simp))
  have HC : Hid (∀ w1, Ext w w1 → w1.cell? ⟨w.heap.size, 0, none⟩ = some (.int .i64 n) → w.heap.size < w1.heap.size → Calls Tryd.prog 59 #[z, .func (.func 60) #[] #[.pointer (some ⟨w.heap.size, 0, none⟩)]] w1 fun e w' => e = .returned (.bool false) ∧ Ext w1 w') := fun w1 hx hc hlt =>
    contR_no w1 z R (hR.ext hx) (fun _ _ => by kernel_rfl) fun w2 v2 i hx2 hi hs => chkClosure w2 v2 _ w.heap.size n n64 hs (hent i hi) ((hx2.cell hlt).trans hc)
  have H := Lib.hid hR
  have Hlen := Lib.hid hlen
  obtain ⟨Ay, cy, rfl, hsy, _⟩ := hy
  obtain ⟨Az, cz, vz, rfl, hsz, _⟩ := hR
  have hcy := hsy.cap
  have hlz := hsz.le
  have hcz := hsz.cap
  have HUp := Lib.hid (cellsM3 w (.int .i64 n) (.slice Ay 0 cy) (.slice Az R.length cz) 42)
  have hx1 := (Ext.refl w).alloc (.cells #[.int .i64 n, .slice Ay 0 cy, .slice Az R.length cz] 42)
  obtain ⟨p0, p1, p2⟩ := HUp.out _ (Ext.refl _)
  have t1 : decide ((n : Int) < 1) = false := by rw [decide_eq_false_iff_not]; omega
  have t1n : decide (n = 0) = false := by rw [decide_eq_false_iff_not]; omega
  have t1m : decide (n < 1) = false := by rw [decide_eq_false_iff_not]; omega
  have t2 : decide ((64 : Int) < (n : Int)) = false := by rw [decide_eq_false_iff_not]; omega
  have t2n : decide (64 < n) = false := by rw [decide_eq_false_iff_not]; omega
  have t3 : decide ((4 : Int) < (R.length : Int)) = false := by rw [decide_eq_false_iff_not]; omega
  have t3n : decide (4 < R.length) = false := by rw [decide_eq_false_iff_not]; omega
  obtain ⟨W1, hW1⟩ : ∃ W1, W1 = w.alloc (.cells #[.int .i64 n, .slice Ay 0 cy, .slice Az R.length cz] 42) := ⟨_, rfl⟩
  have hs1 : w.heap.size < W1.heap.size := by rw [hW1]; simp
  rw [← hW1] at HUp hx1
  have HW1 := Lib.hid hW1
  clear hsy hsz hlen hent hW1
  go_enter Tryd.func34, Tryd.ntmps34
  go_wp2
  rw [← HW1.out]
  go_loopw [26] (fun v wr => ∃ k : Nat, k ≤ R.length ∧ v = .int .i64 k ∧ Ext W1 wr) (fun v _ => R.length - (intOf v).toNat)
  case atStart => exact ⟨0, Nat.zero_le _, rfl, Ext.refl _⟩
  case round =>
    obtain ⟨k, hk, rfl, hxr⟩ := hrel
    obtain ⟨p0, p1, p2⟩ := HUp.out _ hxr
    have hx := hx1.trans hxr
    by_cases hlt : k < R.length
    · obtain ⟨ad, A', c', rfl, hb, hce, _, _, _⟩ := (H.out.ext hx).get hlt
      rw [Hlen.out k hlt] at hce
      have tn : ((n : Int) != (n : Int)) = false := by simp
      go_wp2
      go_roundw
      case rel => exact ⟨k + 1, by omega, by go_num, hxr⟩
      case measure => simp [intOf]; omega
    · obtain rfl : k = R.length := by omega
      go_wp2_with fail
      refine (HO.out _ hx).mono ?_
      rintro _ w3 ⟨rfl, hy3⟩
      obtain ⟨p0, p1, p2⟩ := HUp.out _ (hxr.trans hy3)
      have hlt3 : w.heap.size < w3.heap.size := Nat.lt_of_lt_of_le hs1 (hxr.trans hy3).size
      have CC := Lib.hid (HC.out w3 (hx.trans hy3) p0 hlt3)
      go_wp2_with fail
      refine CC.out.mono ?_
      rintro _ w4 ⟨rfl, hy4⟩
      go_wp2
      go_ret
      exact ⟨rfl, (hx.trans hy3).trans hy4⟩

/-- What decreases from round to round. -/
def genM (o t : Value) : Nat := 18446744073709551616 - sdiff (intOf o).toNat (intOf t).toNat
theorem genM_of (O T : Nat) : genM (.int .u64 (O : Nat)) (.int .u64 (T : Nat)) = 18446744073709551616 - sdiff O T := by simp [genM, intOf]

end Go.Proofs.YtdlhfihddipjaacDoor
