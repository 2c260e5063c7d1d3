/-
  The agreement texts: the keys of a list of fractions (for each place the first one with the same fraction); slices.Index.
-/
import Derived.Test.YtdlhfihddipjaacDoorAg8
namespace Go.Proofs.YtdlhfihddipjaacDoor
open Go.RowKit

def keyF (fs : List (Nat × Nat)) (k : Nat) : Nat := lowest (fun j => decide (nthF fs j = nthF fs k)) k
def keysF (fs : List (Nat × Nat)) : List Int := upTo fs.length fun k => (keyF fs k : Nat)
theorem keysF_len (fs : List (Nat × Nat)) : (keysF fs).length = fs.length := upTo_len _ _
theorem keyF_le (fs : List (Nat × Nat)) (k : Nat) : keyF fs k ≤ k := lowest_le _ _
theorem keyF_same (fs : List (Nat × Nat)) (k : Nat) : nthF fs (keyF fs k) = nthF fs k := by
  have := lowest_holds (P := fun j => decide (nthF fs j = nthF fs k)) (k := k) (by simp)
  unfold keyF
  simpa using this
theorem keyF_iff {fs : List (Nat × Nat)} {i j : Nat} : keyF fs i = keyF fs j ↔ nthF fs i = nthF fs j := by
  constructor
  · intro h
    rw [← keyF_same fs i, ← keyF_same fs j, h]
  · intro h
    have hi := keyF_same fs i
    have hj := keyF_same fs j
    rcases Nat.lt_trichotomy (keyF fs i) (keyF fs j) with q | q | q
    · have := lowest_least (P := fun m => decide (nthF fs m = nthF fs j)) (k := j) q
      rw [decide_eq_false_iff_not] at this
      exact absurd (hi.trans h) this
    · exact q
    · have := lowest_least (P := fun m => decide (nthF fs m = nthF fs i)) (k := i) q
      rw [decide_eq_false_iff_not] at this
      exact absurd (hj.trans h.symm) this

set_option maxRecDepth 100000 in
set_option maxHeartbeats 2000000 in
theorem fracIndex_any (w : World) (v : Value) (fs : List (Nat × Nat)) (h : Fracs w v fs) (x : Nat × Nat) (k : Nat) (hk : k < fs.length) (hx : x = nthF fs k) :
    Calls Tryd.prog 61 #[v, fracV x] w fun e w' => e = .returned (.int .i64 (keyF fs k : Nat)) ∧ Ext w w' := by
  have H := Lib.hid h
  obtain ⟨A, c, rfl, hle, hcap, _⟩ := h
  obtain ⟨y1, y2⟩ := x
  obtain ⟨z, hz⟩ : ∃ z, z = keyF fs k := ⟨_, rfl⟩
  rw [← hz]
  have Hz := Lib.hid hz
  have Hx := Lib.hid hx
  clear hz hx
  have hx0 := (Ext.refl w).alloc (.cells #[.int .i64 (y1 : Nat), .int .i64 (y2 : Nat)] 52)
  obtain ⟨q0, q1⟩ := cellsP w (.int .i64 (y1 : Nat)) (.int .i64 (y2 : Nat)) 52
  show Calls Tryd.prog 61 #[.slice A fs.length c, .agg #[.int .i64 (y1 : Nat), .int .i64 (y2 : Nat)]] w _
  go_enter Tryd.func61, Tryd.ntmps61
  go_wp2
  go_loopw [8] (fun i wr => ∃ j : Nat, j ≤ k ∧ i = .int .i64 j ∧ Hid (∀ i, i < j → nthF fs i ≠ nthF fs k) ∧ Ext (w.alloc (.cells #[.int .i64 (y1 : Nat), .int .i64 (y2 : Nat)] 52)) wr) (fun i _ => fs.length - (intOf i).toNat)
  case atStart => exact ⟨0, Nat.zero_le _, rfl, fun j hj => absurd hj (by omega), Ext.refl _⟩
  case round =>
    obtain ⟨j, hj, rfl, hgo, hxr⟩ := hrel
    have hlt : j < fs.length := by omega
    have hxw := hx0.trans hxr
    have q0 := (hxr.cell (by simp)).trans q0
    have q1 := (hxr.cell (by simp)).trans q1
    obtain ⟨ad, rfl, _, hc, _, hd'⟩ := (H.out.ext hxw).get hlt
    obtain ⟨fa, hfa⟩ : ∃ f, f = nthF fs j := ⟨_, rfl⟩
    rw [← hfa] at hc hd'
    obtain ⟨x1, x2⟩ := fa
    have Hfa := Lib.hid hfa
    clear hfa
    dsimp only at hc hd'
    by_cases e1 : y1 = x1
    · have i1 : ((y1 : Int) = (x1 : Int)) = True := eq_true (by omega)
      by_cases e2 : y2 = x2
      · have i2 : ((y2 : Int) = (x2 : Int)) = True := eq_true (by omega)
        have hg : Hid (z = j) := by
          show z = j
          rw [Hz.out]
          refine lowest_unique (P := fun m => decide (nthF fs m = nthF fs k)) (by omega) ?_ fun i hi => ?_
          · show decide (nthF fs j = nthF fs k) = true
            rw [decide_eq_true_eq, ← Hfa.out, ← Hx.out, e1, e2]
          · show decide (nthF fs i = nthF fs k) = false
            rw [decide_eq_false_iff_not]; exact hgo.out i hi
        clear e1 e2
        go_wp2
        go_region
        all_goals
          go_wp2
          go_ret
          exact ⟨by rw [hg.out]; rfl, hxw.drew⟩
      · have i2 : ((y2 : Int) = (x2 : Int)) = False := eq_false (by omega)
        have hg : Hid (nthF fs j ≠ nthF fs k) := by show _ ≠ _; rw [← Hfa.out, ← Hx.out]; intro q; exact e2 (congrArg Prod.snd q).symm
        have hjk : Hid (j ≠ k) := fun q => hg.out (by rw [q])
        clear e1 e2
        go_wp2
        go_region
        all_goals
          go_wp2
          go_roundw
          case rel => exact ⟨j + 1, by have := hjk.out; omega, by go_num, fun i hi => by
            by_cases q : i = j
            · rw [q]; exact hg.out
            · exact hgo.out i (by omega), hxr.drew⟩
          case measure => simp [intOf]; omega
    · have i1 : ((y1 : Int) = (x1 : Int)) = False := eq_false (by omega)
      have hg : Hid (nthF fs j ≠ nthF fs k) := by show _ ≠ _; rw [← Hfa.out, ← Hx.out]; intro q; exact e1 (congrArg Prod.fst q).symm
      have hjk : Hid (j ≠ k) := fun q => hg.out (by rw [q])
      clear e1
      go_wp2
      go_region
      all_goals
        go_wp2
        go_roundw
        case rel => exact ⟨j + 1, by have := hjk.out; omega, by go_num, fun i hi => by
          by_cases q : i = j
          · rw [q]; exact hg.out
          · exact hgo.out i (by omega), hxr.drew⟩
        case measure => simp [intOf]; omega

end Go.Proofs.YtdlhfihddipjaacDoor
