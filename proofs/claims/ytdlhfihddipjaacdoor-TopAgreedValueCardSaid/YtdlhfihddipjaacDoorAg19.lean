/-
  The agreement texts: equality of slices of integers, of slices of slices, of priors.
-/
import Derived.Test.YtdlhfihddipjaacDoorAgD
namespace Go.Proofs.YtdlhfihddipjaacDoor
open Go.RowKit

set_option maxRecDepth 100000 in
set_option maxHeartbeats 2000000 in
theorem eqInts_any (w : World) (v v2 : Value) (a b : List Int) (h : Ints .i64 w v a) (h2 : Ints .i64 w v2 b) :
    Calls Tryd.prog 41 #[v, v2] w fun e w' => e = .returned (.bool (decide (a = b))) ∧ Ext w w' := by
  obtain ⟨A, c, rfl, hs, hf⟩ := h
  have hle := hs.le
  have hcap := hs.cap
  obtain ⟨A2, c2, rfl, hs2, hf2⟩ := h2
  have hle2 := hs2.le
  have hcap2 := hs2.cap
  obtain ⟨z, hz⟩ : ∃ z, z = decide (a = b) := ⟨_, rfl⟩
  rw [← hz]
  have Hz := Lib.hid hz
  clear hz hf hf2
  by_cases hl : a.length = b.length
  · have t : ((a.length : Int) != (b.length : Int)) = false := by simp [hl]
    go_enter Tryd.func41, Tryd.ntmps41
    go_wp2
    go_loopw [13] (fun i wr => ∃ k : Nat, k ≤ a.length ∧ i = .int .i64 k ∧ Hid (∀ j, j < k → nth a j = nth b j) ∧ Ext w wr) (fun i _ => a.length - (intOf i).toNat)
    case atStart => exact ⟨0, Nat.zero_le _, rfl, fun j hj => absurd hj (by omega), Ext.refl w⟩
    case round =>
      obtain ⟨k, hk, rfl, hgo, hx⟩ := hrel
      by_cases hlt : k < a.length
      · obtain ⟨ad, rfl, hb, hc⟩ := (hs.ext hx).get hlt
        obtain ⟨ad2, rfl, hb2, hc2⟩ := (hs2.ext hx).get (show k < b.length by omega)
        have hk2 : (k : Int) < b.length := by omega
        by_cases e : nth a k = nth b k
        · have t2 : (nth a k != nth b k) = false := by simp [e]
          have He := Lib.hid e
          clear e
          go_wp2
          go_quiet (fail)
          go_wp2
          go_roundw
          case rel => exact ⟨k + 1, by omega, by go_num, fun j hj => by
            by_cases e : j = k
            · rw [e]; exact He.out
            · exact hgo.out j (by omega), hx.drewN _⟩
          case measure => simp [intOf]; omega
        · have t2 : (nth a k != nth b k) = true := by rw [bne_iff_ne]; exact e
          have He := Lib.hid e
          clear e
          go_wp2
          go_quiet (fail)
          go_wp2
          go_ret
          exact ⟨by rw [Hz.out, decide_eq_false (fun k => He.out (by rw [k]))]; rfl, hx.drewN _⟩
      · obtain rfl : k = a.length := by omega
        go_wp2
        go_ret
        exact ⟨by rw [Hz.out, decide_eq_true (ext_nth hl hgo.out)]; rfl, hx⟩
  · have t : ((a.length : Int) != (b.length : Int)) = true := by rw [bne_iff_ne]; omega
    have Hl := Lib.hid hl
    clear hl
    go_enter Tryd.func41, Tryd.ntmps41
    go_wp2
    go_ret
    exact ⟨by rw [Hz.out, decide_eq_false (fun k => Hl.out (by rw [k]))]; rfl, Ext.refl w⟩


set_option maxRecDepth 100000 in
set_option maxHeartbeats 2000000 in
theorem eqFunc_any (w : World) (v v2 : Value) (a b : List (List Int)) (h : Rows w v a) (h2 : Rows w v2 b) :
    Calls Tryd.prog 40 #[v, v2, .func (.func 41) #[] #[]] w fun e w' => e = .returned (.bool (decide (a = b))) ∧ Ext w w' := by
  have HEq : Hid (∀ w1 v v2 a b, Ints .i64 w1 v a → Ints .i64 w1 v2 b → Calls Tryd.prog 41 #[v, v2] w1 fun e w' => e = .returned (.bool (decide (a = b))) ∧ Ext w1 w') := eqInts_any
  have H := Lib.hid h
  have H2 := Lib.hid h2
  obtain ⟨A, c, vs, rfl, hs, _⟩ := h
  have hle := hs.le
  have hcap := hs.cap
  obtain ⟨A2, c2, vs2, rfl, hs2, _⟩ := h2
  have hle2 := hs2.le
  have hcap2 := hs2.cap
  clear hs hs2
  obtain ⟨z, hz⟩ : ∃ z, z = decide (a = b) := ⟨_, rfl⟩
  rw [← hz]
  have Hz := Lib.hid hz
  clear hz
  by_cases hl : a.length = b.length
  · have t : ((a.length : Int) != (b.length : Int)) = false := by simp [hl]
    have Hl := Lib.hid hl
    clear hl
    go_enter Tryd.func40, Tryd.ntmps40
    go_wp2
    go_loopw [17] (fun i wr => ∃ k : Nat, k ≤ a.length ∧ i = .int .i64 k ∧ Hid (∀ j, j < k → nthL a j = nthL b j) ∧ Ext w wr) (fun i _ => a.length - (intOf i).toNat)
    case atStart => exact ⟨0, Nat.zero_le _, rfl, fun j hj => absurd hj (by omega), Ext.refl w⟩
    case round =>
      obtain ⟨k, hk, rfl, hgo, hx⟩ := hrel
      by_cases hlt : k < a.length
      · have hlb : k < b.length := by have := Hl.out; omega
        obtain ⟨ad, A', c', rfl, hb, hce, hle', hcap', hIc⟩ := (H.out.ext hx).get hlt
        obtain ⟨ad2, A2', c2', rfl, hb2, hce2, hle2', hcap2', hIc2⟩ := (H2.out.ext hx).get hlb
        have CE := Lib.hid (HEq.out wr _ _ _ _ hIc hIc2)
        obtain ⟨y, hy⟩ : ∃ y, y = decide (nthL a k = nthL b k) := ⟨_, rfl⟩
        rw [← hy] at CE
        have Hy := Lib.hid hy
        clear hy hIc hIc2
        go_wp2_with fail
        refine CE.out.mono ?_
        rintro x w3 ⟨rfl, hy3⟩
        have hx3 := hx.trans hy3
        clear CE
        cases y with
        | true =>
          have he : Hid (nthL a k = nthL b k) := by show nthL a k = nthL b k; exact of_decide_eq_true Hy.out.symm
          go_wp2
          go_roundw
          case rel => exact ⟨k + 1, by omega, by go_num, fun j hj => by
            by_cases e : j = k
            · rw [e]; exact he.out
            · exact hgo.out j (by omega), hx3⟩
          case measure => simp [intOf]; omega
        | false =>
          have he : Hid (nthL a k ≠ nthL b k) := by show nthL a k ≠ nthL b k; exact of_decide_eq_false Hy.out.symm
          go_wp2
          go_ret
          exact ⟨by rw [Hz.out, decide_eq_false (fun k => he.out (by rw [k]))]; rfl, hx3⟩
      · obtain rfl : k = a.length := by omega
        go_wp2
        go_ret
        exact ⟨by rw [Hz.out, decide_eq_true (ext_nthL Hl.out hgo.out)]; rfl, hx⟩
  · have t : ((a.length : Int) != (b.length : Int)) = true := by rw [bne_iff_ne]; omega
    have Hl := Lib.hid hl
    clear hl
    go_enter Tryd.func40, Tryd.ntmps40
    go_wp2
    go_ret
    exact ⟨by rw [Hz.out, decide_eq_false (fun k => Hl.out (by rw [k]))]; rfl, Ext.refl w⟩

end Go.Proofs.YtdlhfihddipjaacDoor
