/-
  Contracts: slices.Equal at []uint64; of and awake of the package wittinglaw03.
-/
import Derived.Test.YtdlhfihddipjaaaPart4
namespace Go.Proofs.Ytdlhfihddipjaaa
open Go.RowKit

set_option maxHeartbeats 1000000 in
theorem equalS_yes (w : World) (v1 v2 : Value) (p : List Nat) (h : Sets w v1 p) (h' : Sets w v2 p) :
    Calls Try.prog 70 #[v1, v2] w fun e w' => e = .returned (.bool true) ∧ Ext w w' := by
  obtain ⟨A, c, rfl, hs, hf⟩ := h
  obtain ⟨A', c', rfl, hs', hf'⟩ := h'
  have hle := hs.le
  have hcap := hs.cap
  have hx0 := Ext.refl w
  go_enter Try.func70, Try.ntmps70
  go_wp2
  go_loopw [13] (fun i wr => ∃ k : Nat, k ≤ p.length ∧ i = .int .i64 k ∧ Ext w wr) (fun i _ => p.length - (intOf i).toNat)
  case atStart => exact ⟨0, Nat.zero_le _, rfl, hx0⟩
  case round =>
    obtain ⟨k, hk, rfl, hx⟩ := hrel
    by_cases hlt : k < p.length
    · obtain ⟨ad, rfl, hb, hc⟩ := (hs.ext hx).get hlt
      obtain ⟨ad', rfl, hb', hc'⟩ := (hs'.ext hx).get hlt
      go_wp2
      go_quiet (fail)
      go_wp2
      go_roundw
      case rel => exact ⟨k + 1, by omega, by go_num, hx.drewN _⟩
      case measure => simp [intOf]; omega
    · go_wp2
      go_ret
      exact ⟨rfl, hx⟩

set_option maxHeartbeats 1000000 in
theorem equalS_no (w : World) (v1 v2 : Value) (p q : List Nat) (h : Sets w v1 p) (h' : Sets w v2 q) (hne : p ≠ q) :
    Calls Try.prog 70 #[v1, v2] w fun e w' => e = .returned (.bool false) ∧ Ext w w' := by
  obtain ⟨A, c, rfl, hs, hf⟩ := h
  obtain ⟨A', c', rfl, hs', hf'⟩ := h'
  have hle := hs.le
  have hcap := hs.cap
  have hle' := hs'.le
  have hcap' := hs'.cap
  have hx0 := Ext.refl w
  by_cases hl : p.length = q.length
  · have Hl := Lib.hid hl
    clear hl
    have Hne := Lib.hid hne
    clear hne
    have t1 : ((p.length : Int) != (q.length : Int)) = false := by have := Hl.out; simp [this]
    go_enter Try.func70, Try.ntmps70
    go_wp2
    go_loopw [13] (fun i wr => ∃ k : Nat, k ≤ p.length ∧ i = .int .i64 k ∧ Ext w wr ∧ Hid (∀ j, j < k → nthN p j = nthN q j)) (fun i _ => p.length - (intOf i).toNat)
    case atStart => exact ⟨0, Nat.zero_le _, rfl, hx0, fun j h => absurd h (by omega)⟩
    case round =>
      obtain ⟨k, hk, rfl, hx, hsame⟩ := hrel
      by_cases hlt : k < p.length
      · obtain ⟨ad, rfl, hb, hc⟩ := (hs.ext hx).get hlt
        obtain ⟨ad', rfl, hb', hc'⟩ := (hs'.ext hx).get (i := k) (by have := Hl.out; omega)
        have hkq : k < q.length := by have := Hl.out; omega
        by_cases he : nthN p k = nthN q k
        · have t2 : ((nthN p k : Int) != (nthN q k : Int)) = false := by simp [he]
          have He := Lib.hid he
          clear he
          go_wp2
          go_quiet (fail)
          go_wp2
          go_roundw
          case rel => exact ⟨k + 1, by omega, by go_num, hx.drewN _, fun j hj => by
            by_cases e : j = k
            · rw [e]; exact He.out
            · exact hsame.out j (by omega)⟩
          case measure => simp [intOf]; omega
        · have t2 : ((nthN p k : Int) != (nthN q k : Int)) = true := by rw [bne_iff_ne]; omega
          clear he
          go_wp2
          go_quiet (fail)
          go_wp2
          go_ret
          exact ⟨rfl, hx.drewN _⟩
      · exact absurd (ext_nthN Hl.out fun j hj => hsame.out j (by omega)) Hne.out
  · have t1 : ((p.length : Int) != (q.length : Int)) = true := by rw [bne_iff_ne]; omega
    clear hl
    go_enter Try.func70, Try.ntmps70
    go_wp2
    go_ret
    exact ⟨rfl, hx0⟩

/-- The partition that 'of' makes of keys. -/
def ofKeys (keys : List Int) : List Int := pDiv keys.length (upTo keys.length fun _ => 0) keys
theorem ofKeys_len (keys : List Int) : (ofKeys keys).length = keys.length := pDiv_len _ _ _
theorem ofKeys_ok (keys : List Int) : pOk (ofKeys keys) := pDiv_ok _ _ _
theorem zeros_ok (n : Nat) : pOk (upTo n fun _ => 0) := fun i hi => by
  rw [upTo_len] at hi
  exact ⟨by rw [upTo_nth hi]; omega, by rw [upTo_nth hi]; omega, by rw [upTo_nth hi]; exact upTo_nth (by show (0 : Int).toNat < n; simp; omega)⟩

set_option maxHeartbeats 1000000 in
theorem of_any (w : World) (v : Value) (keys : List Int) (h : Ints .i64 w v keys) (h64 : keys.length ≤ 64) :
    Calls Try.prog 15 #[v] w fun e w' => ∃ v', e = .returned (.tuple #[v', .bool true]) ∧ Ints .i64 w' v' (ofKeys keys) ∧ Ext w w' := by
  have C1 := Lib.hid (trivial_ok w keys.length h64)
  have H := h
  have hH := Lib.hid H
  clear H
  obtain ⟨A, c, rfl, hs, hf⟩ := h
  have hle := hs.le
  have hcap := hs.cap
  clear hs hf
  go_enter Try.func15, Try.ntmps15
  go_wp2_with fail
  refine C1.out.mono ?_
  rintro e w1 ⟨v1, rfl, hv1, hx1⟩
  have C2 := Lib.hid (split_ok w1 v1 _ _ keys hv1 (hH.out.ext hx1) (upTo_len _ _) (by rw [upTo_len]; exact h64) (zeros_ok _))
  go_wp2_with fail
  refine C2.out.mono ?_
  rintro e w2 ⟨v2, rfl, hv2, hx2⟩
  rw [upTo_len] at hv2
  have hl : (pDiv keys.length (upTo keys.length fun _ => 0) keys).length = keys.length := pDiv_len _ _ _
  obtain ⟨A2, c2, rfl, hs2, hf2⟩ := hv2
  have hr : Ints .i64 w2 (.slice A2 (pDiv keys.length (upTo keys.length fun _ => 0) keys).length c2) (ofKeys keys) := ⟨A2, c2, rfl, hs2, hf2⟩
  have Hr := Lib.hid hr
  clear hr hs2 hf2
  rw [hl] at Hr
  rw [hl]
  go_wp2
  go_ret2
  exact ⟨_, rfl, Hr.out, hx1.trans hx2⟩

end Go.Proofs.Ytdlhfihddipjaaa
