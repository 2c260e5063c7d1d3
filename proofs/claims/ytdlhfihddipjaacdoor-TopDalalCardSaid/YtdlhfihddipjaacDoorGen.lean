/-
  What the ranking texts need of lists, bits and slices.ContainsFunc, of no other package of the program.
-/
import Derived.Test.YtdlhfihddipjaacDoorProg
import Derived.Test.YtdlhfihddipjaacDoorWords
import Derived.Test.YtdlhfihddipjaacDoorBits2
import Derived.Outline
import Derived.KernelRfl
import Derived.BigQuiet
import Derived.Deep.RegionLaw
namespace Go.Proofs.YtdlhfihddipjaacDoor
open Go.RowKit

theorem Tryd.infoInt : (Tryd.prog.info? 3).map (fun i => (i.zero, i.size, i.bytes)) = some (some (.int .i64 0), 1, 8) := by kernel_rfl

section
variable {g : Nat} {Q : Int → Bool}

set_option maxRecDepth 100000 in
set_option maxHeartbeats 1000000 in
theorem indexFunc_no (w : World) (v : Value) (p : List Int) (h : Ints .i64 w v p) (hcf : ∀ (a : Array Value) (w : World), (callFunc g a).run Tryd.prog w = .ok (.enter g a) w) (hQ : ∀ (x : Int) (w : World), Calls Tryd.prog g #[.int .i64 x] w fun e w' => e = .returned (.bool (Q x)) ∧ w = w') (hno : ∀ i, i < p.length → Q (nth p i) = false) :
    Calls Tryd.prog 73 #[v, .func (.func g) #[] #[]] w fun e w' => e = .returned (.int .i64 (-1)) ∧ w = w' := by
  obtain ⟨A, c, rfl, hs, hf⟩ := h
  have hle := hs.le
  have hcap := hs.cap
  have HQ := Lib.hid hQ
  have Hno := Lib.hid hno
  clear hQ hno
  go_enter Tryd.func73, Tryd.ntmps73
  go_wp2
  go_loop [8] (fun i => ∃ k : Nat, k ≤ p.length ∧ i = .int .i64 k) (fun i => p.length - (intOf i).toNat)
  case atStart => exact ⟨0, Nat.zero_le _, rfl⟩
  case round =>
    obtain ⟨k, hk, rfl⟩ := hrel
    by_cases hlt : k < p.length
    · obtain ⟨ad, rfl, hb, hc⟩ := hs.get hlt
      go_wp2_with fail
      refine (HQ.out (nth p k) w).mono ?_
      rintro e w1 ⟨rfl, rfl⟩
      rw [Hno.out k hlt]
      go_wp2
      go_round
      case rel => exact ⟨k + 1, by omega, by go_num⟩
      case measure => simp [intOf]; omega
    · go_wp2
      go_ret
      exact ⟨rfl, rfl⟩

set_option maxRecDepth 100000 in
set_option maxHeartbeats 1000000 in
theorem indexFunc_yes (w : World) (v : Value) (p : List Int) (h : Ints .i64 w v p) (hcf : ∀ (a : Array Value) (w : World), (callFunc g a).run Tryd.prog w = .ok (.enter g a) w) (hQ : ∀ (x : Int) (w : World), Calls Tryd.prog g #[.int .i64 x] w fun e w' => e = .returned (.bool (Q x)) ∧ w = w') (hyes : ∃ i, i < p.length ∧ Q (nth p i) = true) :
    Calls Tryd.prog 73 #[v, .func (.func g) #[] #[]] w fun e w' => ∃ i : Nat, e = .returned (.int .i64 i) ∧ w = w' := by
  obtain ⟨A, c, rfl, hs, hf⟩ := h
  have hle := hs.le
  have hcap := hs.cap
  have HQ := Lib.hid hQ
  have Hyes := Lib.hid hyes
  clear hQ hyes
  go_enter Tryd.func73, Tryd.ntmps73
  go_wp2
  go_loop [8] (fun i => ∃ k : Nat, k ≤ p.length ∧ i = .int .i64 k ∧ Hid (∀ j, j < k → Q (nth p j) = false)) (fun i => p.length - (intOf i).toNat)
  case atStart => exact ⟨0, Nat.zero_le _, rfl, fun j hj => absurd hj (by omega)⟩
  case round =>
    obtain ⟨k, hk, rfl, hgo⟩ := hrel
    by_cases hlt : k < p.length
    · obtain ⟨ad, rfl, hb, hc⟩ := hs.get hlt
      go_wp2_with fail
      refine (HQ.out (nth p k) w).mono ?_
      rintro e w1 ⟨rfl, rfl⟩
      cases hq : Q (nth p k) with
      | true =>
        clear hq
        go_wp2
        go_ret
        exact ⟨k, rfl, rfl⟩
      | false =>
        have Hq := Lib.hid hq
        clear hq
        go_wp2
        go_round
        case rel => exact ⟨k + 1, by omega, by go_num, fun j hj => by
          by_cases e : j = k
          · rw [e]; exact Hq.out
          · exact hgo.out j (by omega)⟩
        case measure => simp [intOf]; omega
    · obtain ⟨i, hi, hq⟩ := Hyes.out
      rw [hgo.out i (by omega)] at hq
      cases hq

set_option maxRecDepth 100000 in
set_option maxHeartbeats 1000000 in
theorem containsFunc_no (w : World) (v : Value) (p : List Int) (h : Ints .i64 w v p) (hcf : ∀ (a : Array Value) (w : World), (callFunc g a).run Tryd.prog w = .ok (.enter g a) w) (hQ : ∀ (x : Int) (w : World), Calls Tryd.prog g #[.int .i64 x] w fun e w' => e = .returned (.bool (Q x)) ∧ w = w') (hno : ∀ i, i < p.length → Q (nth p i) = false) :
    Calls Tryd.prog 67 #[v, .func (.func g) #[] #[]] w fun e w' => e = .returned (.bool false) ∧ w = w' := by
  have C := Lib.hid (indexFunc_no w v p h hcf hQ hno)
  clear h hcf hQ hno
  go_enter Tryd.func67, Tryd.ntmps67
  go_wp2_with fail
  refine C.out.mono ?_
  rintro e w1 ⟨rfl, rfl⟩
  go_wp2
  go_ret
  exact ⟨rfl, rfl⟩
set_option maxRecDepth 100000 in
set_option maxHeartbeats 1000000 in
theorem containsFunc_yes (w : World) (v : Value) (p : List Int) (h : Ints .i64 w v p) (hcf : ∀ (a : Array Value) (w : World), (callFunc g a).run Tryd.prog w = .ok (.enter g a) w) (hQ : ∀ (x : Int) (w : World), Calls Tryd.prog g #[.int .i64 x] w fun e w' => e = .returned (.bool (Q x)) ∧ w = w') (hyes : ∃ i, i < p.length ∧ Q (nth p i) = true) :
    Calls Tryd.prog 67 #[v, .func (.func g) #[] #[]] w fun e w' => e = .returned (.bool true) ∧ w = w' := by
  have C := Lib.hid (indexFunc_yes w v p h hcf hQ hyes)
  clear h hcf hQ hyes
  go_enter Tryd.func67, Tryd.ntmps67
  go_wp2_with fail
  refine C.out.mono ?_
  rintro e w1 ⟨i, rfl, rfl⟩
  have t : decide ((0 : Int) ≤ (i : Int)) = true := by simp
  go_wp2
  go_ret
  exact ⟨rfl, rfl⟩
end

/-- Valid ranks of the valuations of 'm' facts. -/
def Ranks (m : Nat) (r : List Int) : Prop := r.length = 2 ^ m ∧ ∀ i, i < r.length → 0 ≤ nth r i ∧ nth r i ≤ 1000
def RevOk (n : Int) (r : List Int) : Prop := ∃ m : Nat, n = m ∧ m ≤ 4 ∧ Ranks m r
def outOf (x : Int) : Bool := decide (x < 0) || decide (1000 < x)

theorem pow_small {m : Nat} (h : m ≤ 4) : 2 ^ m ≤ 16 := Nat.pow_le_pow_right (n := 2) (by omega) h

theorem full_mask (n : Nat) : full n = maskTo (fun _ => true) n := by
  refine Nat.eq_of_testBit_eq fun j => ?_
  rw [full_bit, maskTo_bit, Bool.and_true]

theorem wrapu_pow (n : Nat) (h : n ≤ 4) : IntKind.u64.wrap (2 ^ n) = ((2 ^ n : Nat) : Int) := u64_wrap_pow n (by omega)

theorem own_ext {w w1 : World} {base : Nat} {e : TypeId} {size : Nat} {v : Value} {n : Nat} {xs : List Value} (h : w.ownsRow base e size v n xs) (k : Ext w w1) : w1.ownsRow base e size v n xs := by
  obtain ⟨h1, h2⟩ := h
  refine ⟨h1, ?_⟩
  rcases h2 with h2 | ⟨g, cap, cur, hv, hg, hh, r⟩
  · exact .inl h2
  · exact .inr ⟨g, cap, cur, hv, hg, (k.block g (Array.getElem?_eq_some_iff.1 hh).1).trans hh, r⟩

theorem shr_ne (s n : Nat) : ((s : Int) / 2 ^ n != 0) = decide (2 ^ n ≤ s) := by
  have e : (s : Int) / 2 ^ n = ((s / 2 ^ n : Nat) : Int) := by simp
  rw [e]
  by_cases h : 2 ^ n ≤ s
  · have : 0 < s / 2 ^ n := Nat.div_pos h (Nat.two_pow_pos n)
    simp [h]; omega
  · have : s / 2 ^ n = 0 := Nat.div_eq_of_lt (by omega)
    simp [h, this]

end Go.Proofs.YtdlhfihddipjaacDoor
