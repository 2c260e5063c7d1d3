/-
  The doors: math/bits.TrailingZeros64, the check of a model.
-/
import Derived.Test.YtdlhfihddipjaacDoorGm1
import Derived.OwnWalk
namespace Go.Proofs.YtdlhfihddipjaacDoor
open Go.RowKit

def deBs : List Nat := [0, 1, 56, 2, 57, 49, 28, 3, 61, 58, 42, 50, 38, 29, 17, 4, 62, 47, 59, 36, 45, 43, 51, 22, 53, 39, 33, 30, 24, 18, 12, 5, 63, 55, 48, 27, 60, 41, 37, 16, 46, 35, 44, 21, 52, 32, 23, 11, 54, 26, 40, 15, 34, 20, 31, 10, 25, 14, 19, 9, 13, 8, 7, 6]
def deB (i : Nat) : Nat := deBs.getD i 0
/-- The library's table lies in memory as its initialiser lays it. -/
def DeB (w : World) : Prop := 1 < w.heap.size ∧ ∀ i, i < 64 → w.cell? ⟨1, i, none⟩ = some (.int .u8 (deB i : Nat))
theorem DeB.ext {w w1 : World} (h : DeB w) (k : Ext w w1) : DeB w1 := ⟨Nat.lt_of_lt_of_le h.1 k.size, fun i hi => (k.cell (p := ⟨1, i, none⟩) h.1).trans (h.2 i hi)⟩
theorem deB_at : ∀ v, v < 64 → (2 ^ v * 285870213051353865 % 18446744073709551616) / 288230376151711744 < 64 ∧ deB ((2 ^ v * 285870213051353865 % 18446744073709551616) / 288230376151711744) = v := by
  decide +kernel
theorem u64_neg {x : Nat} (h0 : x ≠ 0) (hx : x < 18446744073709551616) : IntKind.u64.wrap (-(x : Int)) = ((18446744073709551616 - x : Nat) : Int) := by
  rw [IntKind.wrap_u64]; omega
theorem u64_mulc (p : Nat) : IntKind.u64.wrap ((p : Int) * 285870213051353865) = ((p * 285870213051353865 % 18446744073709551616 : Nat) : Int) := by
  rw [IntKind.wrap_u64]; omega
theorem shr58 (q : Nat) : (q : Int) / 288230376151711744 = ((q / 288230376151711744 : Nat) : Int) := by omega

set_option maxRecDepth 100000 in
set_option maxHeartbeats 2000000 in
theorem tz_ok (w : World) (x v : Nat) (hD : DeB w) (hx : x < 18446744073709551616) (h0 : x ≠ 0) (hb : x.testBit v = true) (hl : ∀ j, j < v → x.testBit j = false) :
    Calls Tryd.prog 36 #[.int .u64 x] w fun e w' => e = .returned (.int .i64 (v : Nat)) ∧ Ext w w' := by
  have hv : v < 64 := Classical.byContradiction fun hn => by
    rw [lt_pow_iff.1 (show x < 2 ^ 64 from hx) v (by omega)] at hb; exact absurd hb (by decide)
  have hn := u64_neg h0 hx
  have ha := u64_and x (18446744073709551616 - x) hx (by omega)
  rw [show x &&& (18446744073709551616 - x) = 2 ^ v from low_and hx h0 hb hl] at ha
  obtain ⟨hi, hd⟩ := deB_at v hv
  obtain ⟨p, hp⟩ : ∃ p, p = 2 ^ v := ⟨_, rfl⟩
  rw [← hp] at ha hi hd
  have hm := u64_mulc p
  obtain ⟨q, hq⟩ : ∃ q, q = p * 285870213051353865 % 18446744073709551616 := ⟨_, rfl⟩
  rw [← hq] at hm hi hd
  have hs := shr58 q
  obtain ⟨i, hie⟩ : ∃ i, i = q / 288230376151711744 := ⟨_, rfl⟩
  rw [← hie] at hs hi hd
  have hc := hD.2 i hi
  rw [hd] at hc
  obtain ⟨y, hy⟩ : ∃ y, y = 18446744073709551616 - x := ⟨_, rfl⟩
  rw [← hy] at hn ha
  have t0 : ((x : Int) == 0) = false := by rw [beq_eq_false_iff_ne]; omega
  have hii : (i : Int) < 64 := by omega
  clear hp hq hie hd hy hb hl h0 hD
  go_enter Tryd.func36, Tryd.ntmps36
  go_wp2
  go_ret
  exact ⟨rfl, Ext.refl _⟩

set_option maxHeartbeats 1000000 in
theorem mall_ok (w : World) (n : Nat) (hn : n ≤ 64) : Calls Tryd.prog 35 #[.int .i64 n] w fun e w' => e = .returned (.int .u64 (full n : Nat)) ∧ w = w' := by
  by_cases h : n = 64
  · subst h
    go_enter Tryd.func35, Tryd.ntmps35
    go_wp2
    go_ret
    exact ⟨by kernel_rfl, rfl⟩
  · have t : decide ((64 : Int) ≤ (n : Int)) = false := by rw [decide_eq_false_iff_not]; omega
    have tn : decide (64 ≤ n) = false := by rw [decide_eq_false_iff_not]; omega
    have hw := u64_wrap_pow n (by omega)
    have h3 := u64_full n (by omega)
    rw [hw] at h3
    obtain ⟨M, hM⟩ : ∃ M, M = 2 ^ n := ⟨_, rfl⟩
    obtain ⟨f, hf⟩ : ∃ f, f = full n := ⟨_, rfl⟩
    rw [← hM, ← hf] at h3
    rw [← hM] at hw
    rw [← hf]
    clear hM hf
    go_enter Tryd.func35, Tryd.ntmps35
    go_wp2
    go_ret
    exact ⟨by first | rfl | (rw [h3]; rfl), rfl⟩

section
variable {g : Nat} {c : Value}
set_option maxRecDepth 100000 in
set_option maxHeartbeats 1000000 in
theorem idxS_no (w : World) (v : Value) (p : List Nat) (h : Sets w v p) (hcf : ∀ (a : Array Value) (w : World), (callFunc g a).run Tryd.prog w = .ok (.enter g a) w) (hQ : ∀ i, i < p.length → Calls Tryd.prog g #[.int .u64 (nthN p i : Nat), c] w fun e w' => e = .returned (.bool false) ∧ w = w') :
    Calls Tryd.prog 69 #[v, .func (.func g) #[] #[c]] w fun e w' => e = .returned (.int .i64 (-1)) ∧ w = w' := by
  obtain ⟨A, cc, rfl, hs, hf⟩ := h
  have hle := hs.le
  have hcap := hs.cap
  have HQ := Lib.hid hQ
  clear hQ
  go_enter Tryd.func69, Tryd.ntmps69
  go_wp2
  go_loop [8] (fun i => ∃ k : Nat, k ≤ p.length ∧ i = .int .i64 k) (fun i => p.length - (intOf i).toNat)
  case atStart => exact ⟨0, Nat.zero_le _, rfl⟩
  case round =>
    obtain ⟨k, hk, rfl⟩ := hrel
    by_cases hlt : k < p.length
    · obtain ⟨ad, rfl, hb, hc⟩ := hs.get hlt
      go_wp2_with fail
      refine (HQ.out k hlt).mono ?_
      rintro e w1 ⟨rfl, rfl⟩
      go_wp2
      go_round
      case rel => exact ⟨k + 1, by omega, by go_num⟩
      case measure => simp [intOf]; omega
    · go_wp2
      go_ret
      exact ⟨rfl, rfl⟩
set_option maxRecDepth 100000 in
set_option maxHeartbeats 1000000 in
theorem contS_no (w : World) (v : Value) (p : List Nat) (h : Sets w v p) (hcf : ∀ (a : Array Value) (w : World), (callFunc g a).run Tryd.prog w = .ok (.enter g a) w) (hQ : ∀ i, i < p.length → Calls Tryd.prog g #[.int .u64 (nthN p i : Nat), c] w fun e w' => e = .returned (.bool false) ∧ w = w') :
    Calls Tryd.prog 47 #[v, .func (.func g) #[] #[c]] w fun e w' => e = .returned (.bool false) ∧ w = w' := by
  have C := Lib.hid (idxS_no w v p h hcf hQ)
  clear h hcf hQ
  go_enter Tryd.func47, Tryd.ntmps47
  go_wp2_with fail
  refine C.out.mono ?_
  rintro e w1 ⟨rfl, rfl⟩
  go_wp2
  go_ret
  exact ⟨rfl, rfl⟩
set_option maxRecDepth 100000 in
set_option maxHeartbeats 1000000 in
theorem idxR_no (w : World) (v : Value) (p : List (List Nat)) (h : SRows w v p) (hcf : ∀ (a : Array Value) (w : World), (callFunc g a).run Tryd.prog w = .ok (.enter g a) w) (hQ : ∀ w1 v1 i, Ext w w1 → i < p.length → Sets w1 v1 (nthR p i) → Calls Tryd.prog g #[v1, c] w1 fun e w' => e = .returned (.bool false) ∧ Ext w1 w') :
    Calls Tryd.prog 71 #[v, .func (.func g) #[] #[c]] w fun e w' => e = .returned (.int .i64 (-1)) ∧ Ext w w' := by
  have H := Lib.hid h
  obtain ⟨A, cc, vs, rfl, hs, _⟩ := h
  have hle := hs.le
  have hcap := hs.cap
  have HQ := Lib.hid hQ
  clear hQ hs
  go_enter Tryd.func71, Tryd.ntmps71
  go_wp2
  go_loopw [8] (fun i wr => ∃ k : Nat, k ≤ p.length ∧ i = .int .i64 k ∧ Ext w wr) (fun i _ => p.length - (intOf i).toNat)
  case atStart => exact ⟨0, Nat.zero_le _, rfl, Ext.refl _⟩
  case round =>
    obtain ⟨k, hk, rfl, hx⟩ := hrel
    by_cases hlt : k < p.length
    · obtain ⟨ad, A', c', rfl, hb, hce, hle', hcap', hS⟩ := (H.out.ext hx).get hlt
      have CQ := Lib.hid (HQ.out _ _ k hx hlt hS)
      go_wp2_with fail
      refine CQ.out.mono ?_
      rintro e w1 ⟨rfl, hy⟩
      go_wp2
      go_roundw
      case rel => exact ⟨k + 1, by omega, by go_num, hx.trans hy⟩
      case measure => simp [intOf]; omega
    · go_wp2
      go_ret
      exact ⟨rfl, hx⟩
set_option maxRecDepth 100000 in
set_option maxHeartbeats 1000000 in
theorem contR_no (w : World) (v : Value) (p : List (List Nat)) (h : SRows w v p) (hcf : ∀ (a : Array Value) (w : World), (callFunc g a).run Tryd.prog w = .ok (.enter g a) w) (hQ : ∀ w1 v1 i, Ext w w1 → i < p.length → Sets w1 v1 (nthR p i) → Calls Tryd.prog g #[v1, c] w1 fun e w' => e = .returned (.bool false) ∧ Ext w1 w') :
    Calls Tryd.prog 59 #[v, .func (.func g) #[] #[c]] w fun e w' => e = .returned (.bool false) ∧ Ext w w' := by
  have C := Lib.hid (idxR_no w v p h hcf hQ)
  clear h hcf hQ
  go_enter Tryd.func59, Tryd.ntmps59
  go_wp2_with fail
  refine C.out.mono ?_
  rintro e w1 ⟨rfl, hy⟩
  go_wp2
  go_ret
  exact ⟨rfl, hy⟩
end

set_option maxHeartbeats 1000000 in
theorem outClosure (w : World) (g n x : Nat) (hn : n ≤ 64) (hc : w.cell? ⟨g, 0, none⟩ = some (.int .i64 n)) (hx : x < 2 ^ n) :
    Calls Tryd.prog 70 #[.int .u64 x, .pointer (some ⟨g, 0, none⟩)] w fun e w' => e = .returned (.bool false) ∧ w = w' := by
  have C := Lib.hid (mall_ok w n hn)
  have h64 : 2 ^ n ≤ 18446744073709551616 := Nat.pow_le_pow_right (n := 2) (by omega) hn
  have ha := u64_andNot x (full n) (by omega) (full_lt64 hn)
  rw [sdiff_full.2 hx] at ha
  obtain ⟨f, hf⟩ : ∃ f, f = full n := ⟨_, rfl⟩
  rw [← hf] at C ha
  clear hf hx h64
  go_enter Tryd.func70, Tryd.ntmps70
  go_wp2_with fail
  refine C.out.mono ?_
  rintro e w1 ⟨rfl, rfl⟩
  go_wp2
  go_ret
  exact ⟨rfl, rfl⟩
set_option maxRecDepth 100000 in
set_option maxHeartbeats 1000000 in
theorem outside_no (w : World) (v : Value) (p : List Nat) (n : Nat) (hn : n ≤ 64) (h : Sets w v p) (hp : ∀ i, i < p.length → nthN p i < 2 ^ n) :
    Calls Tryd.prog 58 #[v, .int .i64 n] w fun e w' => e = .returned (.bool false) ∧ Ext w w' := by
  have hH : ∀ w1 : World, Ext w w1 → ∀ g, w1.cell? ⟨g, 0, none⟩ = some (.int .i64 n) → Calls Tryd.prog 47 #[v, .func (.func 70) #[] #[.pointer (some ⟨g, 0, none⟩)]] w1 fun e w' => e = .returned (.bool false) ∧ w1 = w' :=
    fun w1 hx g hc => contS_no w1 v p (h.ext hx) (fun _ _ => by kernel_rfl) fun i hi => outClosure w1 g n _ hn hc (hp i hi)
  have HH := Lib.hid hH
  obtain ⟨A, c, rfl, _, _⟩ := h
  clear hH hp
  have hx0 := (Ext.refl w).alloc (.cells #[.int .i64 n] 3)
  have hc0 : (w.alloc (.cells #[.int .i64 n] 3)).cell? ⟨w.heap.size, 0, none⟩ = some (.int .i64 n) := cell_of_row _ _ _ _ _ _ (heap_alloc_new w (.cells #[.int .i64 n] 3))
  go_enter Tryd.func58, Tryd.ntmps58
  go_wp2_with fail
  refine (HH.out _ hx0 _ hc0).mono ?_
  rintro e w1 ⟨rfl, rfl⟩
  go_wp2
  go_ret
  exact ⟨rfl, hx0⟩
set_option maxHeartbeats 1000000 in
theorem chkClosure (w : World) (v : Value) (p : List Nat) (g n : Nat) (hn : n ≤ 64) (h : Sets w v p) (hp : ∀ i, i < p.length → nthN p i < 2 ^ n) (hc : w.cell? ⟨g, 0, none⟩ = some (.int .i64 n)) :
    Calls Tryd.prog 60 #[v, .pointer (some ⟨g, 0, none⟩)] w fun e w' => e = .returned (.bool false) ∧ Ext w w' := by
  have C := Lib.hid (outside_no w v p n hn h hp)
  obtain ⟨A, c, rfl, _, _⟩ := h
  clear hp
  go_enter Tryd.func60, Tryd.ntmps60
  go_wp2_with fail
  refine C.out.mono ?_
  rintro e w1 ⟨rfl, hy⟩
  go_wp2
  go_ret
  exact ⟨rfl, hy⟩

end Go.Proofs.YtdlhfihddipjaacDoor
