/-
  Contracts of the package postulates: Revision.
-/
import Derived.Test.YtdlhfihddipjaacDoorTg4
namespace Go.Proofs.YtdlhfihddipjaacDoor
open Go.RowKit

theorem i64_or6 : ∀ a, a < 64 → ∀ i, i < 6 → bits .or .i64 ((a : Nat) : Int) (wrap64 (2 ^ i)) = ((a ||| 2 ^ i : Nat) : Int) := by
  decide +kernel
theorem mask_succ (P : Nat → Bool) (i : Nat) : maskTo P (i + 1) = if P i then maskTo P i ||| 2 ^ i else maskTo P i := by
  rw [maskTo_succ]; split <;> simp_all
theorem mask_64 (P : Nat → Bool) {i : Nat} (hi : i ≤ 6) : maskTo P i < 64 := Nat.lt_of_lt_of_le (maskTo_lt P i) (Nat.pow_le_pow_right (n := 2) (by omega) hi)

set_option maxRecDepth 100000 in
set_option maxHeartbeats 4000000 in
theorem revision_ok (w : World) (v : Value) (T : List Nat) (m k : Nat) (hG : RevG w) (hm : m ≤ 3) (h : Sets w v T) (hl : T.length = 2 ^ 2 ^ m) (ht : ∀ i, i < T.length → nthN T i < 2 ^ 2 ^ m) (hk : k < 2 ^ 2 ^ m) :
    Calls Tryd.prog 8 #[.int .i64 m, .int .u64 k, v] w fun e w' => ∃ a b : Nat, e = .returned (.tuple #[.int .i64 (pMask (2 ^ 2 ^ m) k (nthN T) : Nat), .int .u64 a, .int .u64 b, .int .i64 0]) ∧ Ext w w' := by
  have hM := pow_small3 hm
  have HC : Hid (∀ w1 : World, Calls Tryd.prog 23 #[.int .i64 m] w1 fun e w' => e = .returned (.int .i64 (2 ^ 2 ^ m : Nat)) ∧ w1 = w') := fun w1 => sets_ok w1 m hm
  have HT : Hid (∀ w1, Ext w w1 → Calls Tryd.prog 24 #[.int .i64 m, v] w1 fun e w' => e = .returned (.int .i64 0) ∧ Ext w1 w') := fun w1 hx => table_ok w1 v m T (h.ext hx) hm hl ht
  have HF : Hid (∀ w1 i, Ext w w1 → i < 6 → Calls Tryd.prog 25 #[.int .i64 (i : Nat), .int .i64 m, .int .u64 k, v] w1 fun e w' => ∃ a b : Nat, e = .returned (.tuple #[.int .u64 a, .int .u64 b, .bool (!pHolds (2 ^ 2 ^ m) k (nthN T) i)]) ∧ Ext w1 w') := fun w1 i hx hi =>
    failure_ok w1 v T m k i (hG.ext hx) hi hm (h.ext hx) hl (by omega)
  have HG2 : Hid (∀ w1, Ext w w1 → ∃ ad cap, w1.cell? ⟨0, 0, none⟩ = some (.slice (some ad) 6 cap)) := fun w1 hx => by
    obtain ⟨ad, cap, h1, _⟩ := hG.ext hx
    exact ⟨ad, cap, h1⟩
  unfold pMask
  obtain ⟨P, hP⟩ : ∃ P, P = pHolds (2 ^ 2 ^ m) k (nthN T) := ⟨_, rfl⟩
  rw [← hP] at HF ⊢
  obtain ⟨S, hS⟩ : ∃ S, S = 2 ^ 2 ^ m := ⟨_, rfl⟩
  rw [← hS] at HC hM hk
  have hcv := u64_wrap_small S (by omega)
  have t1 : decide ((m : Int) < 0) = false := by rw [decide_eq_false_iff_not]; omega
  have t2 : decide ((3 : Int) < (m : Int)) = false := by rw [decide_eq_false_iff_not]; omega
  have t2n : decide (3 < m) = false := by rw [decide_eq_false_iff_not]; omega
  have t3 : decide ((S : Int) ≤ (k : Int)) = false := by rw [decide_eq_false_iff_not]; omega
  have t3n : decide (S ≤ k) = false := by rw [decide_eq_false_iff_not]; omega
  obtain ⟨adg, capg, g0⟩ := HG2.out w (Ext.refl w)
  clear hS hP h hl ht hG
  go_enter Tryd.func8, Tryd.ntmps8
  go_wp2_with fail
  refine (HC.out _).mono ?_
  rintro x w1 ⟨rfl, rfl⟩
  go_wp2_with fail
  refine (HT.out _ (Ext.refl _)).mono ?_
  rintro x w2 ⟨rfl, hy2⟩
  obtain ⟨adg, capg, g0⟩ := HG2.out w2 hy2
  go_wp2
  go_loopw [11, 12, 13, 14, 40] (fun ms fi a b v wr => ∃ i : Nat, i ≤ 6 ∧ v = .int .i64 i ∧ ms = .int .i64 (maskTo P i : Nat) ∧ (∃ bo : Bool, fi = .bool bo) ∧ (∃ a' : Nat, a = .int .u64 a') ∧ (∃ b' : Nat, b = .int .u64 b') ∧ Ext w wr) (fun _ _ _ _ v _ => 6 - (intOf v).toNat)
  case atStart => exact ⟨0, Nat.zero_le _, rfl, rfl, ⟨_, rfl⟩, ⟨0, rfl⟩, ⟨0, rfl⟩, hy2⟩
  case round =>
    obtain ⟨i, hi, rfl, rfl, ⟨bo, rfl⟩, ⟨a', rfl⟩, ⟨b', rfl⟩, hxr⟩ := hrel
    by_cases hlt : i < 6
    · have CF := Lib.hid (HF.out wr i hxr hlt)
      have hor := i64_or6 (maskTo P i) (mask_64 P hi) i hlt
      have hs := mask_succ P i
      obtain ⟨mi, hmi⟩ : ∃ n, n = maskTo P i := ⟨_, rfl⟩
      obtain ⟨mo, hmo⟩ : ∃ n, n = mi ||| 2 ^ i := ⟨_, rfl⟩
      rw [← hmi, ← hmo] at hor hs
      obtain ⟨p, hp⟩ : ∃ b, b = P i := ⟨_, rfl⟩
      rw [← hp] at CF hs
      rw [← hmi]
      have Hs := Lib.hid hs
      clear hmi hmo hp hs
      go_wp2_with fail
      refine CF.out.mono ?_
      rintro x w3 ⟨a2, b2, rfl, hy3⟩
      have hx3 := hxr.trans hy3
      cases p with
      | true =>
        go_wp2
        go_roundw
        case rel => exact ⟨i + 1, by omega, by go_num, by rw [Hs.out]; rfl, ⟨_, rfl⟩, ⟨_, rfl⟩, ⟨_, rfl⟩, hx3⟩
        case measure => simp [intOf]; omega
      | false =>
        cases bo with
        | true =>
          go_wp2
          go_roundw
          case rel => exact ⟨i + 1, by omega, by go_num, by rw [Hs.out]; rfl, ⟨_, rfl⟩, ⟨_, rfl⟩, ⟨_, rfl⟩, hx3⟩
          case measure => simp [intOf]; omega
        | false =>
          go_wp2
          go_roundw
          case rel => exact ⟨i + 1, by omega, by go_num, by rw [Hs.out]; rfl, ⟨_, rfl⟩, ⟨_, rfl⟩, ⟨_, rfl⟩, hx3⟩
          case measure => simp [intOf]; omega
    · obtain rfl : i = 6 := by omega
      go_wp2
      refine bodyPost_ret (v := .tuple #[.int .i64 (maskTo P 6 : Nat), .int .u64 a', .int .u64 b', .int .i64 0]) (by simp [results, Tryd.results8, go_sem]) rfl ⟨a', b', rfl, hxr⟩

end Go.Proofs.YtdlhfihddipjaacDoor
