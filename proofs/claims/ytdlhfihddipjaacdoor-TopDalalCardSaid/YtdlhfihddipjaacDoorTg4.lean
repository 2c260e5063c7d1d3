/-
  Contracts of the package postulates: failure, Revision.
-/
import Derived.Test.YtdlhfihddipjaacDoorTg3
namespace Go.Proofs.YtdlhfihddipjaacDoor
open Go.RowKit

/-- The functions of the table of postulates. -/
def pfn : Nat → Nat
  | 0 => 90
  | 1 => 91
  | 2 => 92
  | 3 => 93
  | 4 => 94
  | _ => 95
theorem pfn_call {i : Nat} (hi : i < 6) (a : Array Value) (w : World) : (callFunc (pfn i) a).run Tryd.prog w = .ok (.enter (pfn i) a) w := by
  have h1 : ∀ (a : Array Value) (w : World), (callFunc 90 a).run Tryd.prog w = .ok (.enter 90 a) w := fun _ _ => by kernel_rfl
  have h2 : ∀ (a : Array Value) (w : World), (callFunc 91 a).run Tryd.prog w = .ok (.enter 91 a) w := fun _ _ => by kernel_rfl
  have h3 : ∀ (a : Array Value) (w : World), (callFunc 92 a).run Tryd.prog w = .ok (.enter 92 a) w := fun _ _ => by kernel_rfl
  have h4 : ∀ (a : Array Value) (w : World), (callFunc 93 a).run Tryd.prog w = .ok (.enter 93 a) w := fun _ _ => by kernel_rfl
  have h5 : ∀ (a : Array Value) (w : World), (callFunc 94 a).run Tryd.prog w = .ok (.enter 94 a) w := fun _ _ => by kernel_rfl
  have h6 : ∀ (a : Array Value) (w : World), (callFunc 95 a).run Tryd.prog w = .ok (.enter 95 a) w := fun _ _ => by kernel_rfl
  have h : i = 0 ∨ i = 1 ∨ i = 2 ∨ i = 3 ∨ i = 4 ∨ i = 5 := by omega
  rcases h with rfl | rfl | rfl | rfl | rfl | rfl
  · exact h1 a w
  · exact h2 a w
  · exact h3 a w
  · exact h4 a w
  · exact h5 a w
  · exact h6 a w
theorem post_any (w : World) (v : Value) (T : List Nat) (k i x y : Nat) (hi : i < 6) (h : Sets w v T) (hk : k < 18446744073709551616) (hx : x < T.length) (hy : y < T.length) (hT : T.length ≤ 256) :
    Calls Tryd.prog (pfn i) #[.int .u64 k, v, .int .u64 x, .int .u64 y] w fun e w' => e = .returned (.bool (pst k (nthN T) i x y)) ∧ Ext w w' := by
  have h' : i = 0 ∨ i = 1 ∨ i = 2 ∨ i = 3 ∨ i = 4 ∨ i = 5 := by omega
  rcases h' with rfl | rfl | rfl | rfl | rfl | rfl
  · exact pst1_ok w v T k x y h hx hT
  · exact pst2_ok w v T k x y h hk hx hT
  · exact pst3_ok w v T k x y h hx
  · exact pst4_ok w v T k x y
  · exact pst5_ok w v T k x y h hx hy hT
  · exact pst6_ok w v T k x y h hx hy hT

/-- The package's table of postulates lies in memory as its initialiser lays it. -/
def RevG (w : World) : Prop := ∃ ad cap, w.cell? ⟨0, 0, none⟩ = some (.slice (some ad) 6 cap) ∧ 6 ≤ cap ∧ 0 < w.heap.size ∧ ad.block < w.heap.size ∧
  ∀ i, i < 6 → w.cell? (ad.add (i * 2)) = some (.bool (decide (4 ≤ i))) ∧ w.cell? ⟨(ad.add (i * 2)).block, (ad.add (i * 2)).off + 1, none⟩ = some (.func (.func (pfn i)) #[] #[])
theorem RevG.ext {w w1 : World} (h : RevG w) (k : Ext w w1) : RevG w1 := by
  obtain ⟨ad, cap, h1, h2, h3, h4, h5⟩ := h
  have hs := k.size
  refine ⟨ad, cap, (k.cell h3).trans h1, h2, by omega, by omega, fun i hi => ?_⟩
  obtain ⟨a, b⟩ := h5 i hi
  exact ⟨(k.cell (by rw [addBlock]; exact h4)).trans a, (k.cell (by show (ad.add (i * 2)).block < _; rw [addBlock]; exact h4)).trans b⟩

theorem lastOf_le {S i : Nat} (h : 0 < S) : lastOf S i ≤ S := by unfold lastOf; split <;> omega

set_option maxRecDepth 100000 in
set_option maxHeartbeats 4000000 in
theorem failure_ok (w : World) (v : Value) (T : List Nat) (m k i : Nat) (hG : RevG w) (hi : i < 6) (hm : m ≤ 3) (h : Sets w v T) (hl : T.length = 2 ^ 2 ^ m) (hk : k < 18446744073709551616) :
    Calls Tryd.prog 25 #[.int .i64 i, .int .i64 m, .int .u64 k, v] w fun e w' => ∃ a b : Nat, e = .returned (.tuple #[.int .u64 a, .int .u64 b, .bool (!pHolds (2 ^ 2 ^ m) k (nthN T) i)]) ∧ Ext w w' := by
  have hM := pow_small3 hm
  have hS0 : 0 < 2 ^ 2 ^ m := Nat.two_pow_pos _
  have HC : Hid (∀ w1 : World, Calls Tryd.prog 23 #[.int .i64 m] w1 fun e w' => e = .returned (.int .i64 (2 ^ 2 ^ m : Nat)) ∧ w1 = w') := fun w1 => sets_ok w1 m hm
  have HP : Hid (∀ w1 x y, Ext w w1 → x < 2 ^ 2 ^ m → y < 2 ^ 2 ^ m → Calls Tryd.prog (pfn i) #[.int .u64 k, v, .int .u64 (x : Nat), .int .u64 (y : Nat)] w1 fun e w' => e = .returned (.bool (pst k (nthN T) i x y)) ∧ Ext w1 w') := fun w1 x y hx h1 h2 =>
    post_any w1 v T k i x y hi (h.ext hx) hk (by rw [hl]; exact h1) (by rw [hl]; exact h2) (by rw [hl]; exact hM)
  have hcf : ∀ (a : Array Value) (w : World), (callFunc (pfn i) a).run Tryd.prog w = .ok (.enter (pfn i) a) w := fun a w => pfn_call hi a w
  obtain ⟨S, hS⟩ : ∃ S, S = 2 ^ 2 ^ m := ⟨_, rfl⟩
  rw [← hS] at HC HP hM hS0 ⊢
  have HG := Lib.hid hG
  obtain ⟨fi, hfi⟩ : ∃ f, f = pfn i := ⟨_, rfl⟩
  rw [← hfi] at HP hcf
  have hG2 : ∀ w1, Ext w w1 → ∃ ad cap, w1.cell? ⟨0, 0, none⟩ = some (.slice (some ad) 6 cap) ∧ w1.cell? (ad.add (i * 2)) = some (.bool (decide (4 ≤ i))) ∧ w1.cell? ⟨(ad.add (i * 2)).block, (ad.add (i * 2)).off + 1, none⟩ = some (.func (.func fi) #[] #[]) := fun w1 hx => by
    obtain ⟨ad, cap, h1, _, _, _, h5⟩ := hG.ext hx
    exact ⟨ad, cap, h1, (h5 i hi).1, by rw [hfi]; exact (h5 i hi).2⟩
  have HG2 := Lib.hid hG2
  obtain ⟨ls, hls⟩ : ∃ l, l = lastOf S i := ⟨_, rfl⟩
  have hlsS : ls ≤ S := by rw [hls]; exact lastOf_le hS0
  have hcv := u64_wrap_small S (by omega)
  have hcv2 := u64_wrap_small ls (by omega)
  obtain ⟨ad, cap, g0, g1, g2⟩ := hG2 w (Ext.refl w)
  obtain ⟨bt, hbt⟩ : ∃ b, b = decide (4 ≤ i) := ⟨_, rfl⟩
  rw [← hbt] at g1
  have hii : (i : Int) < 6 := by omega
  have Hls := Lib.hid hls
  have Hbt := Lib.hid hbt
  have Hin : Hid ((pHolds S k (nthN T) i = true ↔ ∀ x, x < S → ∀ y, y < ls → pst k (nthN T) i x y = true)) := by
    show _ ↔ _
    rw [hls]; exact pHolds_iff
  clear hG hG2 h hl hS hfi hls hbt hm
  have key : ∀ bl : Bool, bl = bt → True := fun _ _ => trivial
  clear key
  go_enter Tryd.func25, Tryd.ntmps25
  cases bt with
  | false =>
    have hl1 : ls = 1 := by
      have := Hbt.out; rw [Hls.out]; unfold lastOf; rw [if_pos (by simp at this; omega)]
    subst hl1
    go_wp2_with fail
    refine (HC.out _).mono ?_
    rintro x w1 ⟨rfl, rfl⟩
    go_wp2
    go_loopw [24] (fun v wr => ∃ x : Nat, x ≤ S ∧ v = .int .u64 x ∧ Hid (∀ x', x' < x → ∀ y, y < 1 → pst k (nthN T) i x' y = true) ∧ Ext w wr) (fun v _ => S - (intOf v).toNat)
    case atStart => exact ⟨0, Nat.zero_le _, rfl, fun x' hx' => absurd hx' (by omega), Ext.refl _⟩
    case round =>
      obtain ⟨x, hx, rfl, hgo, hxr⟩ := hrel
      by_cases hlt : x < S
      · go_wp2
        go_loopw [29] (fun v wi => ∃ y : Nat, y ≤ 1 ∧ v = .int .u64 y ∧ Hid (∀ y', y' < y → pst k (nthN T) i x y' = true) ∧ Ext wr wi) (fun v _ => 1 - (intOf v).toNat)
        case atStart => exact ⟨0, Nat.zero_le _, rfl, fun x' hx' => absurd hx' (by omega), Ext.refl _⟩
        case round =>
          obtain ⟨y, hy, rfl, hgi, hxi⟩ := hrel
          by_cases hyl : y < 1
          · have hxx := hxr.trans hxi
            obtain ⟨ad2, cap2, g0, g1, g2⟩ := HG2.out _ hxx
            have CP := Lib.hid (HP.out _ x y hxx hlt (by omega))
            obtain ⟨b, hb⟩ : ∃ b, b = pst k (nthN T) i x y := ⟨_, rfl⟩
            rw [← hb] at CP
            have Hb := Lib.hid hb
            have hin := u64_wrap_small (y + 1) (by omega)
            have e : ((y + 1 : Nat) : Int) = (y : Int) + 1 := by omega
            rw [e] at hin
            clear hb e
            go_wp2_with fail
            refine CP.out.mono ?_
            rintro x w2 ⟨rfl, hy2⟩
            cases b with
            | true =>
              go_wp2
              go_roundw
              case rel => exact ⟨y + 1, by omega, by first | rfl | go_num, fun y' h => by
                by_cases q : y' = y
                · rw [q]; exact Hb.out.symm
                · exact hgi.out y' (by omega), hxi.trans hy2⟩
              case measure => simp [intOf]; omega
            | false =>
              have hF : pHolds S k (nthN T) i = false := by
                cases hq : pHolds S k (nthN T) i with
                | false => rfl
                | true =>
                  have := Hin.out.1 hq x hlt y hyl
                  rw [← Hb.out] at this
                  exact absurd this (by decide)
              go_wp2
              go_ret3
              exact ⟨x, y, by rw [hF]; rfl, hxx.trans hy2⟩
          · obtain rfl : y = 1 := by omega
            have hin := u64_wrap_small (x + 1) (by omega)
            have e : ((x + 1 : Nat) : Int) = (x : Int) + 1 := by omega
            rw [e] at hin
            clear e
            go_wp2
            go_roundw
            case rel => exact ⟨x + 1, by omega, by first | rfl | go_num, fun x' h => by
              by_cases q : x' = x
              · rw [q]; exact hgi.out
              · exact hgo.out x' (by omega), hxr.trans hxi⟩
            case measure => simp [intOf]; omega
      · obtain rfl : x = S := by omega
        have hF : pHolds x k (nthN T) i = true := Hin.out.2 hgo.out
        go_wp2
        go_ret3
        exact ⟨0, 0, by rw [hF]; rfl, hxr⟩
  | true =>
    have hl1 : ls = S := by
      have := Hbt.out; rw [Hls.out]; unfold lastOf; rw [if_neg (by simp at this; omega)]
    subst hl1
    go_wp2_with fail
    refine (HC.out _).mono ?_
    rintro x w1 ⟨rfl, rfl⟩
    go_wp2_with fail
    refine (HC.out _).mono ?_
    rintro x w1 ⟨rfl, rfl⟩
    go_wp2
    go_loopw [24] (fun v wr => ∃ x : Nat, x ≤ ls ∧ v = .int .u64 x ∧ Hid (∀ x', x' < x → ∀ y, y < ls → pst k (nthN T) i x' y = true) ∧ Ext w wr) (fun v _ => ls - (intOf v).toNat)
    case atStart => exact ⟨0, Nat.zero_le _, rfl, fun x' hx' => absurd hx' (by omega), Ext.refl _⟩
    case round =>
      obtain ⟨x, hx, rfl, hgo, hxr⟩ := hrel
      by_cases hlt : x < ls
      · go_wp2
        go_loopw [29] (fun v wi => ∃ y : Nat, y ≤ ls ∧ v = .int .u64 y ∧ Hid (∀ y', y' < y → pst k (nthN T) i x y' = true) ∧ Ext wr wi) (fun v _ => ls - (intOf v).toNat)
        case atStart => exact ⟨0, Nat.zero_le _, rfl, fun x' hx' => absurd hx' (by omega), Ext.refl _⟩
        case round =>
          obtain ⟨y, hy, rfl, hgi, hxi⟩ := hrel
          by_cases hyl : y < ls
          · have hxx := hxr.trans hxi
            obtain ⟨ad2, cap2, g0, g1, g2⟩ := HG2.out _ hxx
            have CP := Lib.hid (HP.out _ x y hxx hlt (by omega))
            obtain ⟨b, hb⟩ : ∃ b, b = pst k (nthN T) i x y := ⟨_, rfl⟩
            rw [← hb] at CP
            have Hb := Lib.hid hb
            have hin := u64_wrap_small (y + 1) (by omega)
            have e : ((y + 1 : Nat) : Int) = (y : Int) + 1 := by omega
            rw [e] at hin
            clear hb e
            go_wp2_with fail
            refine CP.out.mono ?_
            rintro x w2 ⟨rfl, hy2⟩
            cases b with
            | true =>
              go_wp2
              go_roundw
              case rel => exact ⟨y + 1, by omega, by first | rfl | go_num, fun y' h => by
                by_cases q : y' = y
                · rw [q]; exact Hb.out.symm
                · exact hgi.out y' (by omega), hxi.trans hy2⟩
              case measure => simp [intOf]; omega
            | false =>
              have hF : pHolds ls k (nthN T) i = false := by
                cases hq : pHolds ls k (nthN T) i with
                | false => rfl
                | true =>
                  have := Hin.out.1 hq x hlt y hyl
                  rw [← Hb.out] at this
                  exact absurd this (by decide)
              go_wp2
              go_ret3
              exact ⟨x, y, by rw [hF]; rfl, hxx.trans hy2⟩
          · obtain rfl : y = ls := by omega
            have hin := u64_wrap_small (x + 1) (by omega)
            have e : ((x + 1 : Nat) : Int) = (x : Int) + 1 := by omega
            rw [e] at hin
            clear e
            go_wp2
            go_roundw
            case rel => exact ⟨x + 1, by omega, by first | rfl | go_num, fun x' h => by
              by_cases q : x' = x
              · rw [q]; exact hgi.out
              · exact hgo.out x' (by omega), hxr.trans hxi⟩
            case measure => simp [intOf]; omega
      · obtain rfl : x = ls := by omega
        have hF : pHolds x k (nthN T) i = true := Hin.out.2 hgo.out
        go_wp2
        go_ret3
        exact ⟨0, 0, by rw [hF]; rfl, hxr⟩

end Go.Proofs.YtdlhfihddipjaacDoor
