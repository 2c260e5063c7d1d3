/-
  The doors: slices.Equal at []uint64, the fixed example (aAwake22).
-/
import Derived.Test.YtdlhfihddipjaacDoorTg6
namespace Go.Proofs.YtdlhfihddipjaacDoor
open Go.RowKit

set_option maxHeartbeats 1000000 in
theorem equalS_yes (w : World) (v1 v2 : Value) (p : List Nat) (h : Sets w v1 p) (h' : Sets w v2 p) :
    Calls Tryd.prog 21 #[v1, v2] w fun e w' => e = .returned (.bool true) ∧ Ext w w' := by
  obtain ⟨A, c, rfl, hs, hf⟩ := h
  obtain ⟨A', c', rfl, hs', hf'⟩ := h'
  have hle := hs.le
  have hcap := hs.cap
  have hx0 := Ext.refl w
  go_enter Tryd.func21, Tryd.ntmps21
  go_wp2
  go_loopw [13] (fun i wr => ∃ k : Nat, k ≤ p.length ∧ i = .int .i64 k ∧ Ext w wr) (fun i _ => p.length - (intOf i).toNat)
  case atStart => exact ⟨0, Nat.zero_le _, rfl, hx0⟩
  case round =>
    obtain ⟨k, hk, rfl, hx⟩ := hrel
    by_cases hlt : k < p.length
    · obtain ⟨ad, rfl, hb, hc⟩ := (hs.ext hx).get hlt
      obtain ⟨ad', rfl, hb', hc'⟩ := (hs'.ext hx).get hlt
      go_wp2
      go_quiet (fail)
      go_wp2
      go_roundw
      case rel => exact ⟨k + 1, by omega, by go_num, hx.drewN _⟩
      case measure => simp [intOf]; omega
    · go_wp2
      go_ret
      exact ⟨rfl, hx⟩

theorem Sets.of_fun {w : World} {g n : Nat} {t : TypeId} {f : Nat → Nat} (h : w.rowIs g t n (fun i => .int .u64 (f i : Nat))) (hn : n ≤ 9223372036854775807) (hf : ∀ i, i < n → f i < 18446744073709551616) : Sets w (.slice (some ⟨g, 0, none⟩) n n) (tab n f) :=
  Sets.of_row (h.congr fun i hi => by rw [tab_nth hi]) (tab_len _ _) hn (fun i hi => by rw [tab_len] at hi; rw [tab_nth hi]; exact hf i hi)

set_option maxRecDepth 100000 in
set_option maxHeartbeats 2000000 in
theorem awake22_any (w : World) (hG : RevG w) : Calls Tryd.prog 6 #[] w fun e w' => e = .returned (.bool true) ∧ Ext w w' := by
  have hr : Ranks 1 [0, 1] := by constructor <;> decide
  have HT : Hid (∀ w1 v, Ints .i64 w1 v [0, 1] → Calls Tryd.prog 20 #[.int .i64 1, v] w1 fun e w' => ∃ g, e = .returned (.tuple #[.slice (some ⟨g, 0, none⟩) 4 4, .int .i64 0]) ∧ Sets w' (.slice (some ⟨g, 0, none⟩) 4 4) [0, 1, 2, 1] ∧ Ext w1 w') := fun w1 v h => by
    refine (revTable_ok w1 v 1 [0, 1] h (by decide) hr).mono fun e w' ⟨g, h1, _, h3, h4⟩ => ⟨g, h1, ?_, h4⟩
    have := Sets.of_fun (f := bestOf [0, 1]) h3 (by decide) (fun i _ => Nat.lt_of_lt_of_le (bestOf_lt _ i) (by decide))
    rwa [show tab (2 ^ 2 ^ 1) (bestOf [0, 1]) = [0, 1, 2, 1] from by decide] at this
  have HR : Hid (∀ w1 v, Ext w w1 → Sets w1 v [0, 1, 2, 1] → Calls Tryd.prog 8 #[.int .i64 1, .int .u64 1, v] w1 fun e w' => ∃ a b : Nat, e = .returned (.tuple #[.int .i64 63, .int .u64 a, .int .u64 b, .int .i64 0]) ∧ Ext w1 w') := fun w1 v hx h => by
    have := revision_ok w1 v [0, 1, 2, 1] 1 1 (hG.ext hx) (by decide) h (by decide) (by decide) (by decide)
    rwa [show pMask (2 ^ 2 ^ 1) 1 (nthN [0, 1, 2, 1]) = 63 from by decide +kernel] at this
  have HE : Hid (∀ w1 v1 v2 p, Sets w1 v1 p → Sets w1 v2 p → Calls Tryd.prog 21 #[v1, v2] w1 fun e w' => e = .returned (.bool true) ∧ Ext w1 w') := fun w1 v1 v2 p h h' => equalS_yes w1 v1 v2 p h h'
  go_enter Tryd.func6, Tryd.ntmps6
  go_wp2_with fail
  refine (HT.out _ _ ?h1).mono ?_
  case h1 => exact Ints.lit w [0, 1] _ rfl (by decide) (by decide)
  rintro x w2 ⟨g, rfl, hS, hx⟩
  have hx2 := ((Ext.refl w).alloc (.cells #[.int .i64 0, .int .i64 1] 3)).trans hx
  have HS := Lib.hid hS
  go_wp2_with fail
  refine (HR.out _ _ hx2 HS.out).mono ?_
  rintro x w3 ⟨a, b, rfl, hx3⟩
  have hxx := hx2.trans hx3
  go_wp2_with fail
  refine (HE.out _ _ _ [0, 1, 2, 1] ((HS.out.ext hx3).ext ((Ext.refl w3).alloc _)) ?h2).mono ?_
  case h2 => exact Sets.lit w3 [0, 1, 2, 1] _ rfl (by decide) (by decide)
  rintro x w4 ⟨rfl, hx4⟩
  go_wp2
  go_ret
  exact ⟨rfl, (hxx.alloc _).trans hx4⟩

end Go.Proofs.YtdlhfihddipjaacDoor
