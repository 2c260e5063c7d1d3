/-
  Contracts of the reference of the package ranking: shift, limited.
-/
import Derived.Test.YtdlhfihddipjaaaRank5
import Derived.Test.YtdlhfihddipjaaaRank11
namespace Go.Proofs.Ytdlhfihddipjaaa
open Go.RowKit

set_option maxRecDepth 100000 in
set_option maxHeartbeats 2000000 in
theorem shift_any (w : World) (v : Value) (r : List Int) (s : Nat) (a b : Int) (h : Ints .i64 w v r) (hl : r.length ≤ 16) (hr : ∀ i, i < r.length → 0 ≤ nth r i ∧ nth r i ≤ 1000) (hs64 : s < 18446744073709551616) (ha : -1099511627776 ≤ a ∧ a ≤ 1099511627776) (hb : -1099511627776 ≤ b ∧ b ≤ 1099511627776) :
    Calls Try.prog 93 #[v, .int .u64 s, .int .i64 a, .int .i64 b] w fun e w' => ∃ v', e = .returned v' ∧ Ints .i64 w' v' (shL r (fun i => if s.testBit i then a else b) r.length) ∧ Ext w w' := by
  obtain ⟨i0, hi0, hz0, hz1, hz2⟩ := info_parts Try.infoInt
  obtain ⟨A, c, rfl, hs, hf⟩ := h
  have hle := hs.le
  have hcap := hs.cap
  have Hr := Lib.hid hr
  clear hr
  obtain ⟨f, hf⟩ : ∃ f : Nat → Int, f = fun i => if s.testBit i then a else b := ⟨_, rfl⟩
  rw [← hf]
  have Hf := Lib.hid hf
  clear hf
  go_enter Try.func93, Try.ntmps93
  go_wp2
  go_loopw [9, 10] (fun o i wr => ∃ k : Nat, k ≤ r.length ∧ i = .int .i64 k ∧ wr.ownsRow w.heap.size 3 1 o k ((shL r f k).map (Value.int .i64)) ∧ Ext w wr) (fun _ i _ => r.length - (intOf i).toNat)
  case atStart => exact ⟨0, Nat.zero_le _, rfl, World.ownsRow_nil _ _ _ _, Ext.refl w⟩
  case round =>
    obtain ⟨k, hk, rfl, hown, hx⟩ := hrel
    by_cases hlt : k < r.length
    · obtain ⟨ad, rfl, hbb, hc⟩ := (hs.ext hx).get hlt
      have C := Lib.hid (has_ok wr s k hs64 (by omega))
      have g1 := Hr.out k hlt
      have Hown := Lib.hid hown
      clear hown
      obtain ⟨x, hxx⟩ : ∃ x, x = nth r k := ⟨_, rfl⟩
      rw [← hxx] at hc g1
      have Hx := Lib.hid hxx
      clear hxx
      cases hbv : s.testBit k with
      | true =>
        rw [hbv] at C
        have hfk : Hid (f k = a) := by show f k = a; rw [Hf.out]; simp [hbv]
        have hw : wrap64 (x + a) = x + a := by unfold wrap64; omega
        clear hbv
        go_wp2_with fail
        refine C.out.mono ?_
        rintro e w2 ⟨rfl, rfl⟩
        go_wp2_with (at_builtin; refine wpList_append_own _ rfl (.tmp 20) (.tmp 27) _ rfl w.heap.size 3 i0 (.int .i64 0) 1 8 Try.underlying22 hi0 hz0 hz1 hz2 rfl (by omega) u9 k ((shL r f k).map (Value.int .i64)) rfl (Hown.out.alloc _) ⟨wr.heap.size, 0, none⟩ 1 1 [.int .i64 (x + a)] rfl rfl (cell_one_new _ _ _) (by simp [Value.oneCell']) (by unfold maxLen; omega) (by omega) (by have := hx.size; simp; omega) ?_; intro v2 w3 hown3 hg3 _)
        go_roundw
        case rel =>
          refine ⟨k + 1, by omega, by go_num, ?_, hx.append Hown.out (Nat.le_refl _) hg3⟩
          rw [shL_succ, ← Hx.out, hfk.out]; simpa using hown3
        case measure => simp [intOf]; omega
      | false =>
        rw [hbv] at C
        have hfk : Hid (f k = b) := by show f k = b; rw [Hf.out]; simp [hbv]
        have hw : wrap64 (x + b) = x + b := by unfold wrap64; omega
        clear hbv
        go_wp2_with fail
        refine C.out.mono ?_
        rintro e w2 ⟨rfl, rfl⟩
        go_wp2_with (at_builtin; refine wpList_append_own _ rfl (.tmp 29) (.tmp 36) _ rfl w.heap.size 3 i0 (.int .i64 0) 1 8 Try.underlying22 hi0 hz0 hz1 hz2 rfl (by omega) u9 k ((shL r f k).map (Value.int .i64)) rfl (Hown.out.alloc _) ⟨wr.heap.size, 0, none⟩ 1 1 [.int .i64 (x + b)] rfl rfl (cell_one_new _ _ _) (by simp [Value.oneCell']) (by unfold maxLen; omega) (by omega) (by have := hx.size; simp; omega) ?_; intro v2 w3 hown3 hg3 _)
        go_roundw
        case rel =>
          refine ⟨k + 1, by omega, by go_num, ?_, hx.append Hown.out (Nat.le_refl _) hg3⟩
          rw [shL_succ, ← Hx.out, hfk.out]; simpa using hown3
        case measure => simp [intOf]; omega
    · obtain rfl : k = r.length := by omega
      have hI : Hid (Ints .i64 wr u9 (shL r f r.length)) := Ints.of_own hown (by omega) fun i hi => by
        rw [shL_len] at hi
        rw [shL_nth hi]
        have := Hr.out i hi
        have : f i = a ∨ f i = b := by rw [Hf.out]; by_cases q : s.testBit i = true <;> simp [q]
        exact fits_i64 (by omega)
      clear hown
      go_wp2
      go_ret
      exact ⟨_, rfl, hI.out, hx⟩

set_option maxRecDepth 100000 in
set_option maxHeartbeats 2000000 in
theorem limited_any (w : World) (v : Value) (r : List Int) (h : Ints .i64 w v r) :
    Calls Try.prog 92 #[v] w fun e w' => ∃ v', e = .returned (.tuple #[v', .int .i64 (limR r).2]) ∧ Ints .i64 w' v' (limR r).1 ∧ w = w' := by
  have H := Lib.hid h
  obtain ⟨A, c, rfl, hs, hf⟩ := h
  have hle := hs.le
  have hcap := hs.cap
  obtain ⟨z, hz⟩ : ∃ z, z = limR r := ⟨_, rfl⟩
  rw [← hz]
  have Hz := Lib.hid hz
  clear hz hf
  go_enter Try.func92, Try.ntmps92
  go_wp2
  go_loop [4] (fun i => ∃ k : Nat, k ≤ r.length ∧ i = .int .i64 k ∧ Hid (∀ j, j < k → ¬ 1000 < nth r j)) (fun i => r.length - (intOf i).toNat)
  case atStart => exact ⟨0, Nat.zero_le _, rfl, fun j hj => absurd hj (by omega)⟩
  case round =>
    obtain ⟨k, hk, rfl, hgo⟩ := hrel
    by_cases hlt : k < r.length
    · obtain ⟨ad, rfl, hb, hc⟩ := hs.get hlt
      by_cases g1 : 1000 < nth r k
      · go_wp2
        go_ret2
        have e1 : z = ([], 8) := by rw [Hz.out]; unfold limR; rw [if_pos (any_nth.2 ⟨k, hlt, decide_eq_true g1⟩)]
        exact ⟨.slice none 0 0, by rw [e1]; rfl, by rw [e1]; exact Ints.nil _ _, rfl⟩
      · go_wp2
        go_round
        case rel => exact ⟨k + 1, by omega, by go_num, fun j hj => by
          by_cases e : j = k
          · rw [e]; exact g1
          · exact hgo.out j (by omega)⟩
        case measure => simp [intOf]; omega
    · obtain rfl : k = r.length := by omega
      go_wp2
      go_ret2
      have e1 : z = (r, 0) := by
        rw [Hz.out]; unfold limR; rw [if_neg]
        rw [any_nth]
        rintro ⟨i, hi, hq⟩
        rw [decide_eq_true_eq] at hq
        have := hgo.out i hi; omega
      exact ⟨_, by rw [e1]; rfl, by rw [e1]; exact H.out, rfl⟩

end Go.Proofs.Ytdlhfihddipjaaa
