/-
  Contracts of the package ranking: change, and the closures that it is handed.
-/
import Derived.Test.YtdlhfihddipjaabRank4
namespace Go.Proofs.Ytdlhfihddipjaab
open Go.RowKit

def shL (r : List Int) (f : Nat → Int) (n : Nat) : List Int := (List.range n).map fun i => nth r i + f i
theorem shL_len (r : List Int) (f : Nat → Int) (n : Nat) : (shL r f n).length = n := by simp [shL]
theorem shL_nth {r : List Int} {f : Nat → Int} {n k : Nat} (h : k < n) : nth (shL r f n) k = nth r k + f k := nth_ofFn n _ k h
theorem shL_succ (r : List Int) (f : Nat → Int) (n : Nat) : shL r f (n + 1) = shL r f n ++ [nth r n + f n] := by simp [shL, List.range_succ]
def limR (l : List Int) : List Int × Int := if l.any (fun x => decide (1000 < x)) then ([], 8) else (l, 0)

section
variable {g : Nat} {cap : Array Value} {f : Nat → Int}
set_option maxRecDepth 100000 in
set_option maxHeartbeats 2000000 in
theorem change_any (w : World) (v : Value) (r : List Int) (h : Ints .i64 w v r) (hl : r.length ≤ 16) (hr : ∀ i, i < r.length → 0 ≤ nth r i ∧ nth r i ≤ 1000) (hfb : ∀ i, -1099511627776 ≤ f i ∧ f i ≤ 1099511627776) (hcf : ∀ (a : Array Value) (w : World), (callFunc g a).run Try.prog w = .ok (.enter g a) w) (hQ : ∀ w1 : World, Ext w w1 → ∀ i : Nat, i < r.length → Calls Try.prog g (#[.int .i64 i] ++ cap) w1 fun e w' => e = .returned (.int .i64 (f i)) ∧ Ext w1 w') :
    Calls Try.prog 61 #[v, .func (.func g) #[] cap] w fun e w' => ∃ v', e = .returned (.tuple #[v', .int .i64 (limR (shL r f r.length)).2]) ∧ Ints .i64 w' v' (limR (shL r f r.length)).1 ∧ Ext w w' := by
  obtain ⟨i0, hi0, hz0, hz1, hz2⟩ := info_parts Try.infoInt
  obtain ⟨A, c, rfl, hs, hf⟩ := h
  have hle := hs.le
  have hcap := hs.cap
  have HQ := Lib.hid hQ
  have Hr := Lib.hid hr
  have Hb := Lib.hid hfb
  clear hQ hr hfb
  obtain ⟨z, hz⟩ : ∃ z, z = limR (shL r f r.length) := ⟨_, rfl⟩
  rw [← hz]
  have Hz := Lib.hid hz
  clear hz
  go_enter Try.func61, Try.ntmps61
  go_wp2
  go_loopw [6, 7, 8, 11] (fun o _ _ i wr => ∃ k : Nat, k ≤ r.length ∧ i = .int .i64 k ∧ wr.ownsRow w.heap.size 3 1 o k ((shL r f k).map (Value.int .i64)) ∧ Hid (∀ j, j < k → nth r j + f j ≤ 1000) ∧ Ext w wr) (fun _ _ _ i _ => r.length - (intOf i).toNat)
  case atStart => exact ⟨0, Nat.zero_le _, rfl, World.ownsRow_nil _ _ _ _, fun j hj => absurd hj (by omega), Ext.refl w⟩
  case round =>
    obtain ⟨k, hk, rfl, hown, hgo, hx⟩ := hrel
    by_cases hlt : k < r.length
    · obtain ⟨ad, rfl, hb, hc⟩ := (hs.ext hx).get hlt
      have C := Lib.hid (HQ.out wr hx k hlt)
      have g1 := Hr.out k hlt
      have g2 := Hb.out k
      have Hown := Lib.hid hown
      clear hown
      obtain ⟨a, ha⟩ : ∃ a, a = nth r k := ⟨_, rfl⟩
      obtain ⟨b, hb2⟩ : ∃ b, b = f k := ⟨_, rfl⟩
      rw [← ha] at hc g1
      rw [← hb2] at C g2
      have Ha := Lib.hid ha
      have Hb2 := Lib.hid hb2
      clear ha hb2
      have hw : wrap64 (a + b) = a + b := by unfold wrap64; omega
      by_cases hbig : 1000 < a + b
      · go_wp2_with fail
        refine C.out.mono ?_
        rintro e w2 ⟨rfl, hy⟩
        go_wp2_with fail
        go_ret2
        have e1 : (shL r f r.length).any (fun x => decide (1000 < x)) = true := any_nth.2 ⟨k, by rw [shL_len]; exact hlt, decide_eq_true (by rw [shL_nth hlt, ← Ha.out, ← Hb2.out]; exact hbig)⟩
        have e2 : z = ([], 8) := by rw [Hz.out]; unfold limR; rw [if_pos e1]
        exact ⟨.slice none 0 0, by rw [e2]; rfl, by rw [e2]; exact Ints.nil _ _, hx.trans hy⟩
      · go_wp2_with fail
        refine C.out.mono ?_
        rintro e w2 ⟨rfl, hy⟩
        have hown2 := own_ext Hown.out hy
        have hx2 := hx.trans hy
        go_wp2_with (at_builtin; refine wpList_append_own _ rfl (.tmp 23) (.tmp 25) _ rfl w.heap.size 3 i0 (.int .i64 0) 1 8 Try.underlying22 hi0 hz0 hz1 hz2 rfl (by omega) u6 k ((shL r f k).map (Value.int .i64)) rfl (hown2.alloc _) ⟨w2.heap.size, 0, none⟩ 1 1 [.int .i64 (a + b)] rfl rfl (cell_one_new _ _ _) (by simp [Value.oneCell']) (by unfold maxLen; omega) (by omega) (by have := hx2.size; simp; omega) ?_; intro v2 w3 hown3 hg3 _)
        go_roundw
        case rel =>
          refine ⟨k + 1, by omega, by go_num, ?_, fun j hj => ?_, hx2.append hown2 (Nat.le_refl _) hg3⟩
          · rw [shL_succ, ← Ha.out, ← Hb2.out]; simpa using hown3
          · by_cases e : j = k
            · rw [e, ← Ha.out, ← Hb2.out]; omega
            · exact hgo.out j (by omega)
        case measure => simp [intOf]; omega
    · obtain rfl : k = r.length := by omega
      have e1 : ¬ (shL r f r.length).any (fun x => decide (1000 < x)) = true := fun e => by
        obtain ⟨i, hi, h⟩ := any_nth.1 e
        rw [shL_len] at hi
        rw [decide_eq_true_eq, shL_nth hi] at h
        have := hgo.out i hi
        omega
      have e2 : Hid (z = (shL r f r.length, 0)) := by show z = _; rw [Hz.out]; unfold limR; rw [if_neg e1]
      have hI : Hid (Ints .i64 wr u6 (shL r f r.length)) := Ints.of_own hown (by omega) fun i hi => by
        rw [shL_len] at hi
        rw [shL_nth hi]
        have := hgo.out i hi
        have := Hr.out i hi
        have := Hb.out i
        exact fits_i64 (by omega)
      clear e1 hown
      go_wp2
      go_ret2
      exact ⟨_, by rw [e2.out]; rfl, by rw [e2.out]; exact hI.out, hx⟩
end

end Go.Proofs.Ytdlhfihddipjaab
