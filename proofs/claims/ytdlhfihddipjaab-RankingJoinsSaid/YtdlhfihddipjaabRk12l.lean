/-
  Contract of the reference of the package ranking: limited.
-/
import Derived.Test.YtdlhfihddipjaabRank5
namespace Go.Proofs.Ytdlhfihddipjaab
open Go.RowKit

set_option maxRecDepth 100000 in
set_option maxHeartbeats 2000000 in
theorem limited_any (w : World) (v : Value) (r : List Int) (h : Ints .i64 w v r) :
    Calls Try.prog 69 #[v] w fun e w' => ∃ v', e = .returned (.tuple #[v', .int .i64 (limR r).2]) ∧ Ints .i64 w' v' (limR r).1 ∧ w = w' := by
  have H := Lib.hid h
  obtain ⟨A, c, rfl, hs, hf⟩ := h
  have hle := hs.le
  have hcap := hs.cap
  obtain ⟨z, hz⟩ : ∃ z, z = limR r := ⟨_, rfl⟩
  rw [← hz]
  have Hz := Lib.hid hz
  clear hz hf
  go_enter Try.func69, Try.ntmps69
  go_wp2
  go_loop [4] (fun i => ∃ k : Nat, k ≤ r.length ∧ i = .int .i64 k ∧ Hid (∀ j, j < k → ¬ 1000 < nth r j)) (fun i => r.length - (intOf i).toNat)
  case atStart => exact ⟨0, Nat.zero_le _, rfl, fun j hj => absurd hj (by omega)⟩
  case round =>
    obtain ⟨k, hk, rfl, hgo⟩ := hrel
    by_cases hlt : k < r.length
    · obtain ⟨ad, rfl, hb, hc⟩ := hs.get hlt
      by_cases g1 : 1000 < nth r k
      · go_wp2
        go_ret2
        have e1 : z = ([], 8) := by rw [Hz.out]; unfold limR; rw [if_pos (any_nth.2 ⟨k, hlt, decide_eq_true g1⟩)]
        exact ⟨.slice none 0 0, by rw [e1]; rfl, by rw [e1]; exact Ints.nil _ _, rfl⟩
      · go_wp2
        go_round
        case rel => exact ⟨k + 1, by omega, by go_num, fun j hj => by
          by_cases e : j = k
          · rw [e]; exact g1
          · exact hgo.out j (by omega)⟩
        case measure => simp [intOf]; omega
    · obtain rfl : k = r.length := by omega
      go_wp2
      go_ret2
      have e1 : z = (r, 0) := by
        rw [Hz.out]; unfold limR; rw [if_neg]
        rw [any_nth]
        rintro ⟨i, hi, hq⟩
        rw [decide_eq_true_eq] at hq
        have := hgo.out i hi; omega
      exact ⟨_, by rw [e1]; rfl, by rw [e1]; exact H.out, rfl⟩

end Go.Proofs.Ytdlhfihddipjaab
