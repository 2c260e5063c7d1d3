/-
  Contracts of the package partition: Check, Discrete, Trivial.
-/
import Derived.Test.YtdlhfihddipjaacDoorProg
import Derived.Test.YtdlhfihddipjaacDoorPlain3
import Derived.Outline
import Derived.KernelRfl
import Derived.BigQuiet
namespace Go.Proofs.YtdlhfihddipjaacDoor
open Go.RowKit

theorem Tryd.infoInt : (Tryd.prog.info? 3).map (fun i => (i.zero, i.size, i.bytes)) = some (some (.int .i64 0), 1, 8) := by kernel_rfl

set_option maxHeartbeats 400000 in
theorem pcheck_big (w : World) (v : Value) (p : List Int) (h : Ints .i64 w v p) (hl : 64 < p.length) :
    Calls Tryd.prog 37 #[v] w fun e w' => e = .returned (.int .i64 8) ∧ w = w' := by
  obtain ⟨A, c, rfl, hs, hf⟩ := h
  have hle := hs.le
  have hcap := hs.cap
  go_enter Tryd.func37, Tryd.ntmps37
  go_wp2
  go_ret
  exact ⟨rfl, rfl⟩

set_option maxHeartbeats 1000000 in
theorem pcheck_ok (w : World) (v : Value) (p : List Int) (h : Ints .i64 w v p) (hl : p.length ≤ 64) (hp : pOk p) :
    Calls Tryd.prog 37 #[v] w fun e w' => e = .returned (.int .i64 0) ∧ w = w' := by
  obtain ⟨A, c, rfl, hs, hf⟩ := h
  have hle := hs.le
  have hcap := hs.cap
  go_enter Tryd.func37, Tryd.ntmps37
  go_wp2
  go_loop [10] (fun i => ∃ k : Nat, k ≤ p.length ∧ i = .int .i64 k) (fun i => p.length - (intOf i).toNat)
  case atStart => exact ⟨0, Nat.zero_le _, rfl⟩
  case round =>
    obtain ⟨k, hk, rfl⟩ := hrel
    by_cases hlt : k < p.length
    · obtain ⟨h0, h1, h2⟩ := hp k hlt
      have H2 := Lib.hid h2
      clear h2
      obtain ⟨ad, rfl, hb, hc⟩ := hs.get hlt
      obtain ⟨ad', e, _, hc'⟩ := hs.get (i := (nth p k).toNat) (by omega)
      injection e with e
      subst e
      rw [H2.out] at hc'
      go_wp2
      all_goals
        go_round
        case rel => exact ⟨k + 1, by omega, by go_num⟩
        case measure => simp [intOf]; omega
    · go_wp2
      go_ret
      exact ⟨rfl, rfl⟩

set_option maxHeartbeats 2000000 in
theorem pcheck_bad (w : World) (v : Value) (p : List Int) (h : Ints .i64 w v p) (hl : p.length ≤ 64) (hp : ¬ pOk p) :
    Calls Tryd.prog 37 #[v] w fun e w' => e = .returned (.int .i64 3) ∧ w = w' := by
  obtain ⟨A, c, rfl, hs, hf⟩ := h
  have hle := hs.le
  have hcap := hs.cap
  go_enter Tryd.func37, Tryd.ntmps37
  go_wp2
  go_loop [10] (fun i => ∃ k : Nat, k ≤ p.length ∧ i = .int .i64 k ∧ Hid (∀ j, j < k → pGood p j)) (fun i => p.length - (intOf i).toNat)
  case atStart => exact ⟨0, Nat.zero_le _, rfl, fun j h => absurd h (by omega)⟩
  case round =>
    obtain ⟨k, hk, rfl, hgo⟩ := hrel
    by_cases hlt : k < p.length
    · obtain ⟨ad, rfl, hb, hc⟩ := hs.get hlt
      by_cases h0 : 0 ≤ nth p k
      · by_cases h1 : nth p k ≤ k
        · obtain ⟨ad', e, _, hc'⟩ := hs.get (i := (nth p k).toNat) (by omega)
          injection e with e
          subst e
          by_cases h2 : nth p (nth p k).toNat = nth p k
          · have H2 := Lib.hid h2
            clear h2
            rw [H2.out] at hc'
            go_wp2
            all_goals
              go_round
              case rel => exact ⟨k + 1, by omega, by go_num, fun j hj => by
                by_cases e : j = k
                · subst e; exact ⟨h0, h1, H2.out⟩
                · exact hgo.out j (by omega)⟩
              case measure => simp [intOf]; omega
          · have H2 : (nth p (nth p k).toNat != nth p k) = true := by rw [bne_iff_ne]; exact h2
            clear h2
            go_wp2
            go_ret
            exact ⟨rfl, rfl⟩
        · go_wp2
          go_ret
          exact ⟨rfl, rfl⟩
      · go_wp2
        go_ret
        exact ⟨rfl, rfl⟩
    · exact absurd (fun j hj => hgo.out j (by omega)) hp

theorem made_row (w : World) (n : Nat) (t : TypeId) (z : Value) : (w.alloc (.cells (madeCells #[z] n) t)).rowIs w.heap.size t n (fun _ => z) := World.rowIs_made w z n t

set_option maxHeartbeats 1000000 in
theorem discrete_ok (w : World) (n : Nat) (hn : n ≤ 64) :
    Calls Tryd.prog 30 #[.int .i64 n] w fun e w' => ∃ v, e = .returned (.tuple #[v, .int .i64 0]) ∧ Ints .i64 w' v (upTo n fun i => (i : Int)) ∧ Ext w w' := by
  have hmk := run_make_row' (P := Tryd.prog) 30 3 (.int .i64 0) 8 Tryd.underlying30 Tryd.infoInt rfl .i64 .i64 n (by omega) (by omega)
  go_enter Tryd.func30, Tryd.ntmps30
  go_wp2
  go_loopw [18] (fun i wr => ∃ k : Nat, k ≤ n ∧ i = .int .i64 k ∧ wr.rowIs w.heap.size 3 n (fun j => .int .i64 (if j < k then (j : Int) else 0)) ∧ Ext w wr) (fun i _ => n - (intOf i).toNat)
  case atStart => exact ⟨0, Nat.zero_le _, rfl, (made_row w n _ _).congr (fun i hi => by simp), (Ext.refl w).alloc _⟩
  case round =>
    obtain ⟨k, hk, rfl, hrow, hx⟩ := hrel
    by_cases hlt : k < n
    · have hc := hrow.cell hlt
      have hfz := hrow.frozen k
      rw [if_neg (Nat.lt_irrefl k)] at hc
      go_wp2
      go_roundw
      case rel => exact ⟨k + 1, by omega, by go_num, (hrow.set k _).congr (fun j hj => by
        by_cases e : j = k
        · subst e; simp
        · simp [e]; congr 1; simp only [Nat.lt_succ_iff_lt_or_eq, e, or_false]), hx.setCell (Nat.le_refl _) _⟩
      case measure => simp [intOf]; omega
    · obtain rfl : k = n := by omega
      go_wp2
      go_ret2
      exact ⟨_, rfl, Ints.of_row (hrow.congr fun i hi => by rw [upTo_nth hi, if_pos hi]) (upTo_len _ _) (by omega) (fun i hi => by
        rw [upTo_len] at hi
        rw [upTo_nth hi]; exact fits_small (by omega) (by omega)), hx⟩

set_option maxHeartbeats 1000000 in
theorem discrete_no (w : World) (n : Int) (hn : n < 0 ∨ 64 < n) :
    Calls Tryd.prog 30 #[.int .i64 n] w fun e w' => e = .returned (.tuple #[.slice none 0 0, .int .i64 8]) ∧ Ext w w' := by
  rcases hn with hn | hn
  all_goals
    go_enter Tryd.func30, Tryd.ntmps30
    go_wp2
    go_ret2
    exact ⟨rfl, Ext.refl w⟩

end Go.Proofs.YtdlhfihddipjaacDoor
