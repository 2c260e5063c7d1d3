/-
  Contracts of the package wittingref03: Check, Discrete, Trivial, Block.
-/
import Derived.Test.YtdlhfihddipjaabPart4
namespace Go.Proofs.Ytdlhfihddipjaab
open Go.RowKit

set_option maxHeartbeats 400000 in
theorem rcheck_big (w : World) (v : Value) (p : List Int) (h : Ints .i64 w v p) (hl : 64 < p.length) :
    Calls Try.prog 92 #[v] w fun e w' => e = .returned (.int .i64 8) ∧ w = w' := by
  obtain ⟨A, c, rfl, hs, hf⟩ := h
  have hle := hs.le
  have hcap := hs.cap
  go_enter Try.func92, Try.ntmps92
  go_wp2
  go_ret
  exact ⟨rfl, rfl⟩

set_option maxHeartbeats 1000000 in
theorem rcheck_ok (w : World) (v : Value) (p : List Int) (h : Ints .i64 w v p) (hl : p.length ≤ 64) (hp : pOk p) :
    Calls Try.prog 92 #[v] w fun e w' => e = .returned (.int .i64 0) ∧ w = w' := by
  obtain ⟨A, c, rfl, hs, hf⟩ := h
  have hle := hs.le
  have hcap := hs.cap
  go_enter Try.func92, Try.ntmps92
  go_wp2
  go_loop [10] (fun i => ∃ k : Nat, k ≤ p.length ∧ i = .int .i64 k) (fun i => p.length - (intOf i).toNat)
  case atStart => exact ⟨0, Nat.zero_le _, rfl⟩
  case round =>
    obtain ⟨k, hk, rfl⟩ := hrel
    by_cases hlt : k < p.length
    · obtain ⟨h0, h1, h2⟩ := hp k hlt
      have H2 := Lib.hid h2
      clear h2
      obtain ⟨ad, rfl, hb, hc⟩ := hs.get hlt
      obtain ⟨ad', e, _, hc'⟩ := hs.get (i := (nth p k).toNat) (by omega)
      injection e with e
      subst e
      rw [H2.out] at hc'
      go_wp2
      all_goals
        go_round
        case rel => exact ⟨k + 1, by omega, by go_num⟩
        case measure => simp [intOf]; omega
    · go_wp2
      go_ret
      exact ⟨rfl, rfl⟩

set_option maxHeartbeats 2000000 in
theorem rcheck_bad (w : World) (v : Value) (p : List Int) (h : Ints .i64 w v p) (hl : p.length ≤ 64) (hp : ¬ pOk p) :
    Calls Try.prog 92 #[v] w fun e w' => e = .returned (.int .i64 3) ∧ w = w' := by
  obtain ⟨A, c, rfl, hs, hf⟩ := h
  have hle := hs.le
  have hcap := hs.cap
  go_enter Try.func92, Try.ntmps92
  go_wp2
  go_loop [10] (fun i => ∃ k : Nat, k ≤ p.length ∧ i = .int .i64 k ∧ Hid (∀ j, j < k → pGood p j)) (fun i => p.length - (intOf i).toNat)
  case atStart => exact ⟨0, Nat.zero_le _, rfl, fun j h => absurd h (by omega)⟩
  case round =>
    obtain ⟨k, hk, rfl, hgo⟩ := hrel
    by_cases hlt : k < p.length
    · obtain ⟨ad, rfl, hb, hc⟩ := hs.get hlt
      by_cases h0 : 0 ≤ nth p k
      · by_cases h1 : nth p k ≤ k
        · obtain ⟨ad', e, _, hc'⟩ := hs.get (i := (nth p k).toNat) (by omega)
          injection e with e
          subst e
          by_cases h2 : nth p (nth p k).toNat = nth p k
          · have H2 := Lib.hid h2
            clear h2
            rw [H2.out] at hc'
            go_wp2
            all_goals
              go_round
              case rel => exact ⟨k + 1, by omega, by go_num, fun j hj => by
                by_cases e : j = k
                · subst e; exact ⟨h0, h1, H2.out⟩
                · exact hgo.out j (by omega)⟩
              case measure => simp [intOf]; omega
          · have H2 : (nth p (nth p k).toNat != nth p k) = true := by rw [bne_iff_ne]; exact h2
            clear h2
            go_wp2
            go_ret
            exact ⟨rfl, rfl⟩
        · go_wp2
          go_ret
          exact ⟨rfl, rfl⟩
      · go_wp2
        go_ret
        exact ⟨rfl, rfl⟩
    · exact absurd (fun j hj => hgo.out j (by omega)) hp

set_option maxRecDepth 100000 in
set_option maxHeartbeats 1000000 in
theorem rdiscrete_ok (w : World) (n : Nat) (hn : n ≤ 64) :
    Calls Try.prog 88 #[.int .i64 n] w fun e w' => ∃ v, e = .returned (.tuple #[v, .int .i64 0]) ∧ Ints .i64 w' v (upTo n fun i => (i : Int)) ∧ Ext w w' := by
  obtain ⟨i0, hi0, hz0, hz1, hz2⟩ := info_parts Try.infoInt
  go_enter Try.func88, Try.ntmps88
  go_wp2
  go_loopw [4, 5] (fun v i wr => ∃ k : Nat, k ≤ n ∧ i = .int .i64 k ∧ wr.ownsRow w.heap.size 3 1 v k ((upTo k fun i => (i : Int)).map (Value.int .i64)) ∧ Ext w wr) (fun _ i _ => n - (intOf i).toNat)
  case atStart => exact ⟨0, Nat.zero_le _, rfl, World.ownsRow_nil _ _ _ _, Ext.refl w⟩
  case round =>
    obtain ⟨k, hk, rfl, hown, hx1⟩ := hrel
    by_cases hlt : k < n
    · go_wp2_with (at_builtin; refine wpList_append_own _ rfl (.tmp 17) (.tmp 19) _ rfl w.heap.size 3 i0 (.int .i64 0) 1 8 Try.underlying22 hi0 hz0 hz1 hz2 rfl (by omega) u4 k ((upTo k fun i => (i : Int)).map (Value.int .i64)) rfl (hown.alloc _) ⟨wr.heap.size, 0, none⟩ 1 1 [.int .i64 k] rfl rfl (cell_one_new _ _ _) (by simp [Value.oneCell']) (by unfold maxLen; omega) (by omega) (by have := hx1.size; simp; omega) ?_; intro v2 w2 hown2 hg2 _)
      go_roundw
      case rel =>
        refine ⟨k + 1, by omega, by go_num, ?_, hx1.append hown (Nat.le_refl _) hg2⟩
        have e : upTo (k + 1) (fun i => (i : Int)) = upTo k (fun i => (i : Int)) ++ [(k : Int)] := by simp [upTo, List.range_succ]
        rw [e]; simpa using hown2
      case measure => simp [intOf]; omega
    · obtain rfl : k = n := by omega
      go_wp2
      go_ret2
      exact ⟨_, rfl, Ints.of_own hown (by omega) (fun i hi => by
        rw [upTo_len] at hi
        rw [upTo_nth hi]; exact fits_small (by omega) (by omega)), hx1⟩

set_option maxHeartbeats 1000000 in
theorem rdiscrete_no (w : World) (n : Int) (hn : n < 0 ∨ 64 < n) :
    Calls Try.prog 88 #[.int .i64 n] w fun e w' => e = .returned (.tuple #[.slice none 0 0, .int .i64 8]) ∧ Ext w w' := by
  rcases hn with hn | hn
  all_goals
    go_enter Try.func88, Try.ntmps88
    go_wp2
    go_ret2
    exact ⟨rfl, Ext.refl w⟩



theorem or_add {s k : Nat} (h : s < 2 ^ k) : s + 2 ^ k = s ||| 2 ^ k := by
  have e := Nat.two_pow_add_eq_or_of_lt h 1
  rw [Nat.mul_one] at e
  rw [Nat.add_comm, e, Nat.or_comm]

set_option maxRecDepth 100000 in
set_option maxHeartbeats 1000000 in
theorem rblock_ok (w : World) (v : Value) (p : List Int) (i : Nat) (h : Ints .i64 w v p) (h64 : p.length ≤ 64) (hp : pOk p) (hi : i < p.length) :
    Calls Try.prog 90 #[v, .int .i64 i] w fun e w' => e = .returned (.int .u64 (blockOf p i : Nat)) ∧ Ext w w' := by
  have C1 := Lib.hid (rcheck_ok w v p h h64 hp)
  obtain ⟨A, c, rfl, hs, hf⟩ := h
  have hle := hs.le
  have hcap := hs.cap
  have t0 : decide ((i : Int) < 0) = false := by simp
  have t1 : decide (p.length ≤ i) = false := by simp; omega
  go_enter Try.func90, Try.ntmps90
  go_wp2_with fail
  refine C1.out.mono ?_
  rintro e w1 ⟨rfl, rfl⟩
  go_wp2
  go_loopw [5, 6, 23] (fun s b v wr => ∃ k : Nat, k ≤ p.length ∧ v = .int .i64 k ∧ s = .int .u64 (maskTo (fun j => nth p j == nth p i) k : Nat) ∧ b = .int .u64 ((2 ^ k % 18446744073709551616 : Nat) : Int) ∧ Ext w wr) (fun _ _ v _ => p.length - (intOf v).toNat)
  case atStart => exact ⟨0, Nat.zero_le _, rfl, rfl, rfl, Ext.refl w⟩
  case round =>
    obtain ⟨k, hk, rfl, rfl, rfl, hx⟩ := hrel
    by_cases hlt : k < p.length
    · obtain ⟨ad, rfl, hb, hc⟩ := (hs.ext hx).get hlt
      obtain ⟨ad', e, _, hci⟩ := (hs.ext hx).get hi
      injection e with e
      subst e
      obtain ⟨s, hs1⟩ : ∃ s, s = maskTo (fun j => nth p j == nth p i) k := ⟨_, rfl⟩
      obtain ⟨b, hb1⟩ : ∃ b : Nat, b = 2 ^ k % 18446744073709551616 := ⟨_, rfl⟩
      obtain ⟨b2, hb2⟩ : ∃ b : Nat, b = 2 ^ (k + 1) % 18446744073709551616 := ⟨_, rfl⟩
      have hk64 : k < 64 := by omega
      have hslt : s < 2 ^ k := by rw [hs1]; exact maskTo_lt _ k
      have hpk := pow_lt64 hk64
      have hbk : b = 2 ^ k := by rw [hb1]; exact Nat.mod_eq_of_lt hpk
      have hsum : s + b = s ||| 2 ^ k := by rw [hbk]; exact or_add hslt
      have hor : s ||| 2 ^ k < 2 ^ (k + 1) := Nat.or_lt_two_pow (Nat.lt_trans hslt (Nat.pow_lt_pow_right (by omega) (by omega))) (Nat.pow_lt_pow_right (by omega) (by omega))
      have hor2 : 2 ^ (k + 1) ≤ 18446744073709551616 := Nat.pow_le_pow_right (n := 2) (by omega) (show k + 1 ≤ 64 by omega)
      have hadd : IntKind.u64.wrap ((s : Int) + (b : Int)) = ((s ||| 2 ^ k : Nat) : Int) := by
        rw [IntKind.wrap_u64, ← hsum]; omega
      have hmul : IntKind.u64.wrap ((b : Int) * 2) = (b2 : Int) := by
        rw [IntKind.wrap_u64, hb2, hbk, Nat.pow_succ]; generalize (2 ^ k : Nat) = m; omega
      have hnext : maskTo (fun j => nth p j == nth p i) (k + 1) = if nth p k == nth p i then s ||| 2 ^ k else s := by
        rw [maskTo_succ, ← hs1]; split <;> simp
      rw [← hs1, ← hb1]
      have Hs1 := Lib.hid hs1
      have Hb2 := Lib.hid hb2
      obtain ⟨m, hm⟩ : ∃ m, m = s ||| 2 ^ k := ⟨_, rfl⟩
      rw [← hm] at hadd hnext
      have Hnext := Lib.hid hnext
      clear hs1 hb1 hb2 hslt hpk hbk hsum hor hor2 hnext hm
      by_cases he : nth p k = nth p i
      · have t : (nth p k == nth p i) = true := by simp [he]
        have hn := Hnext.out
        rw [t] at hn
        have Hn := Lib.hid hn
        clear hn he Hnext
        go_wp2
        go_quiet (fail)
        go_wp2
        go_roundw
        case rel => exact ⟨k + 1, by omega, by go_num, by rw [Hn.out]; rfl, by rw [← Hb2.out], hx.drewN _⟩
        case measure => simp [intOf]; omega
      · have t : (nth p k == nth p i) = false := by simp [he]
        have hn := Hnext.out
        rw [t] at hn
        have Hn := Lib.hid hn
        clear hn he Hnext
        go_wp2
        go_quiet (fail)
        go_wp2
        go_roundw
        case rel => exact ⟨k + 1, by omega, by go_num, by rw [Hn.out]; rfl, by rw [← Hb2.out], hx.drewN _⟩
        case measure => simp [intOf]; omega
    · obtain rfl : k = p.length := by omega
      go_wp2
      go_ret
      exact ⟨rfl, hx⟩

end Go.Proofs.Ytdlhfihddipjaab
