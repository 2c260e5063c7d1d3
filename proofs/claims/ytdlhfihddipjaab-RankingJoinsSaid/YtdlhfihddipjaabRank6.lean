/-
  Contracts of the package ranking: the closures; Revise, Natural, Contract.
-/
import Derived.Test.YtdlhfihddipjaabRank5
namespace Go.Proofs.Ytdlhfihddipjaab
open Go.RowKit

set_option maxHeartbeats 1000000 in
theorem condClosure (w : World) (g1 g2 g3 s i : Nat) (a b : Int) (h1 : w.cell? ⟨g1, 0, none⟩ = some (.int .u64 s)) (h2 : w.cell? ⟨g2, 0, none⟩ = some (.int .i64 a)) (h3 : w.cell? ⟨g3, 0, none⟩ = some (.int .i64 b)) (hs : s < 18446744073709551616) (hi : i ≤ 64) :
    Calls Try.prog 98 #[.int .i64 i, .pointer (some ⟨g1, 0, none⟩), .pointer (some ⟨g2, 0, none⟩), .pointer (some ⟨g3, 0, none⟩)] w fun e w' => e = .returned (.int .i64 (if s.testBit i then a else b)) ∧ Ext w w' := by
  have hbit := u64_bit1 s i hs
  cases hb : s.testBit i with
  | true =>
    rw [hb] at hbit
    rw [if_pos rfl]
    clear hb
    go_enter Try.func98, Try.ntmps98
    go_wp2
    go_ret
    exact ⟨rfl, Ext.refl w⟩
  | false =>
    rw [hb] at hbit
    rw [if_neg (by simp)]
    clear hb
    go_enter Try.func98, Try.ntmps98
    go_wp2
    go_ret
    exact ⟨rfl, Ext.refl w⟩

set_option maxHeartbeats 1000000 in
theorem revClosure37 (w : World) (g1 g2 s i : Nat) (a : Int) (h1 : w.cell? ⟨g1, 0, none⟩ = some (.int .u64 s)) (h2 : w.cell? ⟨g2, 0, none⟩ = some (.int .i64 a)) (ha : 0 ≤ a ∧ a ≤ 1099511627776) (hs : s < 18446744073709551616) (hi : i ≤ 64) :
    Calls Try.prog 99 #[.int .i64 i, .pointer (some ⟨g1, 0, none⟩), .pointer (some ⟨g2, 0, none⟩)] w fun e w' => e = .returned (.int .i64 (if s.testBit i then -a else 1)) ∧ Ext w w' := by
  have hbit := u64_bit1 s i hs
  cases hb : s.testBit i with
  | true =>
    rw [hb] at hbit
    rw [if_pos rfl]
    clear hb
    go_enter Try.func99, Try.ntmps99
    go_wp2
    go_ret
    exact ⟨rfl, Ext.refl w⟩
  | false =>
    rw [hb] at hbit
    rw [if_neg (by simp)]
    clear hb
    go_enter Try.func99, Try.ntmps99
    go_wp2
    go_ret
    exact ⟨rfl, Ext.refl w⟩

set_option maxHeartbeats 1000000 in
theorem natClosure (w : World) (v : Value) (r : List Int) (h : Ints .i64 w v r) (g1 g2 g3 s i : Nat) (a : Int) (h1 : w.cell? ⟨g1, 0, none⟩ = some (.int .u64 s)) (h2 : w.cell? ⟨g2, 0, none⟩ = some v) (h3 : w.cell? ⟨g3, 0, none⟩ = some (.int .i64 a)) (ha : 0 ≤ a ∧ a ≤ 1099511627776) (hs : s < 18446744073709551616) (hil : i < r.length) (hi : i ≤ 64) :
    Calls Try.prog 100 #[.int .i64 i, .pointer (some ⟨g1, 0, none⟩), .pointer (some ⟨g2, 0, none⟩), .pointer (some ⟨g3, 0, none⟩)] w fun e w' => e = .returned (.int .i64 (if s.testBit i = true ∧ nth r i = a then -a else 1)) ∧ Ext w w' := by
  have hbit := u64_bit1 s i hs
  obtain ⟨A, c, rfl, hsl, hf⟩ := h
  have hle := hsl.le
  have hcap := hsl.cap
  obtain ⟨ad, rfl, hb, hc⟩ := hsl.get hil
  clear hf hsl
  cases hb : s.testBit i with
  | true =>
    rw [hb] at hbit
    by_cases e : nth r i = a
    · rw [if_pos ⟨rfl, e⟩]
      have t : (nth r i == a) = true := by rw [e]; simp
      clear hb e
      go_enter Try.func100, Try.ntmps100
      go_wp2
      go_quiet (fail)
      go_wp2
      go_ret
      exact ⟨rfl, (Ext.refl w).drewN _⟩
    · rw [if_neg (fun h => e h.2)]
      have t : (nth r i == a) = false := by rw [beq_eq_false_iff_ne]; exact e
      clear hb e
      go_enter Try.func100, Try.ntmps100
      go_wp2
      go_quiet (fail)
      go_wp2
      go_ret
      exact ⟨rfl, (Ext.refl w).drewN _⟩
  | false =>
    rw [hb] at hbit
    rw [if_neg (fun h => by cases h.1)]
    clear hb
    go_enter Try.func100, Try.ntmps100
    go_wp2
    go_quiet (fail)
    go_wp2
    go_ret
    exact ⟨rfl, (Ext.refl w).drewN _⟩

set_option maxHeartbeats 1000000 in
theorem conClosure37 (w : World) (v : Value) (m : Nat) (r : List Int) (h : Ints .i64 w v r) (hl : r.length ≤ 16) (hr : RkV m r) (g1 g2 s i : Nat) (h1 : w.cell? ⟨g1, 0, none⟩ = some (.int .u64 s)) (h2 : w.cell? ⟨g2, 0, none⟩ = some v) (hs : s < 18446744073709551616) (hi : i ≤ 64) :
    Calls Try.prog 62 #[.int .i64 i, .pointer (some ⟨g1, 0, none⟩), .pointer (some ⟨g2, 0, none⟩)] w fun e w' => e = .returned (.int .i64 (if s.testBit i then -rankOf r s else 0)) ∧ Ext w w' := by
  have hbit := u64_bit1 s i hs
  have C := Lib.hid (rank_any w v r s h hl hs)
  have g1 := rankOf_le r s
  have g2 := rankOf_ge hr s
  obtain ⟨x, hx⟩ : ∃ x, x = rankOf r s := ⟨_, rfl⟩
  rw [← hx] at C g1 g2 ⊢
  clear hx h hr
  cases hb : s.testBit i with
  | true =>
    rw [hb] at hbit
    rw [if_pos rfl]
    clear hb
    go_enter Try.func62, Try.ntmps62
    go_wp2_with fail
    refine C.out.mono ?_
    rintro e w1 ⟨rfl, hx⟩
    go_wp2
    go_ret
    exact ⟨rfl, hx⟩
  | false =>
    rw [hb] at hbit
    rw [if_neg (by simp)]
    clear hb
    go_enter Try.func62, Try.ntmps62
    go_wp2
    go_ret
    exact ⟨rfl, Ext.refl w⟩

end Go.Proofs.Ytdlhfihddipjaab
