/-
  Contracts: the tables of the packages revision and contraction; slices.ContainsFunc at []uint64; contraction.Check.
-/
import Derived.Test.YtdlhfihddipjaaaCon2
import Derived.Test.YtdlhfihddipjaaaPart4
namespace Go.Proofs.Ytdlhfihddipjaaa
open Go.RowKit

theorem own_ext {w w1 : World} {base : Nat} {e : TypeId} {size : Nat} {v : Value} {n : Nat} {xs : List Value} (h : w.ownsRow base e size v n xs) (k : Ext w w1) : w1.ownsRow base e size v n xs := by
  obtain ⟨h1, h2⟩ := h
  refine ⟨h1, ?_⟩
  rcases h2 with h2 | ⟨g, cap, cur, hv, hg, hh, r⟩
  · exact .inl h2
  · exact .inr ⟨g, cap, cur, hv, hg, (k.block g (Array.getElem?_eq_some_iff.1 hh).1).trans hh, r⟩

/-- The list of the first 'n' values of a function. -/
def tab (n : Nat) (f : Nat → Nat) : List Nat := (List.range n).map f
theorem tab_len (n : Nat) (f : Nat → Nat) : (tab n f).length = n := by simp [tab]
theorem tab_nth {n : Nat} {f : Nat → Nat} {k : Nat} (h : k < n) : nthN (tab n f) k = f k := nthN_ofFn n f k h
theorem tab_succ (n : Nat) (f : Nat → Nat) : tab (n + 1) f = tab n f ++ [f n] := by simp [tab, List.range_succ]
theorem tab_congr {n : Nat} {f g : Nat → Nat} (h : ∀ k, k < n → f k = g k) : tab n f = tab n g := by
  refine ext_nthN (by simp [tab]) fun k hk => ?_
  rw [tab_len] at hk
  rw [tab_nth hk, tab_nth hk, h k hk]

theorem pow_small3 {m : Nat} (h : m ≤ 3) : 2 ^ 2 ^ m ≤ 256 := by
  have h1 : 2 ^ m ≤ 8 := Nat.pow_le_pow_right (n := 2) (by omega) h
  exact Nat.pow_le_pow_right (n := 2) (by omega) h1

theorem u64_wrap_small (n : Nat) (h : n < 18446744073709551616) : IntKind.u64.wrap (n : Int) = (n : Int) := by
  rw [IntKind.wrap_u64]; omega

set_option maxRecDepth 100000 in
set_option maxHeartbeats 4000000 in
theorem revTable_ok (w : World) (v : Value) (m : Nat) (r : List Int) (h : Ints .i64 w v r) (hm : m ≤ 3) (hr : Ranks m r) :
    Calls Try.prog 52 #[.int .i64 m, v] w fun e w' => ∃ v', e = .returned (.tuple #[v', .int .i64 0]) ∧ Sets w' v' (tab (2 ^ 2 ^ m) (bestOf r)) ∧ Ext w w' := by
  have C1 := Lib.hid (revCheck_ok w v m r h (by omega) hr)
  have H := Lib.hid h
  have hN16 := pow_small (show m ≤ 4 by omega)
  have hM := pow_small3 hm
  obtain ⟨N, hN⟩ : ∃ N, N = 2 ^ m := ⟨_, rfl⟩
  have hw1 := u64_wrap_pow m (by omega)
  rw [← hN] at hw1 hM hN16 ⊢
  obtain ⟨M, hMe⟩ : ∃ M, M = 2 ^ N := ⟨_, rfl⟩
  have hw2 := wrap64_pow N (by omega)
  rw [← hMe] at hw2 hM ⊢
  have hmin : min N 64 = N := by omega
  have hlen : r.length ≤ 16 := by rw [hr.1, ← hN]; exact hN16
  have hmk := run_make_row' (P := Try.prog) 34 31 (.int .u64 0) 8 Try.underlying34 Try.infoU64 rfl .i64 .i64 M (by omega) (by omega)
  clear hN hMe h hr
  have t3 : decide ((3 : Int) < (m : Int)) = false := by simp; omega
  go_enter Try.func52, Try.ntmps52
  go_wp2_with fail
  refine C1.out.mono ?_
  rintro e w1 ⟨rfl, rfl⟩
  go_wp2
  rw [hw2]
  go_loopw [23] (fun v wr => ∃ k : Nat, k ≤ M ∧ v = .int .i64 k ∧ wr.rowIs w.heap.size 31 M (fun j => .int .u64 ((if j < k then bestOf r j else 0 : Nat) : Int)) ∧ Ext w wr) (fun v _ => M - (intOf v).toNat)
  case atStart => exact ⟨0, Nat.zero_le _, rfl, (made_row w _ _ _).congr (fun i hi => by simp), (Ext.refl w).alloc _⟩
  case round =>
    obtain ⟨k, hk, rfl, hrow, hx⟩ := hrel
    by_cases hlt : k < M
    · have hc := hrow.cell hlt
      rw [if_neg (Nat.lt_irrefl k)] at hc
      have hfz := hrow.frozen k
      have C2 := Lib.hid (least_any wr v r k (H.out.ext hx) hlen (by omega))
      have hcv := u64_wrap_small k (by omega)
      go_wp2_with (go_at_call 80; refine C2.out.mono ?_; rintro e w1 ⟨rfl, rfl⟩)
      go_roundw
      case rel => exact ⟨k + 1, by omega, by go_num, (hrow.set k _).congr (fun j hj => by
        by_cases e : j = k
        · subst e; simp
        · simp only [e, if_false, Nat.lt_succ_iff_lt_or_eq, or_false]), hx.setCell (Nat.le_refl _) _⟩
      case measure => simp [intOf]; omega
    · obtain rfl : k = M := by omega
      go_wp2
      go_ret2
      exact ⟨_, rfl, Sets.of_row (hrow.congr fun i hi => by rw [tab_nth hi, if_pos hi]) (tab_len _ _) (by omega) (fun i hi => by
        rw [tab_len] at hi
        rw [tab_nth hi]; exact bestOf_lt64 r i (by omega)), hx⟩

theorem full_succ (N : Nat) (h : N < 64) : IntKind.u64.wrap (((full N : Nat) : Int) + 1) = ((2 ^ N : Nat) : Int) := by
  have h1 := pow_lt64 h
  have h2 := Nat.two_pow_pos N
  rw [IntKind.wrap_u64]
  unfold full
  generalize (2 ^ N : Nat) = m at *
  omega

set_option maxRecDepth 100000 in
set_option maxHeartbeats 4000000 in
theorem conTable_ok (w : World) (v : Value) (m : Nat) (r : List Int) (h : Ints .i64 w v r) (hm : m ≤ 3) (hr : Ranks m r) :
    Calls Try.prog 51 #[.int .i64 m, v] w fun e w' => ∃ v', e = .returned (.tuple #[v', .int .i64 0]) ∧ Sets w' v' (tab (2 ^ 2 ^ m) (brOf m (bestOf r (full (2 ^ m))) r)) ∧ Ext w w' := by
  have C1 := Lib.hid (belief_ok w v m r h (by omega) hr)
  have C2 := Lib.hid (conAll_ok w m (by omega))
  have H := Lib.hid h
  have Hr := Lib.hid hr
  have hN16 := pow_small (show m ≤ 4 by omega)
  have hM := pow_small3 hm
  obtain ⟨i0, hi0, hz0, hz1, hz2⟩ := info_parts Try.infoU64
  have hfs := full_succ (2 ^ m) (by omega)
  have hlt64 : ∀ x, x < 2 ^ 2 ^ m → brOf m (bestOf r (full (2 ^ m))) r x < 18446744073709551616 := fun x _ => Nat.lt_of_lt_of_le (brOf_lt hr (bestOf_lt2 hr _) x) (pow64 (by omega))
  have Hlt64 := Lib.hid hlt64
  have hC3 : ∀ (w1 : World) (x : Nat), Ints .i64 w1 v r → x < 2 ^ 2 ^ m → Calls Try.prog 82 #[.int .i64 m, .int .u64 (bestOf r (full (2 ^ m)) : Nat), v, .int .u64 x] w1 fun e w' => e = .returned (.int .u64 (brOf m (bestOf r (full (2 ^ m))) r x : Nat)) ∧ Ext w1 w' :=
    fun w1 x h1 hx => byRanks_ok w1 v m (bestOf r (full (2 ^ m))) x r h1 (by omega) hr (bestOf_lt2 hr _) hx
  have HC3 := Lib.hid hC3
  clear hC3 hlt64
  obtain ⟨M, hMe⟩ : ∃ M, M = 2 ^ 2 ^ m := ⟨_, rfl⟩
  obtain ⟨f, hf⟩ : ∃ f, f = full (2 ^ m) := ⟨_, rfl⟩
  obtain ⟨k, hk⟩ : ∃ k, k = bestOf r f := ⟨_, rfl⟩
  rw [← hMe] at hM hfs HC3 Hlt64 ⊢
  rw [← hf] at C1 C2 hfs HC3 Hlt64 ⊢
  rw [← hk] at C1 HC3 Hlt64 ⊢
  clear hMe hf hk h hr
  have t3 : decide ((3 : Int) < (m : Int)) = false := by simp; omega
  go_enter Try.func51, Try.ntmps51
  go_wp2_with fail
  refine C1.out.mono ?_
  rintro e w1 ⟨rfl, rfl⟩
  go_wp2_with fail
  refine C2.out.mono ?_
  rintro e w1 ⟨rfl, rfl⟩
  go_wp2
  go_loopw [8, 24] (fun t v wr => ∃ x : Nat, x ≤ M ∧ v = .int .u64 x ∧ wr.ownsRow w.heap.size 31 1 t x ((tab x (brOf m k r)).map fun y : Nat => Value.int .u64 y) ∧ Ext w wr) (fun _ v _ => M - (intOf v).toNat)
  case atStart => exact ⟨0, Nat.zero_le _, rfl, World.ownsRow_nil _ _ _ _, Ext.refl w⟩
  case round =>
    obtain ⟨x, hx, rfl, hown, hxw⟩ := hrel
    by_cases hlt : x < M
    · have C3 := Lib.hid (HC3.out wr x (H.out.ext hxw) hlt)
      have hin := u64_wrap_small (x + 1) (by omega)
      have e : ((x + 1 : Nat) : Int) = (x : Int) + 1 := by omega
      rw [e] at hin
      have Hown := Lib.hid hown
      clear hown e
      go_wp2_with fail
      refine C3.out.mono ?_
      rintro e w2 ⟨rfl, hy⟩
      have hown2 := own_ext Hown.out hy
      have hx2 := hxw.trans hy
      go_wp2_with (at_builtin; refine wpList_append_own _ rfl (.tmp 27) (.tmp 33) _ rfl w.heap.size 31 i0 (.int .u64 0) 1 8 Try.underlying34 hi0 hz0 hz1 hz2 rfl (by omega) u8 x ((tab x (brOf m k r)).map fun y : Nat => Value.int .u64 y) rfl (hown2.alloc _) ⟨w2.heap.size, 0, none⟩ 1 1 [.int .u64 (brOf m k r x : Nat)] rfl rfl (cell_one_new _ _ _) (by simp [Value.oneCell']) (by unfold maxLen; omega) (by omega) (by have := hx2.size; simp; omega) ?_; intro v2 w3 hown3 hg3 _)
      go_roundw
      case rel =>
        refine ⟨x + 1, by omega, by go_num, ?_, hx2.append hown2 (Nat.le_refl _) hg3⟩
        rw [tab_succ]; simpa using hown3
      case measure => simp [intOf]; omega
    · obtain rfl : x = M := by omega
      go_wp2
      go_ret2
      exact ⟨_, rfl, Sets.of_own (xs := tab x (brOf m k r)) hown (by omega) (fun i hi => by
        rw [tab_len] at hi
        rw [tab_nth hi]; exact Hlt64.out i hi), hxw⟩

set_option maxHeartbeats 1000000 in
theorem same40_yes (w : World) (v1 v2 : Value) (p : List Nat) (h : Sets w v1 p) (h' : Sets w v2 p) :
    Calls Try.prog 55 #[v1, v2] w fun e w' => e = .returned (.bool true) ∧ Ext w w' := by
  obtain ⟨A, c, rfl, hs, hf⟩ := h
  obtain ⟨A', c', rfl, hs', hf'⟩ := h'
  have hle := hs.le
  have hcap := hs.cap
  have hx0 := Ext.refl w
  go_enter Try.func55, Try.ntmps55
  go_wp2
  go_loopw [5] (fun i wr => ∃ k : Nat, k ≤ p.length ∧ i = .int .i64 k ∧ Ext w wr) (fun i _ => p.length - (intOf i).toNat)
  case atStart => exact ⟨0, Nat.zero_le _, rfl, hx0⟩
  case round =>
    obtain ⟨k, hk, rfl, hx⟩ := hrel
    by_cases hlt : k < p.length
    · obtain ⟨ad, rfl, hb, hc⟩ := (hs.ext hx).get hlt
      obtain ⟨ad', rfl, hb', hc'⟩ := (hs'.ext hx).get hlt
      go_wp2
      go_quiet (fail)
      go_wp2
      go_roundw
      case rel => exact ⟨k + 1, by omega, by go_num, hx.drewN _⟩
      case measure => simp [intOf]; omega
    · go_wp2
      go_ret
      exact ⟨rfl, hx⟩

end Go.Proofs.Ytdlhfihddipjaaa
