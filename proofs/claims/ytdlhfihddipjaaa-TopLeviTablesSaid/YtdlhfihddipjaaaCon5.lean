/-
  Contracts: contraction.Levi, contraction.Harper; the law TopLeviTables.
-/
import Derived.Test.YtdlhfihddipjaaaCon4
namespace Go.Proofs.Ytdlhfihddipjaaa
open Go.RowKit

set_option maxHeartbeats 1000000 in
theorem leviClosure (w : World) (a b : Nat) (ha : a < 18446744073709551616) (hb : b < 18446744073709551616) :
    Calls Try.prog 101 #[.int .u64 a, .int .u64 b] w fun e w' => e = .returned (.int .u64 (a &&& b : Nat)) ∧ w = w' := by
  have h := u64_and a b ha hb
  go_enter Try.func101, Try.ntmps101
  go_wp2
  go_ret
  exact ⟨rfl, rfl⟩

set_option maxHeartbeats 1000000 in
theorem harperClosure (w : World) (g k a b : Nat) (hc : w.cell? ⟨g, 0, none⟩ = some (.int .u64 k)) (hk : k < 18446744073709551616) (hb : b < 18446744073709551616) :
    Calls Try.prog 102 #[.int .u64 a, .int .u64 b, .pointer (some ⟨g, 0, none⟩)] w fun e w' => e = .returned (.int .u64 (k ||| b : Nat)) ∧ w = w' := by
  have h := u64_or k b hk hb
  go_enter Try.func102, Try.ntmps102
  go_wp2
  go_ret
  exact ⟨rfl, rfl⟩

set_option maxHeartbeats 1000000 in
theorem leviT_ok (w : World) (v : Value) (m k : Nat) (t : List Nat) (h : Sets w v t) (hm : m ≤ 3) (hl : t.length = 2 ^ 2 ^ m) (ht : ∀ i, i < t.length → nthN t i < 2 ^ 2 ^ m) (hk : k < 2 ^ 2 ^ m) :
    Calls Try.prog 53 #[.int .i64 m, .int .u64 k, v] w fun e w' => ∃ v', e = .returned (.tuple #[v', .int .i64 0]) ∧ Sets w' v' (tab (2 ^ 2 ^ m) fun a => a &&& nthN t (sdiff (full (2 ^ m)) a)) ∧ Ext w w' := by
  have hp := pow64 (show m ≤ 4 by omega)
  have C := Lib.hid (opposite_any (g := 101) (cap := #[]) (Q := fun a b => a &&& b) w v m k t h hm hl ht hk (fun _ _ => by kernel_rfl) (fun w1 _ a b ha hb => leviClosure w1 a b (by omega) (by omega)) (fun a b ha hb => by rw [Nat.and_comm]; exact and_lt hb))
  clear h hm hl ht hk hp
  go_enter Try.func53, Try.ntmps53
  go_wp2_with fail
  refine C.out.mono ?_
  rintro e w1 ⟨v', rfl, hS, hx⟩
  go_wp2
  go_ret2
  exact ⟨_, rfl, hS, hx⟩

set_option maxHeartbeats 1000000 in
theorem harperT_ok (w : World) (v : Value) (m k : Nat) (t : List Nat) (h : Sets w v t) (hm : m ≤ 3) (hl : t.length = 2 ^ 2 ^ m) (ht : ∀ i, i < t.length → nthN t i < 2 ^ 2 ^ m) (hk : k < 2 ^ 2 ^ m) :
    Calls Try.prog 54 #[.int .i64 m, .int .u64 k, v] w fun e w' => ∃ v', e = .returned (.tuple #[v', .int .i64 0]) ∧ Sets w' v' (tab (2 ^ 2 ^ m) fun a => k ||| nthN t (sdiff (full (2 ^ m)) a)) ∧ Ext w w' := by
  have hmf : ∀ (fn : Fn) (first cap : Array Value) (w : World), (Instr.makeFunc fn first cap).run Try.prog w = .ok (.func fn first cap) w := fun _ _ _ _ => rfl
  have hp := pow64 (show m ≤ 4 by omega)
  have hx0 := (Ext.refl w).alloc (.cells #[.int .u64 k] 31)
  have hc0 : (w.alloc (.cells #[.int .u64 k] 31)).cell? ⟨w.heap.size, 0, none⟩ = some (.int .u64 k) := cell_of_row _ _ _ _ _ _ (heap_alloc_new w (.cells #[.int .u64 k] 31))
  have C := Lib.hid (opposite_any (g := 102) (cap := #[.pointer (some ⟨w.heap.size, 0, none⟩)]) (Q := fun _ b => k ||| b) _ v m k t (h.ext hx0) hm hl ht hk (fun _ _ => by kernel_rfl) (fun w1 hx a b ha hb => harperClosure w1 w.heap.size k a b ((hx.cell (by simp)).trans hc0) (by omega) (by omega)) (fun a b ha hb => Nat.or_lt_two_pow hk hb))
  clear h hm hl ht hk hp
  go_enter Try.func54, Try.ntmps54
  go_wp2_with fail
  refine C.out.mono ?_
  rintro e w1 ⟨v', rfl, hS, hx⟩
  go_wp2
  go_ret2
  exact ⟨_, rfl, hS, hx0.trans hx⟩


set_option maxRecDepth 100000 in
set_option maxHeartbeats 4000000 in
theorem leviTables_any (w : World) (v : Value) (n : Int) (r : List Int) (h : Ints .i64 w v r) :
    Calls Try.prog 11 #[.int .i64 n, v] w fun e w' => e = .returned (.bool true) ∧ Ext w w' := by
  have H := Lib.hid h
  obtain ⟨A, c, rfl, hs, hf⟩ := h
  have hle := hs.le
  have hcap := hs.cap
  clear hs hf
  by_cases h0 : n < 0
  · go_enter Try.func11, Try.ntmps11
    go_wp2_with fail
    refine (cAwake20_any _).mono ?_
    rintro e w1 ⟨rfl, hX⟩
    go_wp2_with fail
    refine (cAwake20_any _).mono ?_
    rintro e w2 ⟨rfl, hy⟩
    go_wp2_with fail
    go_ret
    exact ⟨rfl, hX.trans hy⟩
  by_cases h3 : 3 < n
  · go_enter Try.func11, Try.ntmps11
    go_wp2_with fail
    refine (cAwake20_any _).mono ?_
    rintro e w1 ⟨rfl, hX⟩
    go_wp2_with fail
    refine (cAwake20_any _).mono ?_
    rintro e w2 ⟨rfl, hy⟩
    go_wp2_with fail
    go_ret
    exact ⟨rfl, hX.trans hy⟩
  by_cases hbig : 8 < r.length
  · go_enter Try.func11, Try.ntmps11
    go_wp2_with fail
    refine (cAwake20_any _).mono ?_
    rintro e w1 ⟨rfl, hX⟩
    go_wp2_with fail
    refine (cAwake20_any _).mono ?_
    rintro e w2 ⟨rfl, hy⟩
    go_wp2_with fail
    go_ret
    exact ⟨rfl, hX.trans hy⟩
  by_cases hok : RevOk n r
  · obtain ⟨m, rfl, hm, hr⟩ := hok
    have hm3 : m ≤ 3 := by omega
    obtain ⟨f, hf⟩ : ∃ f, f = full (2 ^ m) := ⟨_, rfl⟩
    obtain ⟨k, hk⟩ : ∃ k, k = bestOf r f := ⟨_, rfl⟩
    obtain ⟨M, hM⟩ : ∃ M, M = 2 ^ 2 ^ m := ⟨_, rfl⟩
    have hfm : ∀ a, sdiff f a < M := fun a => by rw [hf, hM]; exact sdiff_lt (full_lt _)
    have hkM : k < M := by rw [hk, hM]; exact bestOf_lt2 hr _
    have e1 : tab M (fun a => a &&& nthN (tab M (brOf m k r)) (sdiff f a)) = tab M (bestOf r) := tab_congr fun a ha => by
      rw [tab_nth (hfm a), Nat.and_comm, hk, hf]
      exact (levi_eq hr (by rw [← hM]; exact ha)).symm
    have e2 : tab M (fun a => k ||| nthN (tab M (bestOf r)) (sdiff f a)) = tab M (brOf m k r) := tab_congr fun a ha => by
      rw [tab_nth (hfm a), hk, hf]
      exact (harper_eq hr).symm
    have hT1 : ∀ w1, Ext w w1 → Calls Try.prog 51 #[.int .i64 m, .slice A r.length c] w1 fun e w' => ∃ v', e = .returned (.tuple #[v', .int .i64 0]) ∧ Sets w' v' (tab M (brOf m k r)) ∧ Ext w1 w' := fun w1 hx => by
      have := conTable_ok w1 _ m r (H.out.ext hx) hm3 hr
      rwa [← hM, ← hf, ← hk] at this
    have hT2 : ∀ w1, Ext w w1 → Calls Try.prog 52 #[.int .i64 m, .slice A r.length c] w1 fun e w' => ∃ v', e = .returned (.tuple #[v', .int .i64 0]) ∧ Sets w' v' (tab M (bestOf r)) ∧ Ext w1 w' := fun w1 hx => by
      have := revTable_ok w1 _ m r (H.out.ext hx) hm3 hr
      rwa [← hM] at this
    have hL : ∀ w1 v1, Sets w1 v1 (tab M (brOf m k r)) → Calls Try.prog 53 #[.int .i64 m, .int .u64 k, v1] w1 fun e w' => ∃ v', e = .returned (.tuple #[v', .int .i64 0]) ∧ Sets w' v' (tab M (bestOf r)) ∧ Ext w1 w' := fun w1 v1 h1 => by
      have := leviT_ok w1 v1 m k _ h1 hm3 (by rw [tab_len, hM]) (fun i hi => by rw [tab_len] at hi; rw [tab_nth hi]; exact brOf_lt hr (by rw [← hM]; exact hkM) i) (by rw [← hM]; exact hkM)
      rwa [← hM, ← hf, e1] at this
    have hHp : ∀ w1 v1, Sets w1 v1 (tab M (bestOf r)) → Calls Try.prog 54 #[.int .i64 m, .int .u64 k, v1] w1 fun e w' => ∃ v', e = .returned (.tuple #[v', .int .i64 0]) ∧ Sets w' v' (tab M (brOf m k r)) ∧ Ext w1 w' := fun w1 v1 h1 => by
      have := harperT_ok w1 v1 m k _ h1 hm3 (by rw [tab_len, hM]) (fun i hi => by rw [tab_len] at hi; rw [tab_nth hi]; exact bestOf_lt2 hr i) (by rw [← hM]; exact hkM)
      rwa [← hM, ← hf, e2] at this
    have hBl : ∀ w1, Ext w w1 → Calls Try.prog 36 #[.int .i64 m, .slice A r.length c] w1 fun e w' => e = .returned (.tuple #[.int .u64 k, .int .i64 0]) ∧ w1 = w' := fun w1 hx => by
      have := belief_ok w1 _ m r (H.out.ext hx) hm hr
      rwa [← hf, ← hk] at this
    have HT1 := Lib.hid hT1
    have HT2 := Lib.hid hT2
    have HL := Lib.hid hL
    have HHp := Lib.hid hHp
    have HBl := Lib.hid hBl
    have Hr := Lib.hid hr
    clear hT1 hT2 hL hHp hBl hr e1 e2 hfm hf hk hM hkM h0 h3
    have t3 : decide ((3 : Int) < (m : Int)) = false := by simp; omega
    go_enter Try.func11, Try.ntmps11
    go_wp2_with fail
    refine (cAwake20_any _).mono ?_
    rintro e w1 ⟨rfl, hX⟩
    go_wp2_with fail
    refine (revCheck_ok _ _ m r (H.out.ext hX) hm Hr.out).mono ?_
    rintro e w2 ⟨rfl, rfl⟩
    go_wp2_with fail
    refine (HBl.out _ hX).mono ?_
    rintro e w2 ⟨rfl, rfl⟩
    go_wp2_with fail
    refine (HT1.out _ hX).mono ?_
    rintro e w2 ⟨c1, rfl, hc1, hy⟩
    have hX := hX.trans hy
    have Hc1 := Lib.hid hc1
    clear hc1 hy
    go_wp2_with fail
    refine (HT2.out _ hX).mono ?_
    rintro e w3 ⟨r1, rfl, hr1, hy⟩
    have hX := hX.trans hy
    have Hc1 := Lib.hid (Hc1.out.ext hy)
    have Hr1 := Lib.hid hr1
    clear hr1 hy
    go_wp2_with fail
    refine (HL.out _ _ Hc1.out).mono ?_
    rintro e w4 ⟨x1, rfl, hx1, hy⟩
    have hX := hX.trans hy
    have Hc1 := Lib.hid (Hc1.out.ext hy)
    have Hr1 := Lib.hid (Hr1.out.ext hy)
    have Hx1 := Lib.hid hx1
    clear hx1 hy
    go_wp2_with fail
    refine (HHp.out _ _ Hr1.out).mono ?_
    rintro e w5 ⟨y1, rfl, hy1, hy⟩
    have hX := hX.trans hy
    have Hc1 := Lib.hid (Hc1.out.ext hy)
    have Hr1 := Lib.hid (Hr1.out.ext hy)
    have Hx1 := Lib.hid (Hx1.out.ext hy)
    have Hy1 := Lib.hid hy1
    clear hy1 hy
    go_wp2_with fail
    refine (same40_yes _ _ _ _ Hx1.out Hr1.out).mono ?_
    rintro e w6 ⟨rfl, hy⟩
    have hX := hX.trans hy
    have Hc1 := Lib.hid (Hc1.out.ext hy)
    have Hy1 := Lib.hid (Hy1.out.ext hy)
    clear hy
    go_wp2_with fail
    refine (same40_yes _ _ _ _ Hy1.out Hc1.out).mono ?_
    rintro e w7 ⟨rfl, hy⟩
    have hX := hX.trans hy
    clear hy
    go_wp2_with fail
    go_ret
    exact ⟨rfl, hX⟩
  · go_enter Try.func11, Try.ntmps11
    go_wp2_with fail
    refine (cAwake20_any _).mono ?_
    rintro e w1 ⟨rfl, hX⟩
    go_wp2_with fail
    refine (revCheck_bad _ _ n r (H.out.ext hX) hok).mono ?_
    rintro e w2 ⟨cc, hcc, rfl, rfl⟩
    have t : (cc != 0) = true := by rw [bne_iff_ne]; exact hcc
    clear hcc
    go_wp2_with fail
    refine (cAwake20_any _).mono ?_
    rintro e w2 ⟨rfl, hy⟩
    go_wp2_with fail
    go_ret
    exact ⟨rfl, hX.trans hy⟩

end Go.Proofs.Ytdlhfihddipjaaa
