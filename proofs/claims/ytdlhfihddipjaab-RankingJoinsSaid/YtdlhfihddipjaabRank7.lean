/-
  Contracts of the package ranking: Revise, Natural, Contract.
-/
import Derived.Test.YtdlhfihddipjaabRank6
namespace Go.Proofs.Ytdlhfihddipjaab
open Go.RowKit

def revR (n : Int) (r : List Int) (s : Nat) : List Int × Int := if rkSets n r [s] ≠ 0 then ([], rkSets n r [s]) else if s = 0 then ([], 11) else limR (shL r (fun i => if s.testBit i then -rankOf r s else 1) r.length)
theorem cell_new1 (w : World) (x : Value) (t : TypeId) : (w.alloc (.cells #[x] t)).cell? ⟨w.heap.size, 0, none⟩ = some x := cell_of_row _ _ _ _ _ _ (heap_alloc_new w (.cells #[x] t))

set_option maxRecDepth 100000 in
set_option maxHeartbeats 400000 in
theorem Revise_any (w : World) (v : Value) (n : Int) (r : List Int) (s : Nat) (h : Ints .i64 w v r) (hs64 : s < 18446744073709551616) :
    Calls Try.prog 57 #[.int .i64 n, v, .int .u64 s] w fun e w' => ∃ v', e = .returned (.tuple #[v', .int .i64 (revR n r s).2]) ∧ Ints .i64 w' v' (revR n r s).1 ∧ Ext w w' := by
  have hmf : ∀ (fn : Fn) (first cap : Array Value) (w : World), (Instr.makeFunc fn first cap).run Try.prog w = .ok (.func fn first cap) w := fun _ _ _ _ => rfl
  have hcS := cell_new1 w (.int .u64 s) 23
  have hx0 := (Ext.refl w).alloc (.cells #[.int .u64 s] 23)
  have hcS2 : ((w.alloc (.cells #[.int .u64 s] 23)).alloc (.cells #[.int .u64 s] 23)).cell? ⟨w.heap.size, 0, none⟩ = some (.int .u64 s) := (((Ext.refl _).alloc _).cell (by simp)).trans hcS
  have C1 := Lib.hid (rkcheck_any _ v _ n r [s] (h.ext (hx0.alloc _)) (show Sets _ (.slice (some ⟨w.heap.size + 1, 0, none⟩) 1 1) [s] from by have := Sets.lit1 (w.alloc (.cells #[.int .u64 s] 23)) s 23 hs64; simpa using this))
  have H := Lib.hid h
  clear h
  unfold revR
  by_cases h0 : rkSets n r [s] = 0
  · obtain ⟨m, rfl, hm, hr, hl, hx⟩ := rkSets_zero h0
    have g1 := rankOf_le r s
    have g2 := rankOf_ge hr s
    have hC3 : ∀ w1, Ext w w1 → Calls Try.prog 63 #[v, .int .u64 s] w1 fun e w' => e = .returned (.int .i64 (rankOf r s)) ∧ Ext w1 w' := fun w1 hx => rank_any _ v r s (H.out.ext hx) hl hs64
    have hC4 : ∀ w1 b1 b2, Ext w w1 → w1.cell? ⟨b1, 0, none⟩ = some (.int .u64 s) → w1.cell? ⟨b2, 0, none⟩ = some (.int .i64 (rankOf r s)) → b1 < w1.heap.size → b2 < w1.heap.size → Calls Try.prog 61 #[v, .func (.func 99) #[] #[.pointer (some ⟨b1, 0, none⟩), .pointer (some ⟨b2, 0, none⟩)]] w1 fun e w' => ∃ v', e = .returned (.tuple #[v', .int .i64 (limR (shL r (fun i => if s.testBit i then -rankOf r s else 1) r.length)).2]) ∧ Ints .i64 w' v' (limR (shL r (fun i => if s.testBit i then -rankOf r s else 1) r.length)).1 ∧ Ext w1 w' :=
      fun w1 b1 b2 hx c1 c2 l1 l2 => change_any (f := fun i => if s.testBit i then -rankOf r s else 1) w1 v r (H.out.ext hx) hl hr.1.2 (fun i => by split <;> omega) (fun _ _ => by kernel_rfl) fun w2 hy i hi => revClosure37 w2 b1 b2 s i _ ((hy.cell l1).trans c1) ((hy.cell l2).trans c2) ⟨g2, g1⟩ hs64 (by omega)
    have C3 := Lib.hid hC3
    have C4 := Lib.hid hC4
    rw [if_neg (by simpa using h0)]
    rw [h0] at C1
    obtain ⟨L, hL⟩ : ∃ L, L = limR (shL r (fun i => if s.testBit i then -rankOf r s else 1) r.length) := ⟨_, rfl⟩
    rw [← hL] at C4 ⊢
    obtain ⟨x, hxx⟩ : ∃ x, x = rankOf r s := ⟨_, rfl⟩
    rw [← hxx] at C3 C4 g1 g2
    clear h0 hr hs64 hC3 hC4 hL hxx hx
    by_cases e : s = 0
    · rw [if_pos e]
      have t : ((s : Int) == 0) = true := by rw [beq_iff_eq]; omega
      clear e
      go_enter Try.func57, Try.ntmps57
      go_wp2_with fail
      refine C1.out.mono ?_
      rintro e w1 ⟨rfl, rfl⟩
      go_wp2_with fail
      go_ret2
      exact ⟨.slice none 0 0, rfl, Ints.nil _ _, hx0.alloc _⟩
    · rw [if_neg e]
      have t : ((s : Int) == 0) = false := by rw [beq_eq_false_iff_ne]; omega
      clear e
      go_enter Try.func57, Try.ntmps57
      go_wp2_with fail
      refine C1.out.mono ?_
      rintro e w1 ⟨rfl, rfl⟩
      go_wp2_with fail
      refine (C3.out _ (hx0.alloc _)).mono ?_
      rintro e w1 ⟨rfl, hy⟩
      have hcs1 := (hy.cell (by simp; omega)).trans hcS2
      have hx1 := (hx0.alloc _).trans hy
      have hx2 := hx1.alloc (.cells #[.int .i64 x] 3)
      have hlt : w.heap.size < w1.heap.size := by have := hy.size; simp at this; omega
      have cs2 := (((Ext.refl w1).alloc (.cells #[.int .i64 x] 3)).cell hlt).trans hcs1
      have cx2 := cell_new1 w1 (.int .i64 x) 3
      have C5 := Lib.hid (C4.out _ _ _ hx2 cs2 cx2 (by simp; omega) (by simp))
      clear cs2 cx2
      go_wp2_with fail
      refine C5.out.mono ?_
      rintro e w2 ⟨v', rfl, hI, hz⟩
      go_wp2_with fail
      go_ret2
      exact ⟨_, rfl, hI, hx2.trans hz⟩
  · rw [if_pos (by simpa using h0)]
    have t : (rkSets n r [s] != 0) = true := by rw [bne_iff_ne]; exact h0
    obtain ⟨z, hz⟩ : ∃ z, z = rkSets n r [s] := ⟨_, rfl⟩
    rw [← hz] at t C1 ⊢
    clear h0 hz hs64
    go_enter Try.func57, Try.ntmps57
    go_wp2_with fail
    refine C1.out.mono ?_
    rintro e w1 ⟨rfl, rfl⟩
    go_wp2_with fail
    go_ret2
    exact ⟨.slice none 0 0, rfl, Ints.nil _ _, hx0.alloc _⟩

end Go.Proofs.Ytdlhfihddipjaab
