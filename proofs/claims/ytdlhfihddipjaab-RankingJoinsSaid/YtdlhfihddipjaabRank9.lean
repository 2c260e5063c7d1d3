/-
  Contracts of the package ranking: Contract.
-/
import Derived.Test.YtdlhfihddipjaabRank8
namespace Go.Proofs.Ytdlhfihddipjaab
open Go.RowKit

def conR (n : Int) (r : List Int) (s : Nat) : List Int × Int := if rkSets n r [s] ≠ 0 then ([], rkSets n r [s]) else if sdiff (full r.length) s = 0 then ([], 11) else limR (shL r (fun i => if (sdiff (full r.length) s).testBit i then -rankOf r (sdiff (full r.length) s) else 0) r.length)

set_option maxRecDepth 100000 in
set_option maxHeartbeats 400000 in
theorem Contract_any (w : World) (v : Value) (n : Int) (r : List Int) (s : Nat) (h : Ints .i64 w v r) (hs64 : s < 18446744073709551616) :
    Calls Try.prog 16 #[.int .i64 n, v, .int .u64 s] w fun e w' => ∃ v', e = .returned (.tuple #[v', .int .i64 (conR n r s).2]) ∧ Ints .i64 w' v' (conR n r s).1 ∧ Ext w w' := by
  obtain ⟨A, c, rfl, hsl, hfi⟩ := id h
  clear hsl hfi
  have hmf : ∀ (fn : Fn) (first cap : Array Value) (w : World), (Instr.makeFunc fn first cap).run Try.prog w = .ok (.func fn first cap) w := fun _ _ _ _ => rfl
  have hcV := cell_new1 w (.slice A r.length c) 22
  have hx0 := (Ext.refl w).alloc (.cells #[.slice A r.length c] 22)
  have hcV2 : ((w.alloc (.cells #[.slice A r.length c] 22)).alloc (.cells #[.int .u64 s] 23)).cell? ⟨w.heap.size, 0, none⟩ = some (.slice A r.length c) := (((Ext.refl _).alloc _).cell (by simp)).trans hcV
  have hx2 := hx0.alloc (.cells #[.int .u64 s] 23)
  have C1 := Lib.hid (rkcheck_any _ (.slice A r.length c) _ n r [s] (h.ext hx2) (show Sets _ (.slice (some ⟨w.heap.size + 1, 0, none⟩) 1 1) [s] from by have := Sets.lit1 (w.alloc (.cells #[.slice A r.length c] 22)) s 23 hs64; simpa using this))
  have H := Lib.hid h
  clear h
  unfold conR
  by_cases h0 : rkSets n r [s] = 0
  · obtain ⟨m, rfl, hm, hr, hl, hx⟩ := rkSets_zero h0
    have hd64 : sdiff (full r.length) s < 18446744073709551616 := Nat.lt_trans (sdiff_lt (full_lt _)) (pow_lt64 (by omega))
    have g3 := rankOf_le r (sdiff (full r.length) s)
    have g4 := rankOf_ge hr (sdiff (full r.length) s)
    have C2 := Lib.hid (rest_any _ (.slice A r.length c) r s (H.out.ext hx2) hl hs64)
    have hC4 : ∀ w1 b1 b2, Ext w w1 → w1.cell? ⟨b1, 0, none⟩ = some (.int .u64 (sdiff (full r.length) s : Nat)) → w1.cell? ⟨b2, 0, none⟩ = some (.slice A r.length c) → b1 < w1.heap.size → b2 < w1.heap.size → Calls Try.prog 61 #[.slice A r.length c, .func (.func 62) #[] #[.pointer (some ⟨b1, 0, none⟩), .pointer (some ⟨b2, 0, none⟩)]] w1 fun e w' => ∃ v', e = .returned (.tuple #[v', .int .i64 (limR (shL r (fun i => if (sdiff (full r.length) s).testBit i then -rankOf r (sdiff (full r.length) s) else 0) r.length)).2]) ∧ Ints .i64 w' v' (limR (shL r (fun i => if (sdiff (full r.length) s).testBit i then -rankOf r (sdiff (full r.length) s) else 0) r.length)).1 ∧ Ext w1 w' :=
      fun w1 b1 b2 hx c1 c2 l1 l2 => change_any (f := (fun i => if (sdiff (full r.length) s).testBit i then -rankOf r (sdiff (full r.length) s) else 0)) w1 (.slice A r.length c) r (H.out.ext hx) hl hr.1.2 (fun i => by split <;> omega) (fun _ _ => by kernel_rfl) fun w2 hy i hi => conClosure37 w2 (.slice A r.length c) m r (H.out.ext (hx.trans hy)) hl hr b1 b2 _ i ((hy.cell l1).trans c1) ((hy.cell l2).trans c2) hd64 (by omega)
    have C4 := Lib.hid hC4
    rw [if_neg (by simpa using h0)]
    rw [h0] at C1
    obtain ⟨L, hL⟩ : ∃ L, L = limR (shL r (fun i => if (sdiff (full r.length) s).testBit i then -rankOf r (sdiff (full r.length) s) else 0) r.length) := ⟨_, rfl⟩
    rw [← hL] at C4 ⊢
    clear hL
    obtain ⟨d, hd⟩ : ∃ d, d = sdiff (full r.length) s := ⟨_, rfl⟩
    rw [← hd] at C2 C4 ⊢
    have hcD : (((w.alloc (.cells #[.slice A r.length c] 22)).alloc (.cells #[.int .u64 s] 23)).alloc (.cells #[.int .u64 d] 23)).cell? ⟨w.heap.size + 2, 0, none⟩ = some (.int .u64 d) := by have := cell_new1 ((w.alloc (.cells #[.slice A r.length c] 22)).alloc (.cells #[.int .u64 s] 23)) (.int .u64 d) 23; simpa using this
    have hcV4 : (((w.alloc (.cells #[.slice A r.length c] 22)).alloc (.cells #[.int .u64 s] 23)).alloc (.cells #[.int .u64 d] 23)).cell? ⟨w.heap.size, 0, none⟩ = some (.slice A r.length c) := (((Ext.refl _).alloc _).cell (by simp <;> omega)).trans hcV2
    have hx3 := hx2.alloc (.cells #[.int .u64 d] 23)
    have C5 := Lib.hid (C4.out _ _ _ hx3 hcD hcV4 (by simp) (by simp <;> omega))
    clear h0 hr hs64 hC4 hx g3 g4 hd64 hd
    by_cases e : d = 0
    · rw [if_pos e]
      have t : ((d : Int) == 0) = true := by rw [beq_iff_eq]; omega
      clear e
      go_enter Try.func16, Try.ntmps16
      go_wp2_with fail
      refine C1.out.mono ?_
      rintro e w1 ⟨rfl, rfl⟩
      go_wp2_with fail
      refine C2.out.mono ?_
      rintro e w1 ⟨rfl, rfl⟩
      go_wp2_with fail
      go_ret2
      exact ⟨.slice none 0 0, rfl, Ints.nil _ _, hx3⟩
    · rw [if_neg e]
      have t : ((d : Int) == 0) = false := by rw [beq_eq_false_iff_ne]; omega
      clear e
      go_enter Try.func16, Try.ntmps16
      go_wp2_with fail
      refine C1.out.mono ?_
      rintro e w1 ⟨rfl, rfl⟩
      go_wp2_with fail
      refine C2.out.mono ?_
      rintro e w1 ⟨rfl, rfl⟩
      go_wp2_with fail
      refine C5.out.mono ?_
      rintro e w2 ⟨v', rfl, hI, hz⟩
      go_wp2_with fail
      go_ret2
      exact ⟨_, rfl, hI, hx3.trans hz⟩
  · rw [if_pos (by simpa using h0)]
    have t : (rkSets n r [s] != 0) = true := by rw [bne_iff_ne]; exact h0
    obtain ⟨z, hz⟩ : ∃ z, z = rkSets n r [s] := ⟨_, rfl⟩
    rw [← hz] at t C1 ⊢
    clear h0 hz hs64
    go_enter Try.func16, Try.ntmps16
    go_wp2_with fail
    refine C1.out.mono ?_
    rintro e w1 ⟨rfl, rfl⟩
    go_wp2_with fail
    go_ret2
    exact ⟨.slice none 0 0, rfl, Ints.nil _ _, hx2⟩

end Go.Proofs.Ytdlhfihddipjaab
