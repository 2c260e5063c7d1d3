/-
  Contracts of the package ranking: Condition.
-/
import Derived.Test.YtdlhfihddipjaabRank9
import Derived.Deep.RegionHeld3
namespace Go.Proofs.Ytdlhfihddipjaab
open Go.RowKit

def condR (n : Int) (r : List Int) (s : Nat) (f : Int) : List Int × Int := if rkSets n r [s] ≠ 0 then ([], rkSets n r [s]) else if f < 0 ∨ 1000 < f then ([], 2) else if s = 0 ∨ sdiff (full r.length) s = 0 then ([], 11) else limR (shL r (fun i => if s.testBit i then -rankOf r s else f - rankOf r (sdiff (full r.length) s)) r.length)

set_option maxRecDepth 100000 in
set_option maxHeartbeats 20000000 in
theorem Condition_any (w : World) (v : Value) (n : Int) (r : List Int) (s : Nat) (f : Int) (h : Ints .i64 w v r) (hs64 : s < 18446744073709551616) :
    Calls Try.prog 56 #[.int .i64 n, v, .int .u64 s, .int .i64 f] w fun e w' => ∃ v', e = .returned (.tuple #[v', .int .i64 (condR n r s f).2]) ∧ Ints .i64 w' v' (condR n r s f).1 ∧ Ext w w' := by
  have hmf : ∀ (fn : Fn) (first cap : Array Value) (w : World), (Instr.makeFunc fn first cap).run Try.prog w = .ok (.func fn first cap) w := fun _ _ _ _ => rfl
  have hcS := cell_new1 w (.int .u64 s) 23
  have hx0 := (Ext.refl w).alloc (.cells #[.int .u64 s] 23)
  have hx2 := hx0.alloc (.cells #[.int .u64 s] 23)
  have hcS2 : ((w.alloc (.cells #[.int .u64 s] 23)).alloc (.cells #[.int .u64 s] 23)).cell? ⟨w.heap.size, 0, none⟩ = some (.int .u64 s) := (((Ext.refl _).alloc _).cell (by simp)).trans hcS
  have C1 := Lib.hid (rkcheck_any _ v _ n r [s] (h.ext hx2) (show Sets _ (.slice (some ⟨w.heap.size + 1, 0, none⟩) 1 1) [s] from by have := Sets.lit1 (w.alloc (.cells #[.int .u64 s] 23)) s 23 hs64; simpa using this))
  have H := Lib.hid h
  clear h
  unfold condR
  by_cases h0 : rkSets n r [s] = 0
  · obtain ⟨m, rfl, hm, hr, hl, hx⟩ := rkSets_zero h0
    have hd64 : sdiff (full r.length) s < 18446744073709551616 := Nat.lt_trans (sdiff_lt (full_lt _)) (pow_lt64 (by omega))
    have g1 := rankOf_le r s
    have g2 := rankOf_ge hr s
    have g3 := rankOf_le r (sdiff (full r.length) s)
    have g4 := rankOf_ge hr (sdiff (full r.length) s)
    have C2 := Lib.hid (rest_any _ v r s (H.out.ext hx2) hl hs64)
    have hC3 : ∀ w1, Ext w w1 → Calls Try.prog 63 #[v, .int .u64 s] w1 fun e w' => e = .returned (.int .i64 (rankOf r s)) ∧ w1 = w' := fun w1 hx => rank_same _ v r s (H.out.ext hx) hl hs64
    have hC4 : ∀ w1, Ext w w1 → Calls Try.prog 63 #[v, .int .u64 (sdiff (full r.length) s : Nat)] w1 fun e w' => e = .returned (.int .i64 (rankOf r (sdiff (full r.length) s))) ∧ w1 = w' := fun w1 hx => rank_same _ v r _ (H.out.ext hx) hl hd64
    have hC5 : ∀ w1, Ext w w1 → Calls Try.prog 60 #[v, .int .u64 s] w1 fun e w' => e = .returned (.int .u64 (sdiff (full r.length) s : Nat)) ∧ w1 = w' := fun w1 hx => rest_any _ v r s (H.out.ext hx) hl hs64
    have hC6 : 0 ≤ f ∧ f ≤ 1000 → ∀ w1 b1 b2 b3, Ext w w1 → w1.cell? ⟨b1, 0, none⟩ = some (.int .u64 s) → w1.cell? ⟨b2, 0, none⟩ = some (.int .i64 (-rankOf r s)) → w1.cell? ⟨b3, 0, none⟩ = some (.int .i64 (f - rankOf r (sdiff (full r.length) s))) → b1 < w1.heap.size → b2 < w1.heap.size → b3 < w1.heap.size → Calls Try.prog 61 #[v, .func (.func 98) #[] #[.pointer (some ⟨b1, 0, none⟩), .pointer (some ⟨b2, 0, none⟩), .pointer (some ⟨b3, 0, none⟩)]] w1 fun e w' => ∃ v', e = .returned (.tuple #[v', .int .i64 (limR (shL r (fun i => if s.testBit i then -rankOf r s else f - rankOf r (sdiff (full r.length) s)) r.length)).2]) ∧ Ints .i64 w' v' (limR (shL r (fun i => if s.testBit i then -rankOf r s else f - rankOf r (sdiff (full r.length) s)) r.length)).1 ∧ Ext w1 w' :=
      fun hf w1 b1 b2 b3 hx c1 c2 c3 l1 l2 l3 => change_any (f := (fun i => if s.testBit i then -rankOf r s else f - rankOf r (sdiff (full r.length) s))) w1 v r (H.out.ext hx) hl hr.1.2 (fun i => by split <;> omega) (fun _ _ => by kernel_rfl) fun w2 hy i hi => condClosure w2 b1 b2 b3 s i _ _ ((hy.cell l1).trans c1) ((hy.cell l2).trans c2) ((hy.cell l3).trans c3) hs64 (by omega)
    have C3 := Lib.hid hC3
    have C4 := Lib.hid hC4
    have C5 := Lib.hid hC5
    have C6 := Lib.hid hC6
    rw [if_neg (by simpa using h0)]
    rw [h0] at C1
    obtain ⟨L, hL⟩ : ∃ L, L = limR (shL r (fun i => if s.testBit i then -rankOf r s else f - rankOf r (sdiff (full r.length) s)) r.length) := ⟨_, rfl⟩
    rw [← hL] at C6 ⊢
    obtain ⟨d, hd⟩ : ∃ d, d = sdiff (full r.length) s := ⟨_, rfl⟩
    rw [← hd] at C2 C4 C5 C6 g3 g4 ⊢
    obtain ⟨x, hxx⟩ : ∃ x, x = rankOf r s := ⟨_, rfl⟩
    obtain ⟨y, hyy⟩ : ∃ y, y = rankOf r d := ⟨_, rfl⟩
    rw [← hxx] at C3 C6 g1 g2
    rw [← hyy] at C4 C6 g3 g4
    clear h0 hr hs64 hd64 hC3 hC4 hC5 hC6 hL hxx hyy hd hx
    by_cases f0 : f < 0
    · rw [if_pos (.inl f0)]
      clear C2 C3 C4 C5 C6
      go_enter Try.func56, Try.ntmps56
      go_wp2_with fail
      refine C1.out.mono ?_
      rintro e w1 ⟨rfl, rfl⟩
      go_wp2_with fail
      go_ret2
      exact ⟨.slice none 0 0, rfl, Ints.nil _ _, hx2⟩
    by_cases f1 : 1000 < f
    · rw [if_pos (.inr f1)]
      clear C2 C3 C4 C5 C6
      go_enter Try.func56, Try.ntmps56
      go_wp2_with fail
      refine C1.out.mono ?_
      rintro e w1 ⟨rfl, rfl⟩
      go_wp2_with fail
      go_ret2
      exact ⟨.slice none 0 0, rfl, Ints.nil _ _, hx2⟩
    rw [if_neg (by omega)]
    have C6 := Lib.hid (C6.out (by omega))
    by_cases e : s = 0
    · rw [if_pos (.inl e)]
      have t : ((s : Int) == 0) = true := by rw [beq_iff_eq]; omega
      clear e C2 C3 C4 C5 C6
      go_enter Try.func56, Try.ntmps56
      go_wp2_with fail
      refine C1.out.mono ?_
      rintro e w1 ⟨rfl, rfl⟩
      go_wp2_with fail
      go_ret2
      exact ⟨.slice none 0 0, rfl, Ints.nil _ _, hx2⟩
    have t : ((s : Int) == 0) = false := by rw [beq_eq_false_iff_ne]; omega
    by_cases e2 : d = 0
    · rw [if_pos (.inr e2)]
      have t2 : ((d : Int) == 0) = true := by rw [beq_iff_eq]; omega
      clear e e2 C3 C4 C5 C6
      go_enter Try.func56, Try.ntmps56
      go_wp2_with fail
      refine C1.out.mono ?_
      rintro e w1 ⟨rfl, rfl⟩
      go_wp2_with fail
      refine C2.out.mono ?_
      rintro e w1 ⟨rfl, rfl⟩
      go_wp2_with fail
      go_ret2
      exact ⟨.slice none 0 0, rfl, Ints.nil _ _, hx2⟩
    rw [if_neg (by omega)]
    have t2 : ((d : Int) == 0) = false := by rw [beq_eq_false_iff_ne]; omega
    clear e e2
    go_enter Try.func56, Try.ntmps56
    go_wp2_with fail
    refine C1.out.mono ?_
    rintro e w1 ⟨rfl, rfl⟩
    go_wp2_with fail
    refine C2.out.mono ?_
    rintro e w1 ⟨rfl, rfl⟩
    clear C1 C2
    obtain ⟨p, hp⟩ : ∃ p, p = -x := ⟨_, rfl⟩
    obtain ⟨q, hq⟩ : ∃ q, q = f - y := ⟨_, rfl⟩
    have hwp : IntKind.i64.wrap (-x) = p := by rw [IntKind.wrap_i64, hp]; omega
    have hwq : IntKind.i64.wrap (f - y) = q := by rw [IntKind.wrap_i64, hq]; omega
    rw [← hp, ← hq] at C6
    clear hp hq g1 g2 g3 g4
    have k1 : ∀ a b : Int, (((((w.alloc (.cells #[.int .u64 s] 23)).alloc (.cells #[.int .u64 s] 23)).alloc (.cells #[.int .i64 a] 3)).alloc (.cells #[.int .i64 b] 3)).drew).cell? ⟨w.heap.size, 0, none⟩ = some (.int .u64 s) := fun a b => ((((Ext.refl _).alloc _).alloc _).drew.cell (by simp <;> omega)).trans hcS2
    have k2 : ∀ a b : Int, (((((w.alloc (.cells #[.int .u64 s] 23)).alloc (.cells #[.int .u64 s] 23)).alloc (.cells #[.int .i64 a] 3)).alloc (.cells #[.int .i64 b] 3)).drew).cell? ⟨w.heap.size + 1 + 1, 0, none⟩ = some (.int .i64 a) := fun a b => (((Ext.refl _).alloc _).drew.cell (by simp <;> omega)).trans (by have := cell_new1 ((w.alloc (.cells #[.int .u64 s] 23)).alloc (.cells #[.int .u64 s] 23)) (.int .i64 a) 3; simpa using this)
    have k3 : ∀ a b : Int, (((((w.alloc (.cells #[.int .u64 s] 23)).alloc (.cells #[.int .u64 s] 23)).alloc (.cells #[.int .i64 a] 3)).alloc (.cells #[.int .i64 b] 3)).drew).cell? ⟨w.heap.size + 1 + 1 + 1, 0, none⟩ = some (.int .i64 b) := fun a b => ((Ext.refl _).drew.cell (by simp <;> omega)).trans (by have := cell_new1 (((w.alloc (.cells #[.int .u64 s] 23)).alloc (.cells #[.int .u64 s] 23)).alloc (.cells #[.int .i64 a] 3)) (.int .i64 b) 3; simpa using this)
    have hx4 : ∀ a b : Int, Ext w (((((w.alloc (.cells #[.int .u64 s] 23)).alloc (.cells #[.int .u64 s] 23)).alloc (.cells #[.int .i64 a] 3)).alloc (.cells #[.int .i64 b] 3)).drew) := fun a b => ((hx2.alloc _).alloc _).drew
    have HX := Lib.hid hx4
    have K1 := Lib.hid k1
    have K2 := Lib.hid k2
    have K3 := Lib.hid k3
    clear hx4 k1 k2 k3
    go_wp2_with fail
    go_region_held3 (fun w' : World => w'.cell? ⟨w.heap.size, 0, none⟩ = some (.int .u64 s) ∧ Ext w w' ∧ w.heap.size < w'.heap.size) (first | exact ⟨hcS2, hx2.drew, by simp <;> omega⟩ | assumption | (go_split_ands; refine ⟨?_, ?_, ?_⟩ <;> first | assumption | (simp [*, World.cell?_alloc_some]; done) | exact ((hx2.alloc _).drew) | exact (((hx2.alloc _).alloc _).drew) | (refine Ext.setCell ?_ (by simp <;> omega) _; assumption) | (simp; omega))) (first | (go_at_call 60; refine (C5.out _ ?_).mono ?_; (go_split_ands; assumption); rintro e w9 ⟨rfl, rfl⟩) | (go_at_call_of 63 s; refine (C3.out _ ?_).mono ?_; (go_split_ands; assumption); rintro e w9 ⟨rfl, rfl⟩) | (go_at_call_of 63 d; refine (C4.out _ ?_).mono ?_; (go_split_ands; assumption); rintro e w9 ⟨rfl, rfl⟩))
    all_goals
      clear C3 C4 C5
      go_wp2_with fail
      refine (C6.out _ _ _ _ (HX.out _ _) ?_ ?_ ?_ ?_ ?_ ?_).mono ?_
      · exact K1.out _ _
      · first | exact K2.out _ _ | exact K3.out _ _
      · first | exact K3.out _ _ | exact K2.out _ _
      · simp <;> omega
      · simp <;> omega
      · simp <;> omega
      rintro e w2 ⟨v', rfl, hI, hz⟩
      go_wp2_with fail
      go_ret2
      exact ⟨_, rfl, hI, (HX.out _ _).trans hz⟩
  · rw [if_pos (by simpa using h0)]
    have t : (rkSets n r [s] != 0) = true := by rw [bne_iff_ne]; exact h0
    obtain ⟨z, hz⟩ : ∃ z, z = rkSets n r [s] := ⟨_, rfl⟩
    rw [← hz] at t C1 ⊢
    clear h0 hz hs64
    go_enter Try.func56, Try.ntmps56
    go_wp2_with fail
    refine C1.out.mono ?_
    rintro e w1 ⟨rfl, rfl⟩
    go_wp2_with fail
    go_ret2
    exact ⟨.slice none 0 0, rfl, Ints.nil _ _, hx2⟩

end Go.Proofs.Ytdlhfihddipjaab
