/-
  The agreement texts: the examples of the chapter hold (awake).
-/
import Derived.Test.YtdlhfihddipjaabAgW
import Derived.Test.YtdlhfihddipjaabAg20
import Derived.Test.YtdlhfihddipjaabAg24
import Derived.Test.YtdlhfihddipjaabAg5
import Derived.Test.YtdlhfihddipjaabAg9
import Derived.Deep.RegionHeld3
namespace Go.Proofs.Ytdlhfihddipjaab
open Go.RowKit

def exC2 : List (List Int) := [[0, 0, 0, 3, 4, 4, 6, 6, 8], [0, 0, 0, 3, 4, 4, 4, 4, 8]]
theorem ex_post0 : postR exW exCC 0 0 268 = ((1, 3), 0) := by decide +kernel
theorem ex_post1 : postR exW exCC 1 0 268 = ((1, 2), 0) := by decide +kernel
theorem ex_any : anyErr exW exCC 0 268 = 0 := by decide +kernel
theorem ex_ex : exR exW exCC 268 = [exCC, exC exW exCC 268 1, exC2] := by decide +kernel
theorem ex_agr0 : agrR exW exCC 0 268 = (false, 0) := by decide +kernel
theorem ex_agr2 : agrR exW exC2 0 268 = (true, 0) := by decide +kernel
theorem ex_commErr : commErr exW exCC 0 = 0 := by decide +kernel
theorem ex_comm : IsComm 9 exCC (upTo 9 fun _ => 0) := by
  refine ⟨⟨by decide, by decide +kernel⟩, ?_, ?_⟩
  · intro a ha
    have : a = 0 ∨ a = 1 := by simp [exCC] at ha; omega
    rcases this with rfl | rfl <;> (intro i hi; revert i; decide +kernel)
  · intro r hr hall
    have h0 := hall 0 (by decide)
    have h1 := hall 1 (by decide)
    have e1 := h0 1 (by decide)
    have e2 := h0 2 (by decide)
    have e3 := h1 3 (by decide)
    have e4 := h0 4 (by decide)
    have e5 := h0 5 (by decide)
    have e6 := h1 6 (by decide)
    have e7 := h0 7 (by decide)
    have e8 := h0 8 (by decide)
    have k : ∀ i, i < 9 → nth r i = nth r 0 := by
      intro i hi
      have q1 : nth r 1 = nth r 0 := e1
      have q2 : nth r 2 = nth r 0 := e2
      have q3 : nth r 3 = nth r 0 := e3
      have q4 : nth r 4 = nth r 3 := e4
      have q5 : nth r 5 = nth r 3 := e5
      have q6 : nth r 6 = nth r 4 := e6
      have q7 : nth r 7 = nth r 6 := e7
      have q8 : nth r 8 = nth r 6 := e8
      have : i = 0 ∨ i = 1 ∨ i = 2 ∨ i = 3 ∨ i = 4 ∨ i = 5 ∨ i = 6 ∨ i = 7 ∨ i = 8 := by omega
      rcases this with rfl | rfl | rfl | rfl | rfl | rfl | rfl | rfl | rfl <;> omega
    intro i hi
    rw [upTo_len] at hi
    rw [upTo_nth hi]
    exact k i hi
theorem ex_511 {c : Nat} (h : CommIs exW exCC 0 c) : c = 511 := by
  unfold CommIs at h
  rw [if_pos ex_commErr] at h
  obtain ⟨j, hj, rfl⟩ := h
  rw [comm_unique hj ex_comm]
  decide +kernel

set_option maxRecDepth 100000 in
set_option maxHeartbeats 8000000 in
theorem awake24_any (w : World) : Calls Try.prog 26 #[] w fun e w' => e = .returned (.bool true) ∧ Ext w w' := by
  have HEx : Hid (∀ w1, Calls Try.prog 70 #[] w1 fun x w' => ∃ o1 o2, x = .returned (.agg #[o1, o2]) ∧ Prior w' o1 o2 exW exCC ∧ IsSl o1 ∧ IsSl o2 ∧ Ext w1 w') := example24_any
  have HP0 : Hid (∀ w1 v1 v2, Prior w1 v1 v2 exW exCC → Calls Try.prog 32 #[.agg #[v1, v2], .int .i64 0, .int .i64 0, .int .u64 268] w1 fun x w' => x = .returned (.tuple #[.agg #[.int .i64 1, .int .i64 3], .int .i64 0]) ∧ Ext w1 w') := fun w1 v1 v2 h => by
    have := Posterior_any w1 v1 v2 exW exCC h 0 0 268 (by decide)
    rwa [ex_post0] at this
  have HP1 : Hid (∀ w1 v1 v2, Prior w1 v1 v2 exW exCC → Calls Try.prog 32 #[.agg #[v1, v2], .int .i64 1, .int .i64 0, .int .u64 268] w1 fun x w' => x = .returned (.tuple #[.agg #[.int .i64 1, .int .i64 2], .int .i64 0]) ∧ Ext w1 w') := fun w1 v1 v2 h => by
    have := Posterior_any w1 v1 v2 exW exCC h 1 0 268 (by decide)
    rwa [ex_post1] at this
  have HXc : Hid (∀ w1 v1 v2, Prior w1 v1 v2 exW exCC → Calls Try.prog 27 #[.agg #[v1, v2], .int .u64 268] w1 fun x w' => ∃ o, x = .returned (.tuple #[o, .int .i64 0]) ∧ Pris w' o exW [exCC, exC exW exCC 268 1, exC2] ∧ Ext w1 w') := fun w1 v1 v2 h => by
    have := Exchange_any w1 v1 v2 exW exCC h 268 (by decide)
    rwa [ex_any, ex_ex] at this
  have HCm : Hid (∀ w1 v1 v2, Prior w1 v1 v2 exW exCC → Calls Try.prog 38 #[.agg #[v1, v2], .int .i64 0] w1 fun x w' => x = .returned (.tuple #[.int .u64 511, .int .i64 0]) ∧ Ext w1 w') := fun w1 v1 v2 h =>
    (Common_any w1 v1 v2 exW exCC h 0).mono fun x w' ⟨c, e1, e2, e3⟩ => ⟨by rw [e1, ex_511 e2, ex_commErr]; rfl, e3⟩
  have HA0 : Hid (∀ w1 v1 v2, Prior w1 v1 v2 exW exCC → Calls Try.prog 31 #[.agg #[v1, v2], .int .i64 0, .int .u64 268] w1 fun x w' => x = .returned (.tuple #[.bool false, .int .i64 0]) ∧ Ext w1 w') := fun w1 v1 v2 h => by
    have := Agree_any w1 v1 v2 exW exCC h 0 268 (by decide)
    rwa [ex_agr0] at this
  have HA2 : Hid (∀ w1 v1 v2, Prior w1 v1 v2 exW exC2 → Calls Try.prog 31 #[.agg #[v1, v2], .int .i64 0, .int .u64 268] w1 fun x w' => x = .returned (.tuple #[.bool true, .int .i64 0]) ∧ Ext w1 w') := fun w1 v1 v2 h => by
    have := Agree_any w1 v1 v2 exW exC2 h 0 268 (by decide)
    rwa [ex_agr2] at this
  have HSm : Hid (∀ w1 u1 u2 v1 v2, Prior w1 u1 u2 exW exC2 → Prior w1 v1 v2 exW exC2 → Calls Try.prog 29 #[.agg #[u1, u2], .agg #[v1, v2]] w1 fun e w' => e = .returned (.bool true) ∧ Ext w1 w') := fun w1 u1 u2 v1 v2 ha hb => by
    have := same24_any w1 u1 u2 v1 v2 exW exW exC2 exC2 ha hb
    rwa [show decide (exW = exW ∧ exC2 = exC2) = true from by simp] at this
  go_enter Try.func26, Try.ntmps26
  -- the first posterior
  go_wp2_with fail
  refine (HEx.out _).mono ?_
  rintro x w1 ⟨o1, o2, rfl, hp, ⟨A1, n1, c1, rfl⟩, ⟨A2, n2, c2, rfl⟩, hx1⟩
  have hp := Lib.hid hp
  go_wp2_with fail
  refine (HP0.out _ _ _ hp.out).mono ?_
  rintro x w2 ⟨rfl, hy⟩
  have hx2 := hx1.trans hy
  have ha := cellsP w2 (.int .i64 1) (.int .i64 3) 56
  have hx3 := hx2.alloc (.cells #[.int .i64 1, .int .i64 3] 56)
  have hb2 : w2.heap.size < (w2.alloc (.cells #[.int .i64 1, .int .i64 3] 56)).heap.size := by simp
  clear hp hy hx1
  -- the second
  go_wp2_with fail
  refine (HEx.out _).mono ?_
  rintro x w3 ⟨o3, o4, rfl, hp, ⟨A3, n3, c3, rfl⟩, ⟨A4, n4, c4, rfl⟩, hy⟩
  have hp := Lib.hid hp
  go_wp2_with fail
  refine (HP1.out _ _ _ hp.out).mono ?_
  rintro x w4 ⟨rfl, hy2⟩
  have hy4 := hy.trans hy2
  have hx4 := hx3.trans hy4
  have b0 := cellsP w4 (.int .i64 1) (.int .i64 2) 56
  have a0 := (hy4.cell (p := ⟨w2.heap.size, 0, none⟩) hb2).trans ha.1
  have a1 := (hy4.cell (p := ⟨w2.heap.size, 1, none⟩) hb2).trans ha.2
  have hl4 : w2.heap.size < w4.heap.size := Nat.lt_of_lt_of_le hb2 hy4.size
  have hx5 := hx4.alloc (.cells #[.int .i64 1, .int .i64 2] 56)
  have hz5 := (Ext.refl w4).alloc (.cells #[.int .i64 1, .int .i64 2] 56)
  have hb4 : w4.heap.size < (w4.alloc (.cells #[.int .i64 1, .int .i64 2] 56)).heap.size := by simp
  clear hp hy hy2 hy4 ha hb2 hx2 hx3
  -- the exchange
  go_wp2_with fail
  refine (HEx.out _).mono ?_
  rintro x w5 ⟨o5, o6, rfl, hp, ⟨A5, n5, c5, rfl⟩, ⟨A6, n6, c6, rfl⟩, hy⟩
  have hp := Lib.hid hp
  go_wp2_with fail
  refine (HXc.out _ _ _ hp.out).mono ?_
  rintro x w6 ⟨vl, rfl, hl, hy2⟩
  have hL := Lib.hid hl
  obtain ⟨AL, cL, rfl, hlc, hcm, hat⟩ := hl
  have hy6 := hy.trans hy2
  have hx6 := hx5.trans hy6
  clear hp hy hy2 hat
  -- what is common knowledge
  go_wp2_with fail
  refine (HEx.out _).mono ?_
  rintro x w7 ⟨o7, o8, rfl, hp, ⟨A7, n7, c7, rfl⟩, ⟨A8, n8, c8, rfl⟩, hy⟩
  have hp := Lib.hid hp
  go_wp2_with fail
  refine (HCm.out _ _ _ hp.out).mono ?_
  rintro x w8 ⟨rfl, hy2⟩
  have hy68 := hy.trans hy2
  have hx8 := hx6.trans hy68
  have hL8 := Lib.hid (hL.out.ext hy68)
  have hz8 := hy6.trans hy68
  have g0 := ((hz5.trans hz8).cell (p := ⟨w2.heap.size, 0, none⟩) hl4).trans a0
  have g1 := ((hz5.trans hz8).cell (p := ⟨w2.heap.size, 1, none⟩) hl4).trans a1
  have g2 := (hz8.cell (p := ⟨w4.heap.size, 0, none⟩) hb4).trans b0.1
  have g3 := (hz8.cell (p := ⟨w4.heap.size, 1, none⟩) hb4).trans b0.2
  clear hp hy hy2 hy68 hz8 hL a0 a1 b0 hz5 hx4 hx5 hx6 hy6 hb4 hl4
  obtain ⟨ad, l1, l2, rfl, hadb, d1, d2, d3, hpl⟩ := hL8.out.get (show 0 < 3 by decide)
  obtain ⟨adx, m1, m2, eqx, _, e1, e2, e3, hpm⟩ := hL8.out.get (show 2 < 3 by decide)
  obtain rfl : ad = adx := by injection eqx
  have hpl : Prior w8 l1 l2 exW exCC := hpl
  have hpm : Prior w8 m1 m2 exW exC2 := hpm
  have hpl2 := Lib.hid hpl
  have hpm2 := Lib.hid hpm
  obtain ⟨⟨L1, q1, rfl, _, _⟩, ⟨L2, q2, _, rfl, _, _⟩⟩ := hpl
  obtain ⟨⟨M1, q3, rfl, _, _⟩, ⟨M2, q4, _, rfl, _, _⟩⟩ := hpm
  have f1 : w8.cell? ad = some (.slice L1 exW.length q1) := by simpa [Addr.add] using d1
  have f2 : w8.cell? ⟨ad.block, ad.off + 1, none⟩ = some (.slice L2 exCC.length q2) := by simpa [Addr.add] using d3
  clear eqx
  go_wp2_with fail
  refine (HA0.out _ _ _ hpl2.out).mono ?_
  rintro x w9 ⟨rfl, hy9⟩
  have hx9 := hx8.trans hy9
  have k1 : w9.cell? (ad.add 4) = some (.slice M1 exW.length q3) := (hy9.cell (by rw [addBlock]; exact hadb)).trans e1
  have k2 : w9.cell? ⟨(ad.add 4).block, (ad.add 4).off + 1, none⟩ = some (.slice M2 exC2.length q4) := (hy9.cell (by show (ad.add 4).block < _; rw [addBlock]; exact hadb)).trans e3
  have k1 : w9.cell? ⟨ad.block, ad.off + 4, none⟩ = some (.slice M1 exW.length q3) := by simpa [Addr.add] using k1
  have k2 : w9.cell? ⟨ad.block, ad.off + 4 + 1, none⟩ = some (.slice M2 exC2.length q4) := by simpa [Addr.add] using k2
  clear f1 f2 d1 d2 d3 e1 e2 e3
  go_wp2_with fail
  refine (HA2.out _ _ _ (hpm2.out.ext hy9)).mono ?_
  rintro x w10 ⟨rfl, hy10⟩
  have hx10 := hx9.trans hy10
  have hbb : ad.block < w9.heap.size := Nat.lt_of_lt_of_le hadb hy9.size
  have k1 := (hy10.cell (p := ⟨ad.block, ad.off + 4, none⟩) hbb).trans k1
  have k2 := (hy10.cell (p := ⟨ad.block, ad.off + 4 + 1, none⟩) hbb).trans k2
  have hpm10 := Lib.hid (hpm2.out.ext (hy9.trans hy10))
  have hbc : ad.block < w10.heap.size := Nat.lt_of_lt_of_le hbb hy10.size
  clear hy9 hy10 hx8 hx9 hL8 hpl2 hpm2
  go_wp2
  have hfd : ∀ (w : World) (a a' : Option Addr) (n c n' c' : Nat), (Instr.field 45 (.agg #[.slice a n c, .slice a' n' c']) 0).run Try.prog w = .ok (.slice a n c) w := fun _ _ _ _ _ _ _ => by kernel_rfl
  have keepC : ∀ (w' w'' : World) (p : Addr) (v : Value), p.block = ad.block → Ext w10 w' → Ext w' w'' → w'.cell? p = some v → w''.cell? p = some v := fun w' w'' p v hp h1 h2 h3 => (h2.cell (by rw [hp]; exact Nat.lt_of_lt_of_le hbc h1.size)).trans h3
  have HK := Lib.hid keepC
  clear keepC
  go_region_held3 (fun w' : World => w'.cell? ⟨ad.block, ad.off + 4, none⟩ = some (.slice M1 exW.length q3) ∧ w'.cell? ⟨ad.block, ad.off + 4 + 1, none⟩ = some (.slice M2 exC2.length q4) ∧ Ext w10 w') (first | exact ⟨k1, k2, (Ext.refl w10).drew⟩ | exact ⟨HK.out w10 _ _ _ (by rfl) (Ext.refl _) (((Ext.refl w10).alloc _).drew) k1, HK.out w10 _ _ _ (by rfl) (Ext.refl _) (((Ext.refl w10).alloc _).drew) k2, ((Ext.refl w10).alloc _).drew⟩ | exact ⟨HK.out w10 _ _ _ (by rfl) (Ext.refl _) ((((Ext.refl w10).alloc _).alloc _).drew) k1, HK.out w10 _ _ _ (by rfl) (Ext.refl _) ((((Ext.refl w10).alloc _).alloc _).drew) k2, (((Ext.refl w10).alloc _).alloc _).drew⟩ | exact ⟨HK.out w10 _ _ _ (by rfl) (Ext.refl _) (((((Ext.refl w10).alloc _).alloc _).alloc _).drew) k1, HK.out w10 _ _ _ (by rfl) (Ext.refl _) (((((Ext.refl w10).alloc _).alloc _).alloc _).drew) k2, ((((Ext.refl w10).alloc _).alloc _).alloc _).drew⟩ | assumption | (go_split_ands; refine ⟨?_, ?_, ?_⟩ <;> first | assumption | (refine Ext.alloc ?_ _; assumption) | (refine Ext.trans ?_ hyE; assumption) | (refine Ext.trans ?_ hy11; assumption) | exact ((Ext.refl w10).alloc _).drew | exact (((Ext.refl w10).alloc _).alloc _).drew | exact ((((Ext.refl w10).alloc _).alloc _).alloc _).drew | (refine HK.out _ _ _ _ (by rfl) ?_ ((Ext.refl _).alloc _) ?_ <;> assumption) | (refine HK.out _ _ _ _ (by rfl) ?_ hyE ?_ <;> assumption) | (refine HK.out _ _ _ _ (by rfl) ?_ hy11 ?_ <;> assumption))) (first | (go_at_call 70; refine (HEx.out _).mono ?_; rintro x wE ⟨o1, o2, rfl, hpE, ⟨AE, nE, cE, rfl⟩, ⟨AF, nF, cF, rfl⟩, hyE⟩; have hpE := Lib.hid hpE) | (go_at_call 29; refine (HSm.out _ _ _ _ _ ?_ ?_).mono ?_; (refine hpm10.out.ext ?_; go_split_ands; assumption); (refine ⟨?_, ?_⟩; (repeat (first | exact hpE.out.1 | refine Ints.ext ?_ ((Ext.refl _).alloc _) | refine Ints.ext ?_ ((Ext.refl _).drew))); (repeat (first | refine Rows.lit2 ?_ ?_ _ (by simp) | refine Rows.ext ?_ ((Ext.refl _).alloc _) | refine Rows.ext ?_ ((Ext.refl _).drew) | refine Rows.ext ?_ hyE)); (repeat (first | exact Ints.lit _ [0, 0, 0, 3, 4, 4, 6, 6, 8] _ (by simp) (by decide) (by decide) | exact Ints.lit _ [0, 0, 0, 3, 4, 4, 4, 4, 8] _ (by simp) (by decide) (by decide) | refine Ints.ext ?_ ((Ext.refl _).alloc _) | refine Ints.ext ?_ ((Ext.refl _).drew) | refine Ints.ext ?_ hyE))); rintro x w11 ⟨rfl, hy11⟩))
  all_goals
    go_split_ands
    go_wp2
    go_ret
    exact ⟨rfl, hx10.trans (by assumption)⟩

end Go.Proofs.Ytdlhfihddipjaab
