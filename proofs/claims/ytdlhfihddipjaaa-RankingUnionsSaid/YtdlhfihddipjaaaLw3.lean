/-
  The walk of RankingUnions: the rank of a union, and belief in an intersection.
-/
import Derived.Test.YtdlhfihddipjaaaAwk37
import Derived.Test.YtdlhfihddipjaaaRkP
namespace Go.Proofs.Ytdlhfihddipjaaa
open Go.RowKit

theorem cells3 (w : World) (a b c : Value) (t : TypeId) : (w.alloc (.cells #[a, b, c] t)).cell? ⟨w.heap.size, 0, none⟩ = some a ∧ (w.alloc (.cells #[a, b, c] t)).cell? ⟨w.heap.size, 1, none⟩ = some b ∧ (w.alloc (.cells #[a, b, c] t)).cell? ⟨w.heap.size, 2, none⟩ = some c :=
  ⟨cell_of_row _ _ _ _ _ _ (heap_alloc_new w (.cells #[a, b, c] t)), cell_of_row _ _ _ _ _ _ (heap_alloc_new w (.cells #[a, b, c] t)), cell_of_row _ _ _ _ _ _ (heap_alloc_new w (.cells #[a, b, c] t))⟩
theorem belvR_ok {m : Nat} {r : List Int} (hm : m ≤ 4) (h : RkV m r) {c s : Nat} (hc : c < 2 ^ r.length) (hs : s < 2 ^ r.length) : belvR m r c s = (belvB r c s, 0) := by
  unfold belvR
  rw [if_neg (by have := rkSets_ok hm h (xs := [c, s]) (by simp; exact ⟨hc, hs⟩); simpa using this)]

set_option maxRecDepth 100000 in
set_option maxHeartbeats 8000000 in
theorem unions37_any (w : World) (v : Value) (n : Int) (r : List Int) (x y z : Nat) (h : Ints .i64 w v r) (hx64 : x < 18446744073709551616) (hy64 : y < 18446744073709551616) (hz64 : z < 18446744073709551616) :
    Calls Try.prog 12 #[.int .i64 n, v, .agg #[.int .u64 x, .int .u64 y, .int .u64 z]] w fun e w' => e = .returned (.bool true) ∧ Ext w w' := by
  have CA := Lib.hid awake37_any
  have H := Lib.hid h
  have hq := cells3 w (.int .u64 x) (.int .u64 y) (.int .u64 z) 58
  obtain ⟨hq0, hq1, hq2⟩ := hq
  have hx := (Ext.refl w).alloc (.cells #[.int .u64 x, .int .u64 y, .int .u64 z] 58)
  have HK : Hid (∀ w1, Ext w w1 → Calls Try.prog 49 #[.int .i64 n, v] w1 fun e w' => e = .returned (.int .i64 (rkErr n r)) ∧ w1 = w') := fun w1 hx => rkCheck_any w1 v n r (H.out.ext hx)
  obtain ⟨A, c, rfl, hs, hf⟩ := h
  have hle := hs.le
  have hcap := hs.cap
  clear hs hf
  by_cases hl : 16 < r.length
  · clear hq0 hq1 hq2
    go_enter Try.func12, Try.ntmps12
    go_wp2_with fail
    refine (CA.out _).mono ?_
    rintro e w1 ⟨rfl, hy⟩
    go_wp2_with fail
    go_ret
    exact ⟨rfl, hx.trans hy⟩
  by_cases h0 : rkErr n r = 0
  rotate_left 1
  · have t : (rkErr n r != 0) = true := by rw [bne_iff_ne]; exact h0
    obtain ⟨ee, hee⟩ : ∃ ee, ee = rkErr n r := ⟨_, rfl⟩
    rw [← hee] at t HK
    clear h0 hee hq0 hq1 hq2
    go_enter Try.func12, Try.ntmps12
    go_wp2_with fail
    refine (HK.out _ hx).mono ?_
    rintro e w1 ⟨rfl, rfl⟩
    go_wp2_with fail
    refine (CA.out _).mono ?_
    rintro e w1 ⟨rfl, hy⟩
    go_wp2_with fail
    go_ret
    exact ⟨rfl, hx.trans hy⟩
  rw [h0] at HK
  obtain ⟨m, rfl, hm, hr⟩ := rkErr_zero h0
  have hN := pow_lt64 (show r.length < 64 by omega)
  have hf64 : full r.length < 18446744073709551616 := full_lt64 (by omega)
  have HA : Hid (∀ w1, Calls Try.prog 56 #[.int .i64 m] w1 fun e w' => e = .returned (.int .u64 (full r.length : Nat)) ∧ w1 = w') := fun w1 => by rw [hr.1.1]; exact refAll37_ok w1 m hm
  have e1 := u64_and x (full r.length) hx64 hf64
  have e2 := u64_and y (full r.length) hy64 hf64
  have e3 := u64_and z (full r.length) hz64 hf64
  have aN : ∀ x, x &&& full r.length < 2 ^ r.length := fun x => by rw [Nat.and_comm]; exact and_lt (full_lt _)
  obtain ⟨a, ha⟩ : ∃ a, a = x &&& full r.length := ⟨_, rfl⟩
  obtain ⟨b, hb⟩ : ∃ a, a = y &&& full r.length := ⟨_, rfl⟩
  obtain ⟨d, hd⟩ : ∃ a, a = z &&& full r.length := ⟨_, rfl⟩
  have haN : a < 2 ^ r.length := ha ▸ aN x
  have hbN : b < 2 ^ r.length := hb ▸ aN y
  have hdN : d < 2 ^ r.length := hd ▸ aN z
  rw [← ha] at e1
  rw [← hb] at e2
  rw [← hd] at e3
  obtain ⟨f, hf⟩ : ∃ f, f = full r.length := ⟨_, rfl⟩
  rw [← hf] at e1 e2 e3 HA
  clear ha hb hd hf hf64 aN
  have ha64 := Nat.lt_trans haN hN
  have hb64 := Nat.lt_trans hbN hN
  have hd64 := Nat.lt_trans hdN hN
  have e4 := u64_or a b ha64 hb64
  have e5 := u64_and a b ha64 hb64
  have hoN : a ||| b < 2 ^ r.length := Nat.or_lt_two_pow haN hbN
  have hiN : a &&& b < 2 ^ r.length := and_lt haN
  have hU := rank_union hr haN hbN
  have hR1 : ∀ w1, Ext w w1 → _ := fun w1 hx => Rank_any w1 (.slice A r.length c) m r a (H.out.ext hx) ha64
  have hR2 : ∀ w1, Ext w w1 → _ := fun w1 hx => Rank_any w1 (.slice A r.length c) m r b (H.out.ext hx) hb64
  have hR3 : ∀ w1, Ext w w1 → _ := fun w1 hx => Rank_any w1 (.slice A r.length c) m r (a ||| b) (H.out.ext hx) (Nat.lt_trans hoN hN)
  have hB1 : ∀ w1, Ext w w1 → _ := fun w1 hx => Believes_any w1 (.slice A r.length c) m r d a (H.out.ext hx) hd64 ha64
  have hB2 : ∀ w1, Ext w w1 → _ := fun w1 hx => Believes_any w1 (.slice A r.length c) m r d b (H.out.ext hx) hd64 hb64
  have hB3 : ∀ w1, Ext w w1 → _ := fun w1 hx => Believes_any w1 (.slice A r.length c) m r d (a &&& b) (H.out.ext hx) hd64 (Nat.lt_trans hiN hN)
  rw [rankR_ok hm hr haN] at hR1
  rw [rankR_ok hm hr hbN] at hR2
  rw [rankR_ok hm hr hoN] at hR3
  rw [belvR_ok hm hr hdN haN] at hB1
  rw [belvR_ok hm hr hdN hbN] at hB2
  rw [belvR_ok hm hr hdN hiN, belvB_and] at hB3
  obtain ⟨o, ho⟩ : ∃ o, o = a ||| b := ⟨_, rfl⟩
  rw [← ho] at e4 hR3 hU
  obtain ⟨i, hi⟩ : ∃ i, i = a &&& b := ⟨_, rfl⟩
  rw [← hi] at e5 hB3
  obtain ⟨X, hX⟩ : ∃ X, X = (if a = 0 then -1 else rankOf r a) := ⟨_, rfl⟩
  obtain ⟨Y, hY⟩ : ∃ Y, Y = (if b = 0 then -1 else rankOf r b) := ⟨_, rfl⟩
  obtain ⟨Z, hZ⟩ : ∃ Z, Z = (if o = 0 then -1 else rankOf r o) := ⟨_, rfl⟩
  obtain ⟨P, hP⟩ : ∃ P, P = belvB r d a := ⟨_, rfl⟩
  obtain ⟨S, hS⟩ : ∃ S, S = belvB r d b := ⟨_, rfl⟩
  rw [← hX] at hR1 hU
  rw [← hY] at hR2 hU
  rw [← hZ] at hR3 hU
  rw [← hP] at hB1 hB3
  rw [← hS] at hB2 hB3
  have R1 := Lib.hid hR1
  have R2 := Lib.hid hR2
  have R3 := Lib.hid hR3
  have B1 := Lib.hid hB1
  have B2 := Lib.hid hB2
  have B3 := Lib.hid hB3
  clear hR1 hR2 hR3 hB1 hB2 hB3 hX hY hZ hP hS ho hi hoN hiN haN hbN hdN ha64 hb64 hd64 hN hr h0 hx64 hy64 hz64
  by_cases c1 : X = -1
  · have t1 : (X == (-1 : Int)) = true := by rw [c1]; rfl
    rw [if_pos (.inl c1)] at hU
    subst hU
    clear c1
    go_enter Try.func12, Try.ntmps12
    go_wp2_with fail
    refine (HK.out _ hx).mono ?_
    rintro e w1 ⟨rfl, rfl⟩
    go_wp2_with fail
    refine (HA.out _).mono ?_
    rintro e w1 ⟨rfl, rfl⟩
    go_wp2
    go_quiet (fail)
    have hx := hx.drewN nq
    clear hq0 hq1 hq2 HA HK
    go_wp2_with fail
    refine (R1.out _ hx).mono ?_
    rintro e w1 ⟨rfl, hy⟩
    have hx := hx.trans hy
    clear hy
    go_wp2_with fail
    refine (R2.out _ hx).mono ?_
    rintro e w2 ⟨rfl, hy⟩
    have hx := hx.trans hy
    clear hy
    go_wp2_with fail
    refine (R3.out _ hx).mono ?_
    rintro e w3 ⟨rfl, hy⟩
    have hx := hx.trans hy
    clear hy
    go_wp2_with fail
    refine (B1.out _ hx).mono ?_
    rintro e w4 ⟨rfl, hy⟩
    have hx := hx.trans hy
    clear hy
    go_wp2_with fail
    refine (B2.out _ hx).mono ?_
    rintro e w5 ⟨rfl, hy⟩
    have hx := hx.trans hy
    clear hy
    go_wp2_with fail
    refine (B3.out _ hx).mono ?_
    rintro e w6 ⟨rfl, hy⟩
    have hx := hx.trans hy
    clear hy B1 B2 B3 R1 R2 R3
    cases P <;> cases S <;>
      (go_wp2_with fail
       refine (CA.out _).mono ?_
       rintro e w1 ⟨rfl, hy⟩
       go_wp2_with fail
       go_ret
       exact ⟨rfl, hx.trans hy⟩)
  have t1 : (X == (-1 : Int)) = false := by rw [beq_eq_false_iff_ne]; exact c1
  by_cases c2 : Y = -1
  · have t2 : (Y != (-1 : Int)) = false := by rw [c2]; rfl
    rw [if_neg (by rintro (k | k); exact c1 k; exact k.1 c2)] at hU
    subst hU
    clear c1 c2
    go_enter Try.func12, Try.ntmps12
    go_wp2_with fail
    refine (HK.out _ hx).mono ?_
    rintro e w1 ⟨rfl, rfl⟩
    go_wp2_with fail
    refine (HA.out _).mono ?_
    rintro e w1 ⟨rfl, rfl⟩
    go_wp2
    go_quiet (fail)
    have hx := hx.drewN nq
    clear hq0 hq1 hq2 HA HK
    go_wp2_with fail
    refine (R1.out _ hx).mono ?_
    rintro e w1 ⟨rfl, hy⟩
    have hx := hx.trans hy
    clear hy
    go_wp2_with fail
    refine (R2.out _ hx).mono ?_
    rintro e w2 ⟨rfl, hy⟩
    have hx := hx.trans hy
    clear hy
    go_wp2_with fail
    refine (R3.out _ hx).mono ?_
    rintro e w3 ⟨rfl, hy⟩
    have hx := hx.trans hy
    clear hy
    go_wp2_with fail
    refine (B1.out _ hx).mono ?_
    rintro e w4 ⟨rfl, hy⟩
    have hx := hx.trans hy
    clear hy
    go_wp2_with fail
    refine (B2.out _ hx).mono ?_
    rintro e w5 ⟨rfl, hy⟩
    have hx := hx.trans hy
    clear hy
    go_wp2_with fail
    refine (B3.out _ hx).mono ?_
    rintro e w6 ⟨rfl, hy⟩
    have hx := hx.trans hy
    clear hy B1 B2 B3 R1 R2 R3
    cases P <;> cases S <;>
      (go_wp2_with fail
       refine (CA.out _).mono ?_
       rintro e w1 ⟨rfl, hy⟩
       go_wp2_with fail
       go_ret
       exact ⟨rfl, hx.trans hy⟩)
  have t2 : (Y != (-1 : Int)) = true := by rw [bne_iff_ne]; exact c2
  by_cases c3 : Y < X
  · rw [if_pos (.inr ⟨c2, c3⟩)] at hU
    subst hU
    clear c1 c2
    go_enter Try.func12, Try.ntmps12
    go_wp2_with fail
    refine (HK.out _ hx).mono ?_
    rintro e w1 ⟨rfl, rfl⟩
    go_wp2_with fail
    refine (HA.out _).mono ?_
    rintro e w1 ⟨rfl, rfl⟩
    go_wp2
    go_quiet (fail)
    have hx := hx.drewN nq
    clear hq0 hq1 hq2 HA HK
    go_wp2_with fail
    refine (R1.out _ hx).mono ?_
    rintro e w1 ⟨rfl, hy⟩
    have hx := hx.trans hy
    clear hy
    go_wp2_with fail
    refine (R2.out _ hx).mono ?_
    rintro e w2 ⟨rfl, hy⟩
    have hx := hx.trans hy
    clear hy
    go_wp2_with fail
    refine (R3.out _ hx).mono ?_
    rintro e w3 ⟨rfl, hy⟩
    have hx := hx.trans hy
    clear hy
    go_wp2_with fail
    refine (B1.out _ hx).mono ?_
    rintro e w4 ⟨rfl, hy⟩
    have hx := hx.trans hy
    clear hy
    go_wp2_with fail
    refine (B2.out _ hx).mono ?_
    rintro e w5 ⟨rfl, hy⟩
    have hx := hx.trans hy
    clear hy
    go_wp2_with fail
    refine (B3.out _ hx).mono ?_
    rintro e w6 ⟨rfl, hy⟩
    have hx := hx.trans hy
    clear hy B1 B2 B3 R1 R2 R3
    cases P <;> cases S <;>
      (go_wp2_with fail
       refine (CA.out _).mono ?_
       rintro e w1 ⟨rfl, hy⟩
       go_wp2_with fail
       go_ret
       exact ⟨rfl, hx.trans hy⟩)
  · rw [if_neg (by rintro (k | k); exact c1 k; exact c3 k.2)] at hU
    subst hU
    clear c1 c2
    go_enter Try.func12, Try.ntmps12
    go_wp2_with fail
    refine (HK.out _ hx).mono ?_
    rintro e w1 ⟨rfl, rfl⟩
    go_wp2_with fail
    refine (HA.out _).mono ?_
    rintro e w1 ⟨rfl, rfl⟩
    go_wp2
    go_quiet (fail)
    have hx := hx.drewN nq
    clear hq0 hq1 hq2 HA HK
    go_wp2_with fail
    refine (R1.out _ hx).mono ?_
    rintro e w1 ⟨rfl, hy⟩
    have hx := hx.trans hy
    clear hy
    go_wp2_with fail
    refine (R2.out _ hx).mono ?_
    rintro e w2 ⟨rfl, hy⟩
    have hx := hx.trans hy
    clear hy
    go_wp2_with fail
    refine (R3.out _ hx).mono ?_
    rintro e w3 ⟨rfl, hy⟩
    have hx := hx.trans hy
    clear hy
    go_wp2_with fail
    refine (B1.out _ hx).mono ?_
    rintro e w4 ⟨rfl, hy⟩
    have hx := hx.trans hy
    clear hy
    go_wp2_with fail
    refine (B2.out _ hx).mono ?_
    rintro e w5 ⟨rfl, hy⟩
    have hx := hx.trans hy
    clear hy
    go_wp2_with fail
    refine (B3.out _ hx).mono ?_
    rintro e w6 ⟨rfl, hy⟩
    have hx := hx.trans hy
    clear hy B1 B2 B3 R1 R2 R3
    cases P <;> cases S <;>
      (go_wp2_with fail
       refine (CA.out _).mono ?_
       rintro e w1 ⟨rfl, hy⟩
       go_wp2_with fail
       go_ret
       exact ⟨rfl, hx.trans hy⟩)

end Go.Proofs.Ytdlhfihddipjaaa
