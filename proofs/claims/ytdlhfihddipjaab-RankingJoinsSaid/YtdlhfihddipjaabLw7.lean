/-
  The walk of RankingJoins: joined ranking functions, and the independence of the two groups of facts.
-/
import Derived.Test.YtdlhfihddipjaabAwk37
import Derived.Test.YtdlhfihddipjaabInd2
import Derived.Test.YtdlhfihddipjaabRj
import Derived.Test.YtdlhfihddipjaabJp
namespace Go.Proofs.Ytdlhfihddipjaab
open Go.RowKit

theorem ofInt_u16 (a : Nat) (ha : a < 65536) : (BitVec.ofInt 16 (a : Int)).toNat = a := by
  rw [BitVec.ofInt_natCast, BitVec.toNat_ofNat]; exact Nat.mod_eq_of_lt ha
theorem u16_bit (s k : Nat) (hs : s < 65536) : bits .and .u16 ((s : Int) / 2 ^ k) 1 = if s.testBit k then 1 else 0 := by
  have e : (s : Int) / 2 ^ k = ((s / 2 ^ k : Nat) : Int) := by simp
  have h1 : s / 2 ^ k < 65536 := Nat.lt_of_le_of_lt (Nat.div_le_self _ _) hs
  have e2 : bits .and .u16 ((s / 2 ^ k : Nat) : Int) ((1 : Nat) : Int) = ((s / 2 ^ k &&& 1 : Nat) : Int) := by
    have hx : s / 2 ^ k &&& 1 < 2 ^ 16 := Nat.and_lt_two_pow _ (by omega)
    show IntKind.u16.wrap ((BitVec.ofInt 16 ((s / 2 ^ k : Nat) : Int) &&& BitVec.ofInt 16 ((1 : Nat) : Int)).toNat : Int) = _
    rw [BitVec.toNat_and, ofInt_u16 _ h1, ofInt_u16 1 (by omega)]
    show (IntKind.u16.wrap _) = _
    rw [IntKind.wrap_u16]
    omega
  rw [e, show (1 : Int) = ((1 : Nat) : Int) from rfl, e2]
  rw [Nat.testBit_eq_decide_div_mod_eq, Nat.and_one_is_mod]
  have := Nat.mod_two_eq_zero_or_one (s / 2 ^ k)
  rcases this with h | h <;> simp [h]
theorem cells4 (w : World) (a b c d : Value) (t : TypeId) : (w.alloc (.cells #[a, b, c, d] t)).cell? ⟨w.heap.size, 0, none⟩ = some a ∧ (w.alloc (.cells #[a, b, c, d] t)).cell? ⟨w.heap.size, 1, none⟩ = some b ∧ (w.alloc (.cells #[a, b, c, d] t)).cell? ⟨w.heap.size, 2, none⟩ = some c ∧ (w.alloc (.cells #[a, b, c, d] t)).cell? ⟨w.heap.size, 3, none⟩ = some d :=
  ⟨cell_of_row _ _ _ _ _ _ (heap_alloc_new w (.cells #[a, b, c, d] t)), cell_of_row _ _ _ _ _ _ (heap_alloc_new w (.cells #[a, b, c, d] t)), cell_of_row _ _ _ _ _ _ (heap_alloc_new w (.cells #[a, b, c, d] t)), cell_of_row _ _ _ _ _ _ (heap_alloc_new w (.cells #[a, b, c, d] t))⟩

set_option maxRecDepth 100000 in
set_option maxHeartbeats 8000000 in
theorem joins37_any (w : World) (v v2 : Value) (n k : Int) (r s : List Int) (a b : Nat) (h : Ints .i64 w v r) (h2 : Ints .i64 w v2 s) (ha : a < 65536) (hb : b < 65536) :
    Calls Try.prog 5 #[.agg #[.int .i64 n, v, .int .i64 k, v2], .int .u16 a, .int .u16 b] w fun e w' => e = .returned (.bool true) ∧ Ext w w' := by
  have CA := Lib.hid awake37_any
  have CS : Hid (∀ w v v2 (l : List Int), Ints .i64 w v l → Ints .i64 w v2 l → Calls Try.prog 24 #[v, v2] w fun e w' => e = .returned (.bool true) ∧ Ext w w') := fun w v v2 l h h2 => (Same37_any w v v2 l l h h2).mono fun _ _ k => ⟨by rw [k.1, decide_eq_true rfl], k.2⟩
  have H := Lib.hid h
  have H2 := Lib.hid h2
  obtain ⟨A, c, rfl, hs, hf⟩ := h
  have hle := hs.le
  have hcap := hs.cap
  obtain ⟨A2, c2, rfl, hs2, hf2⟩ := h2
  have hle2 := hs2.le
  have hcap2 := hs2.cap
  clear hf hf2 hs hs2
  obtain ⟨q0, q1, q2, q3⟩ := cells4 w (.int .i64 n) (.slice A r.length c) (.int .i64 k) (.slice A2 s.length c2) 37
  have hx := (Ext.refl w).alloc (.cells #[.int .i64 n, .slice A r.length c, .int .i64 k, .slice A2 s.length c2] 37)
  by_cases hl : 100 < r.length
  · clear q0 q2 q3
    go_enter Try.func5, Try.ntmps5
    go_wp2_with fail
    refine (CA.out _).mono ?_
    rintro e w1 ⟨rfl, hy⟩
    go_wp2_with fail
    go_ret
    exact ⟨rfl, hx.trans hy⟩
  by_cases hl2 : 100 < s.length
  · clear q0 q2
    go_enter Try.func5, Try.ntmps5
    go_wp2_with fail
    refine (CA.out _).mono ?_
    rintro e w1 ⟨rfl, hy⟩
    go_wp2_with fail
    go_ret
    exact ⟨rfl, hx.trans hy⟩
  obtain ⟨L, hL⟩ : ∃ L, L = joinR n r k s := ⟨_, rfl⟩
  have hJ : ∀ w1, Ext w w1 → _ := fun w1 hx => Join_any w1 (.slice A r.length c) (.slice A2 s.length c2) n k r s (H.out.ext hx) (H2.out.ext hx)
  have hR : ∀ w1, Ext w w1 → _ := fun w1 hx => refJoin_any w1 (.slice A r.length c) (.slice A2 s.length c2) n k r s (H.out.ext hx) (H2.out.ext hx)
  rw [← hL] at hJ hR
  have CJ := Lib.hid hJ
  have CR := Lib.hid hR
  clear hJ hR
  by_cases e0 : L.2.2 = 0
  rotate_left 1
  · have t0 : (L.2.2 != 0) = true := by rw [bne_iff_ne]; exact e0
    clear e0 hL
    go_enter Try.func5, Try.ntmps5
    go_wp2_with fail
    refine (CJ.out _ hx).mono ?_
    rintro e wA ⟨va, rfl, hIa, hy⟩
    have hx := hx.trans hy
    have hlt : w.heap.size < wA.heap.size := by have := hy.size; simp at this; omega
    have q0 := (hy.cell (by simp <;> omega)).trans q0
    have q1 := (hy.cell (by simp <;> omega)).trans q1
    have q2 := (hy.cell (by simp <;> omega)).trans q2
    have q3 := (hy.cell (by simp <;> omega)).trans q3
    clear hy
    go_wp2_with fail
    refine (CR.out _ hx).mono ?_
    rintro e wB ⟨vb, rfl, hIb, hy⟩
    have hx := hx.trans hy
    have hIa := hIa.ext hy
    have hltB : w.heap.size < wB.heap.size := by have := hy.size; omega
    have q1 := (hy.cell hlt).trans q1
    clear hy q0 q2 q3
    go_wp2_with fail
    refine (CS.out _ _ _ _ hIa hIb).mono ?_
    rintro e wC ⟨rfl, hy⟩
    have hx := hx.trans hy
    clear hy hIa hIb q1
    go_wp2_with fail
    refine (CA.out _).mono ?_
    rintro e w1 ⟨rfl, hy⟩
    go_wp2_with fail
    go_ret
    exact ⟨rfl, hx.trans hy⟩
  obtain ⟨m, m2, rfl, rfl, hr, hs, hm, hbd, hJL⟩ : ∃ m m2 : Nat, n = m ∧ k = m2 ∧ RkV m r ∧ RkV m2 s ∧ m + m2 ≤ 4 ∧ (∀ q, q < s.length → ∀ k, k < r.length → nth r k + nth s q ≤ 1000) ∧ L = ((m : Int) + m2, sums r s (s.length * r.length), 0) := by
    unfold joinR at hL
    by_cases i0 : rkErr n r = 0
    rotate_left 1
    · rw [if_pos (by simpa using i0)] at hL; rw [hL] at e0; exact absurd e0 i0
    rw [if_neg (by simpa using i0)] at hL
    by_cases i1 : rkErr k s = 0
    rotate_left 1
    · rw [if_pos (by simpa using i1)] at hL; rw [hL] at e0; exact absurd e0 i1
    rw [if_neg (by simpa using i1)] at hL
    obtain ⟨m, rfl, hm, hr⟩ := rkErr_zero i0
    obtain ⟨m2, rfl, hm2, hs⟩ := rkErr_zero i1
    by_cases i2 : (4 : Int) < m + m2
    · rw [if_pos i2] at hL; rw [hL] at e0; cases e0
    rw [if_neg i2] at hL
    unfold joinT at hL
    by_cases i3 : (limR (sums r s (s.length * r.length))).2 = 0
    rotate_left 1
    · rw [if_pos (by simpa using i3)] at hL; rw [hL] at e0; cases e0
    rw [if_neg (by simpa using i3)] at hL
    refine ⟨m, m2, rfl, rfl, hr, hs, by omega, fun q hq k hk => ?_, hL⟩
    have := (limR_zero i3).2 (q * r.length + k) (by rw [sums_len]; exact cell_lt hq hk)
    rwa [sums_at hk (cell_lt hq hk)] at this
  subst hJL
  have hl16 : s.length * r.length ≤ 16 := by
    rw [hr.1.1, hs.1.1, ← Nat.pow_add]
    exact pow_small (by omega)
  have hlr : 0 < r.length := by rw [hr.1.1]; exact Nat.two_pow_pos _
  have hlrM : r.length ≤ 16 := by rw [hr.1.1]; exact pow_small (by omega)
  have hInd := join_ind hr hs hm hbd a b
  have hsl := sums_len r s (s.length * r.length)
  have HBa : Hid (∀ k : Nat, bits .and .u16 ((a : Int) / 2 ^ k) 1 = if a.testBit k then 1 else 0) := fun k => u16_bit a k ha
  have HBb : Hid (∀ k : Nat, bits .and .u16 ((b : Int) / 2 ^ k) 1 = if b.testBit k then 1 else 0) := fun k => u16_bit b k hb
  obtain ⟨l, hl3⟩ : ∃ l, l = sums r s (s.length * r.length) := ⟨_, rfl⟩
  rw [← hl3] at hsl hInd CJ CR
  obtain ⟨N, hN⟩ : ∃ N, N = s.length * r.length := ⟨_, rfl⟩
  rw [← hN] at hsl hInd hl16
  have HI : Hid (∀ w1 v1, Ints .i64 w1 v1 l → Calls Try.prog 20 #[.int .i64 ((m : Int) + m2), v1, .int .u64 (maskTo (firstP r.length a) N : Nat), .int .u64 (maskTo (otherP r.length b) N : Nat)] w1 fun e w' => e = .returned (.tuple #[.bool true, .int .i64 0]) ∧ Ext w1 w') := fun w1 v1 h => by
    have := Independent_any w1 v1 (m + m2 : Nat) l (maskTo (firstP r.length a) N) (maskTo (otherP r.length b) N) h (maskTo_lt64 _ (by omega)) (maskTo_lt64 _ (by omega))
    rw [hInd] at this
    rw [show ((m : Int) + m2) = ((m + m2 : Nat) : Int) by simp]
    exact this
  have Hsl := Lib.hid hsl
  obtain ⟨R, hR⟩ : ∃ R, R = r.length := ⟨_, rfl⟩
  have HRl := Lib.hid hR
  clear hL e0 hInd hl3 hN hsl hr hs hbd ha hb hR
  go_enter Try.func5, Try.ntmps5
  go_wp2_with fail
  refine (CJ.out _ hx).mono ?_
  rintro e wA ⟨va, rfl, hIa, hy⟩
  have hx := hx.trans hy
  have hlt : w.heap.size < wA.heap.size := by have := hy.size; simp at this; omega
  have q0 := (hy.cell (by simp <;> omega)).trans q0
  have q1 := (hy.cell (by simp <;> omega)).trans q1
  have q2 := (hy.cell (by simp <;> omega)).trans q2
  have q3 := (hy.cell (by simp <;> omega)).trans q3
  clear hy
  go_wp2_with fail
  refine (CR.out _ hx).mono ?_
  rintro e wB ⟨vb, rfl, hIb, hy⟩
  have hx := hx.trans hy
  have hIa := hIa.ext hy
  have hltB : w.heap.size < wB.heap.size := by have := hy.size; omega
  have q1 := (hy.cell hlt).trans q1
  clear hy q0 q2 q3
  go_wp2_with fail
  refine (CS.out _ _ _ _ hIa hIb).mono ?_
  rintro e wC ⟨rfl, hy⟩
  have hx := hx.trans hy
  have HIa := Lib.hid (hIa.ext hy)
  have q1 := (hy.cell hltB).trans q1
  obtain ⟨A3, c3, rfl, hs3, hf3⟩ := hIa
  have hle3 := hs3.le
  have hcap3 := hs3.cap
  clear hy hIb hs3 hf3
  go_wp2
  go_loop [13, 14, 74] (fun o o2 i => ∃ j : Nat, j ≤ N ∧ i = .int .i64 j ∧ o = .int .u64 (maskTo (firstP r.length a) j : Nat) ∧ o2 = .int .u64 (maskTo (otherP r.length b) j : Nat)) (fun _ _ i => N - (intOf i).toNat)
  case atStart => exact ⟨0, Nat.zero_le _, rfl, rfl, rfl⟩
  case round =>
    obtain ⟨j, hj, rfl, rfl, rfl⟩ := hrel
    have hsl := Hsl.out
    by_cases hlt : j < N
    · have hjl : (j : Int) < l.length := by omega
      have hmod : j % r.length < r.length := Nat.mod_lt _ hlr
      have hdiv : j / r.length ≤ j := Nat.div_le_self _ _
      have em : min (IntKind.u64.wrap ((j : Int) % (r.length : Int))).toNat 16 = j % r.length := by
        rw [IntKind.wrap_u64, show ((j : Int) % (r.length : Int)) = ((j % r.length : Nat) : Int) by simp]
        omega
      have ed : min (IntKind.u64.wrap (wrap64 ((j : Int) / (r.length : Int)))).toNat 16 = j / r.length := by
        rw [show ((j : Int) / (r.length : Int)) = ((j / r.length : Nat) : Int) by simp]
        generalize j / r.length = d at hdiv ⊢
        rw [IntWalk.wrap64_in (d : Int) ⟨by omega, by omega⟩, IntKind.wrap_u64]
        omega
      have ba : (bits .and .u16 ((a : Int) / 2 ^ min (IntKind.u64.wrap ((j : Int) % (r.length : Int))).toNat 16) 1 == 1) = firstP r.length a j := by
        rw [em, HBa.out]
        show _ = a.testBit (j % r.length)
        cases a.testBit (j % r.length) <;> simp
      have bb : (bits .and .u16 ((b : Int) / 2 ^ min (IntKind.u64.wrap (wrap64 ((j : Int) / (r.length : Int)))).toNat 16) 1 == 1) = otherP r.length b j := by
        rw [ed, HBb.out]
        show _ = b.testBit (j / r.length)
        cases b.testBit (j / r.length) <;> simp
      have hor1 := u64_or_pow (maskTo (firstP r.length a) j) j (maskTo_lt64 _ (by omega)) (by omega)
      have hor2 := u64_or_pow (maskTo (otherP r.length b) j) j (maskTo_lt64 _ (by omega)) (by omega)
      have s1 := maskTo_succ (firstP r.length a) j
      have s2 := maskTo_succ (otherP r.length b) j
      clear hsl em ed hmod hdiv
      cases b1 : firstP r.length a j <;> cases b2 : otherP r.length b j <;> rw [b1] at ba s1 <;> rw [b2] at bb s2
      · rw [if_neg (by simp), Nat.or_zero] at s1
        clear hor1
        rw [if_neg (by simp), Nat.or_zero] at s2
        clear hor2
        have S1 := Lib.hid s1
        have S2 := Lib.hid s2
        clear s1 s2 b1 b2
        go_wp2
        go_round
        case rel => exact ⟨j + 1, by omega, by go_num, by rw [S1.out], by rw [S2.out]⟩
        case measure => simp [intOf]; omega
      · rw [if_neg (by simp), Nat.or_zero] at s1
        clear hor1
        rw [if_pos rfl] at s2
        rw [← s2] at hor2
        have S1 := Lib.hid s1
        have S2 := Lib.hid s2
        clear s1 s2 b1 b2
        go_wp2
        go_round
        case rel => exact ⟨j + 1, by omega, by go_num, by rw [S1.out], rfl⟩
        case measure => simp [intOf]; omega
      · rw [if_pos rfl] at s1
        rw [← s1] at hor1
        rw [if_neg (by simp), Nat.or_zero] at s2
        clear hor2
        have S1 := Lib.hid s1
        have S2 := Lib.hid s2
        clear s1 s2 b1 b2
        go_wp2
        go_round
        case rel => exact ⟨j + 1, by omega, by go_num, rfl, by rw [S2.out]⟩
        case measure => simp [intOf]; omega
      · rw [if_pos rfl] at s1
        rw [← s1] at hor1
        rw [if_pos rfl] at s2
        rw [← s2] at hor2
        have S1 := Lib.hid s1
        have S2 := Lib.hid s2
        clear s1 s2 b1 b2
        go_wp2
        go_round
        case rel => exact ⟨j + 1, by omega, by go_num, rfl, rfl⟩
        case measure => simp [intOf]; omega
    · obtain rfl : j = N := by omega
      have hjl : ¬ (j : Int) < l.length := by omega
      have C := Lib.hid (HI.out wC _ HIa.out)
      clear hsl
      go_wp2_with fail
      refine C.out.mono ?_
      rintro e w4 ⟨rfl, hy⟩
      have hx := hx.trans hy
      clear hy C
      go_wp2_with fail
      refine (CA.out _).mono ?_
      rintro e w1 ⟨rfl, hy⟩
      go_wp2_with fail
      go_ret
      exact ⟨rfl, hx.trans hy⟩

end Go.Proofs.Ytdlhfihddipjaab
