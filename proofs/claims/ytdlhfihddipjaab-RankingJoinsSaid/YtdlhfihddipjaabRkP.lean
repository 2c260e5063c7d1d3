/-
  Plain facts of ranks: the rank of a set is the least rank of its members; what conditioning, revision and contraction do to belief. No program is in sight.
-/
import Derived.Test.YtdlhfihddipjaabRank10
import Derived.Test.YtdlhfihddipjaabRk11p
namespace Go.Proofs.Ytdlhfihddipjaab
open Go.RowKit

theorem rkTo_below {r : List Int} {s : Nat} (j : Nat) : ∀ i, i < j → s.testBit i = true → rkTo r s j ≤ nth r i := by
  induction j with
  | zero => intro i hi; omega
  | succ j ih =>
    intro i hi hb
    rw [rkTo]
    by_cases e : i = j
    · subst e
      rw [if_pos hb]
      omega
    · have := ih i (by omega) hb
      split <;> omega
theorem rkTo_att {r : List Int} {s : Nat} (j : Nat) : rkTo r s j = 1099511627776 ∨ ∃ i, i < j ∧ s.testBit i = true ∧ nth r i = rkTo r s j := by
  induction j with
  | zero => exact .inl rfl
  | succ j ih =>
    rw [rkTo]
    by_cases hb : s.testBit j = true
    · rw [if_pos hb]
      by_cases hle : nth r j ≤ rkTo r s j
      · exact .inr ⟨j, by omega, hb, by omega⟩
      · rcases ih with h | ⟨i, hi, hb, e⟩
        · left; omega
        · right; exact ⟨i, by omega, hb, by omega⟩
    · rw [if_neg hb]
      rcases ih with h | ⟨i, hi, hb, e⟩
      · exact .inl h
      · exact .inr ⟨i, by omega, hb, e⟩
theorem rank_below {r : List Int} {s i : Nat} (hi : i < r.length) (hb : s.testBit i = true) : rankOf r s ≤ nth r i := rkTo_below _ i hi hb
theorem rank_att {r : List Int} {s : Nat} (h : ∃ i, i < r.length ∧ s.testBit i = true ∧ nth r i ≤ 1000000) : ∃ i, i < r.length ∧ s.testBit i = true ∧ nth r i = rankOf r s := by
  rcases rkTo_att (r := r) (s := s) r.length with e | h
  · obtain ⟨i, hi, hb, hn⟩ := h
    have := rank_below hi hb
    unfold rankOf at this
    omega
  · exact h
theorem rank_is {r : List Int} {s : Nat} {x : Int} (h1 : ∀ i, i < r.length → s.testBit i = true → x ≤ nth r i) (h2 : ∃ i, i < r.length ∧ s.testBit i = true ∧ nth r i = x) (hx : x ≤ 1000000) : rankOf r s = x := by
  obtain ⟨i, hi, hb, e⟩ := h2
  have := rank_below hi hb
  obtain ⟨k, hk, hkb, ek⟩ := rank_att ⟨i, hi, hb, by omega⟩
  have := h1 k hk hkb
  omega
theorem rank_or (r : List Int) (a b : Nat) : rankOf r (a ||| b) = min (rankOf r a) (rankOf r b) := by
  unfold rankOf
  generalize r.length = j
  induction j with
  | zero => rfl
  | succ j ih =>
    rw [rkTo, rkTo, rkTo, Nat.testBit_or, ih]
    cases a.testBit j <;> cases b.testBit j <;> simp <;> omega
theorem rank_congr {r : List Int} {a b : Nat} (h : ∀ i, i < r.length → a.testBit i = b.testBit i) : rankOf r a = rankOf r b := by
  unfold rankOf
  suffices ∀ j, j ≤ r.length → rkTo r a j = rkTo r b j from this _ (Nat.le_refl _)
  intro j hj
  induction j with
  | zero => rfl
  | succ j ih => rw [rkTo, rkTo, ih (by omega), h j (by omega)]

theorem ne_zero_bit {N s : Nat} (hs : s < 2 ^ N) (h0 : s ≠ 0) : ∃ i, i < N ∧ s.testBit i = true := by
  apply Classical.byContradiction
  intro k
  apply h0
  apply Nat.eq_of_testBit_eq
  intro i
  rw [Nat.zero_testBit]
  by_cases hi : i < N
  · cases e : s.testBit i with
    | false => rfl
    | true => exact absurd ⟨i, hi, e⟩ k
  · exact lt_pow_iff.1 hs i (by omega)
theorem bit_ne_zero {s i : Nat} (h : s.testBit i = true) : s ≠ 0 := by rintro rfl; simp at h
theorem comp_bit {N s i : Nat} (hi : i < N) : (sdiff (full N) s).testBit i = !s.testBit i := by rw [sdiff_bit, full_bit]; simp [hi]
theorem rank_att' {m : Nat} {r : List Int} (h : RkV m r) {s : Nat} (hs : s < 2 ^ r.length) (h0 : s ≠ 0) : ∃ i, i < r.length ∧ s.testBit i = true ∧ nth r i = rankOf r s := by
  obtain ⟨i, hi, hb⟩ := ne_zero_bit hs h0
  exact rank_att ⟨i, hi, hb, by have := h.1.2 i hi; omega⟩

theorem rkSets_ok {m : Nat} {r : List Int} (hm : m ≤ 4) (h : RkV m r) {xs : List Nat} (hx : ∀ x ∈ xs, x < 2 ^ r.length) : rkSets m r xs = 0 := by
  unfold rkSets
  rw [if_neg (by simpa using rkErr_ok hm h), if_neg]
  rw [List.any_eq_true]
  rintro ⟨x, h1, h2⟩
  have := hx x h1
  rw [decide_eq_true_eq] at h2
  omega

theorem limR_ok {l : List Int} (h : ∀ i, i < l.length → nth l i ≤ 1000) : limR l = (l, 0) := by
  unfold limR
  rw [if_neg]
  rw [any_nth]
  rintro ⟨i, hi, hq⟩
  rw [decide_eq_true_eq] at hq
  have := h i hi
  omega
theorem limR_zero {l : List Int} (h : (limR l).2 = 0) : limR l = (l, 0) ∧ ∀ i, i < l.length → nth l i ≤ 1000 := by
  unfold limR at h ⊢
  by_cases e : (l.any fun x => decide (1000 < x)) = true
  · rw [if_pos e] at h; cases h
  · rw [if_neg e]
    refine ⟨rfl, fun i hi => ?_⟩
    rw [any_nth] at e
    apply Classical.byContradiction
    intro k
    exact e ⟨i, hi, decide_eq_true (by omega)⟩

/-! ### unions -/
theorem rankR_ok {m : Nat} {r : List Int} (hm : m ≤ 4) (h : RkV m r) {s : Nat} (hs : s < 2 ^ r.length) : rankR m r s = (if s = 0 then -1 else rankOf r s, 0) := by
  unfold rankR
  rw [if_neg (by have := rkSets_ok hm h (xs := [s]) (by simpa using hs); simpa using this)]
  split <;> rfl
theorem rank_union {m : Nat} {r : List Int} (h : RkV m r) {a b : Nat} (ha : a < 2 ^ r.length) (hb : b < 2 ^ r.length) :
    (if a ||| b = 0 then -1 else rankOf r (a ||| b)) = (if (if a = 0 then -1 else rankOf r a) = -1 ∨ ((if b = 0 then -1 else rankOf r b) ≠ -1 ∧ (if b = 0 then -1 else rankOf r b) < (if a = 0 then -1 else rankOf r a)) then (if b = 0 then -1 else rankOf r b) else (if a = 0 then -1 else rankOf r a) : Int) := by
  have g1 := rankOf_ge h a
  have g2 := rankOf_ge h b
  have hi : a ||| b = 0 ↔ a = 0 ∧ b = 0 := by
    constructor
    · intro e
      refine ⟨?_, ?_⟩ <;> apply Nat.eq_of_testBit_eq <;> intro i <;> have := congrArg (fun z => z.testBit i) e <;> simp at this <;> simp [this]
    · rintro ⟨rfl, rfl⟩; rfl
  have i1 := rank_inf h ha
  have i2 := rank_inf h hb
  have l1 := rankOf_le r a
  have l2 := rankOf_le r b
  rw [rank_or]
  by_cases e1 : a = 0 <;> by_cases e2 : b = 0 <;> simp only [hi, e1, e2, and_self, if_true, if_false] at i1 i2 ⊢ <;> simp at i1 i2 ⊢
  · omega
  · omega
  · by_cases q : rankOf r b < rankOf r a
    · rw [if_pos]
      · omega
      · right; omega
    · rw [if_neg]
      · omega
      · omega
theorem belvB_and {r : List Int} (c a b : Nat) : belvB r c (a &&& b) = (belvB r c a && belvB r c b) := by
  unfold belvB
  by_cases hc : c = 0
  · simp [hc]
  have e1 : rankOf r (sdiff c (a &&& b)) = min (rankOf r (sdiff c a)) (rankOf r (sdiff c b)) := by
    rw [← rank_or]
    apply rank_congr
    intro i _
    rw [Nat.testBit_or, sdiff_bit, sdiff_bit, sdiff_bit, Nat.testBit_and]
    cases c.testBit i <;> cases a.testBit i <;> cases b.testBit i <;> rfl
  have e2 : rankOf r (c &&& a) = min (rankOf r (c &&& (a &&& b))) (rankOf r (sdiff (c &&& a) b)) := by
    rw [← rank_or]
    apply rank_congr
    intro i _
    rw [Nat.testBit_or, sdiff_bit, Nat.testBit_and, Nat.testBit_and, Nat.testBit_and]
    cases c.testBit i <;> cases a.testBit i <;> cases b.testBit i <;> rfl
  have e3 : rankOf r (c &&& b) = min (rankOf r (c &&& (a &&& b))) (rankOf r (sdiff (c &&& b) a)) := by
    rw [← rank_or]
    apply rank_congr
    intro i _
    rw [Nat.testBit_or, sdiff_bit, Nat.testBit_and, Nat.testBit_and, Nat.testBit_and]
    cases c.testBit i <;> cases a.testBit i <;> cases b.testBit i <;> rfl
  have e4 : rankOf r (sdiff c b) = min (rankOf r (sdiff (c &&& a) b)) (rankOf r (sdiff (sdiff c a) b)) := by
    rw [← rank_or]
    apply rank_congr
    intro i _
    rw [Nat.testBit_or, sdiff_bit, sdiff_bit, sdiff_bit, sdiff_bit, Nat.testBit_and]
    cases c.testBit i <;> cases a.testBit i <;> cases b.testBit i <;> rfl
  have e5 : rankOf r (sdiff c a) = min (rankOf r (sdiff (c &&& b) a)) (rankOf r (sdiff (sdiff c a) b)) := by
    rw [← rank_or]
    apply rank_congr
    intro i _
    rw [Nat.testBit_or, sdiff_bit, sdiff_bit, sdiff_bit, sdiff_bit, Nat.testBit_and]
    cases c.testBit i <;> cases a.testBit i <;> cases b.testBit i <;> rfl
  rw [e1]
  simp only [hc, decide_false, Bool.false_or]
  rw [← Bool.decide_and, decide_eq_decide]
  omega

/-! ### conditioning -/
theorem cond_firm {m : Nat} {r : List Int} (hm : m ≤ 4) (h : RkV m r) {s : Nat} {f : Int} {c : List Int} (hc : condR m r s f = (c, 0)) :
    firmR m c s = (f, 0) ∧ c.length = r.length ∧ rkErr m c = 0 ∧ (∀ v w, v < r.length → w < r.length → s.testBit v = s.testBit w → nth c v - nth c w = nth r v - nth r w) ∧ (firmR m r s).2 = 0 ∧ (0 ≤ (firmR m r s).1 → condR m c s (firmR m r s).1 = (r, 0)) := by
  unfold condR at hc
  by_cases h0 : rkSets m r [s] = 0
  rotate_left 1
  · rw [if_pos (by simpa using h0)] at hc
    have := congrArg Prod.snd hc
    exact absurd this h0
  rw [if_neg (by simpa using h0)] at hc
  obtain ⟨_, _, _, _, _, hx⟩ := rkSets_zero h0
  have hs : s < 2 ^ r.length := hx s (by simp)
  by_cases hf : f < 0 ∨ 1000 < f
  · rw [if_pos hf] at hc; have := congrArg Prod.snd hc; cases this
  rw [if_neg hf] at hc
  by_cases hz : s = 0 ∨ sdiff (full r.length) s = 0
  · rw [if_pos hz] at hc; have := congrArg Prod.snd hc; cases this
  rw [if_neg hz] at hc
  have hs0 : s ≠ 0 := fun e => hz (.inl e)
  have hd0 : sdiff (full r.length) s ≠ 0 := fun e => hz (.inr e)
  have hdl : sdiff (full r.length) s < 2 ^ r.length := sdiff_lt (full_lt _)
  obtain ⟨hl1, hl2⟩ := limR_zero (congrArg Prod.snd hc)
  rw [hl1] at hc
  have hcc := congrArg Prod.fst hc
  dsimp only at hcc
  clear hc hl1
  have hlen : c.length = r.length := by rw [← hcc]; exact shL_len _ _ _
  obtain ⟨d, hd⟩ : ∃ d, d = sdiff (full r.length) s := ⟨_, rfl⟩
  have hdb : ∀ i, i < r.length → d.testBit i = !s.testBit i := fun i hi => by rw [hd]; exact comp_bit hi
  rw [← hd] at hcc hl2 hd0 hdl
  obtain ⟨x, hxx⟩ : ∃ x, x = rankOf r s := ⟨_, rfl⟩
  obtain ⟨y, hyy⟩ : ∃ y, y = rankOf r d := ⟨_, rfl⟩
  rw [← hxx, ← hyy] at hcc hl2
  have cn : ∀ i, i < r.length → nth c i = nth r i + if s.testBit i then -x else f - y := fun i hi => by rw [← hcc, shL_nth hi]
  have c1000 : ∀ i, i < r.length → nth c i ≤ 1000 := fun i hi => by have := hl2 i (by rw [shL_len]; exact hi); rwa [hcc] at this
  obtain ⟨i1, hi1, hb1, ei1⟩ := rank_att' h hs hs0
  obtain ⟨i2, hi2, hb2, ei2⟩ := rank_att' h hdl hd0
  rw [← hxx] at ei1
  rw [← hyy] at ei2
  have lx : ∀ i, i < r.length → s.testBit i = true → x ≤ nth r i := fun i hi hb => by rw [hxx]; exact rank_below hi hb
  have ly : ∀ i, i < r.length → s.testBit i = false → y ≤ nth r i := fun i hi hb => by rw [hyy]; exact rank_below hi (by rw [hdb i hi, hb]; rfl)
  have hsb2 : s.testBit i2 = false := by
    have := hdb i2 hi2
    rw [hb2] at this
    cases e : s.testBit i2 with
    | false => rfl
    | true => rw [e] at this; cases this
  have hRk : RkV m c := by
    refine ⟨⟨by rw [hlen]; exact h.1.1, fun i hi => ?_⟩, ⟨i1, by omega, ?_⟩⟩
    · rw [hlen] at hi
      have e := cn i hi
      refine ⟨?_, c1000 i hi⟩
      rw [e]
      cases hb : s.testBit i with
      | true => have := lx i hi hb; rw [if_pos rfl]; omega
      | false => have := ly i hi hb; rw [if_neg (by simp)]; omega
    · rw [cn i1 hi1, if_pos hb1]; omega
  have hrs : rkSets m c [s] = 0 := rkSets_ok hm hRk (by simp; rw [hlen]; exact hs)
  have rc1 : rankOf c s = 0 := rank_is (fun i hi _ => (hRk.1.2 i hi).1) ⟨i1, by omega, hb1, by rw [cn i1 hi1, if_pos hb1]; omega⟩ (by omega)
  have rc2 : rankOf c d = f := rank_is (fun i hi hb => by
      rw [hlen] at hi
      rw [hdb i hi] at hb
      have hb : s.testBit i = false := by simpa using hb
      have := ly i hi hb
      rw [cn i hi, if_neg (by rw [hb]; simp)]; omega) ⟨i2, by omega, hb2, by rw [cn i2 hi2, if_neg (by rw [hsb2]; simp)]; omega⟩ (by omega)
  have f1 : firmR m r s = (y - x, 0) := by unfold firmR; rw [if_neg (by simpa using h0), if_neg hz, ← hd, ← hxx, ← hyy]
  refine ⟨?_, hlen, rkErr_ok hm hRk, ?_, ?_, ?_⟩
  · unfold firmR
    rw [if_neg (by simpa using hrs), hlen, ← hd, if_neg (by simp [hs0, hd0]), rc1, rc2]
    simp
  · intro v w hv hw hvw
    rw [cn v hv, cn w hw, hvw]
    omega
  · rw [f1]
  · rw [f1]
    intro hpos
    have hpos : 0 ≤ y - x := hpos
    obtain ⟨i0, hi0, hz0⟩ := h.2
    have hx0 : x = 0 := by
      have := (h.1.2 i1 hi1).1
      cases hb : s.testBit i0 with
      | true => have := lx i0 hi0 hb; omega
      | false => have := ly i0 hi0 hb; omega
    have hy1 := (h.1.2 i2 hi2).2
    unfold condR
    rw [if_neg (by simpa using hrs), if_neg (by dsimp only; omega), hlen, ← hd, if_neg (by simp [hs0, hd0]), rc1, rc2]
    have e : shL c (fun i => if s.testBit i then -0 else (y - x, (0 : Int)).1 - f) r.length = r := by
      refine ext_nth (shL_len _ _ _) fun i hi => ?_
      rw [shL_len] at hi
      rw [shL_nth hi, cn i hi]
      cases hb : s.testBit i <;> simp <;> omega
    rw [e]
    exact limR_ok fun i hi => (h.1.2 i hi).2

end Go.Proofs.Ytdlhfihddipjaab
