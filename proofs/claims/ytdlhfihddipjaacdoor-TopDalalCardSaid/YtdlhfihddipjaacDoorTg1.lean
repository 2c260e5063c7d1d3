/-
  Plain: tables of revisions by ranks, the postulates of revision, and the order that represents a table.
-/
import Derived.Test.YtdlhfihddipjaacDoorBits2
namespace Go.Proofs.YtdlhfihddipjaacDoor

/-- The valuations of a set that have the least rank. -/
def lst (d : List Int) (x : Nat) : Nat := maskTo (fun v => x.testBit v && (List.range d.length).all fun w => !x.testBit w || decide (nth d v ≤ nth d w)) d.length
theorem lst_bit {d : List Int} {x v : Nat} : (lst d x).testBit v = true ↔ v < d.length ∧ x.testBit v = true ∧ ∀ w, w < d.length → x.testBit w = true → nth d v ≤ nth d w := by
  unfold lst
  rw [maskTo_bit]
  simp only [Bool.and_eq_true, decide_eq_true_eq, List.all_eq_true, List.mem_range, Bool.or_eq_true, Bool.not_eq_true']
  constructor
  · rintro ⟨h1, h2, h3⟩
    refine ⟨h1, h2, fun w hw hb => ?_⟩
    rcases h3 w hw with h | h
    · rw [hb] at h; exact absurd h (by decide)
    · exact h
  · rintro ⟨h1, h2, h3⟩
    refine ⟨h1, h2, fun w hw => ?_⟩
    cases hb : x.testBit w with
    | false => exact .inl rfl
    | true => exact .inr (h3 w hw hb)
theorem lst_lt (d : List Int) (x : Nat) : lst d x < 2 ^ d.length := maskTo_lt _ _
theorem ext_bits {x y N : Nat} (hx : x < 2 ^ N) (hy : y < 2 ^ N) (h : ∀ v, v < N → (x.testBit v = true ↔ y.testBit v = true)) : x = y := by
  refine Nat.eq_of_testBit_eq fun v => ?_
  by_cases hv : v < N
  · have := h v hv
    cases h1 : x.testBit v <;> cases h2 : y.testBit v <;> simp_all
  · rw [lt_pow_iff.1 hx v (by omega), lt_pow_iff.1 hy v (by omega)]
theorem bit_of_ne {x N : Nat} (hx : x < 2 ^ N) (h : x ≠ 0) : ∃ v, v < N ∧ x.testBit v = true := by
  refine Classical.byContradiction fun hn => h ?_
  refine ext_bits hx (Nat.two_pow_pos N) fun v hv => ?_
  rw [Nat.zero_testBit]
  refine ⟨fun hb => absurd ⟨v, hv, hb⟩ hn, fun hb => absurd hb (by decide)⟩
/-- A nonempty set has an element of least rank. -/
theorem least_exists {d : List Int} {N : Nat} (P : Nat → Prop) (h : ∃ v, v < N ∧ P v) : ∃ v, v < N ∧ P v ∧ ∀ w, w < N → P w → nth d v ≤ nth d w := by
  induction N with
  | zero => obtain ⟨v, hv, _⟩ := h; omega
  | succ n ih =>
    by_cases hn : ∃ v, v < n ∧ P v
    · obtain ⟨v, hv, hp, hm⟩ := ih hn
      by_cases hq : P n ∧ nth d n < nth d v
      · refine ⟨n, by omega, hq.1, fun w hw hp' => ?_⟩
        by_cases he : w = n
        · rw [he]; exact Int.le_refl _
        · have := hm w (by omega) hp'; omega
      · refine ⟨v, by omega, hp, fun w hw hp' => ?_⟩
        by_cases he : w = n
        · subst he
          have : ¬ nth d w < nth d v := fun hh => hq ⟨hp', hh⟩
          omega
        · exact hm w (by omega) hp'
    · obtain ⟨v, hv, hp⟩ := h
      have he : v = n := by
        refine Classical.byContradiction fun hne => hn ⟨v, by omega, hp⟩
      subst he
      refine ⟨v, by omega, hp, fun w hw hp' => ?_⟩
      by_cases he : w = v
      · rw [he]; exact Int.le_refl _
      · exact absurd ⟨w, by omega, hp'⟩ hn

/-- The postulates, as the program asks them. -/
def pst (k : Nat) (t : Nat → Nat) (i x y : Nat) : Bool :=
  match i with
  | 0 => sdiff (t x) x == 0
  | 1 => k &&& x == 0 || t x == k &&& x
  | 2 => x == 0 || t x != 0
  | 3 => true
  | 4 => sdiff (t x &&& y) (t (x &&& y)) == 0
  | _ => t x &&& y == 0 || sdiff (t (x &&& y)) (t x &&& y) == 0
/-- How many second sets are asked. -/
def lastOf (S i : Nat) : Nat := if i < 4 then 1 else S
def pHolds (S k : Nat) (t : Nat → Nat) (i : Nat) : Bool := (List.range S).all fun x => (List.range (lastOf S i)).all fun y => pst k t i x y
theorem pHolds_iff {S k : Nat} {t : Nat → Nat} {i : Nat} : pHolds S k t i = true ↔ ∀ x, x < S → ∀ y, y < lastOf S i → pst k t i x y = true := by
  unfold pHolds
  simp only [List.all_eq_true, List.mem_range]
def pMask (S k : Nat) (t : Nat → Nat) : Nat := maskTo (pHolds S k t) 6
theorem pMask_lt (S k : Nat) (t : Nat → Nat) : pMask S k t < 64 := maskTo_lt _ 6
theorem pMask_all {S k : Nat} {t : Nat → Nat} : pMask S k t = 63 ↔ ∀ i, i < 6 → pHolds S k t i = true := by
  constructor
  · intro h i hi
    have h1 : (pMask S k t).testBit i = true := by
      rw [h]
      revert i; decide
    unfold pMask at h1
    rw [maskTo_bit] at h1
    simpa [hi] using h1
  · intro h
    refine ext_bits (N := 6) (pMask_lt S k t) (by decide) fun i hi => ?_
    unfold pMask
    rw [maskTo_bit, h i hi]
    refine ⟨fun _ => by revert i; decide, fun _ => by simp [hi]⟩

theorem sdiff_zero {a b : Nat} : sdiff a b = 0 ↔ ∀ v, a.testBit v = true → b.testBit v = true := by
  constructor
  · intro h v hv
    have := congrArg (fun n => Nat.testBit n v) h
    simp only [sdiff_bit, Nat.zero_testBit] at this
    rw [hv, Bool.true_and] at this
    simpa using this
  · intro h
    refine Nat.eq_of_testBit_eq fun v => ?_
    rw [sdiff_bit, Nat.zero_testBit]
    cases ha : a.testBit v with
    | false => rfl
    | true => rw [h v ha]; rfl
theorem and_zero {a b : Nat} : a &&& b = 0 ↔ ∀ v, a.testBit v = true → b.testBit v = true → False := by
  constructor
  · intro h v h1 h2
    have := congrArg (fun n => Nat.testBit n v) h
    simp only [Nat.testBit_and, Nat.zero_testBit] at this
    rw [h1, h2] at this
    exact absurd this (by decide)
  · intro h
    refine Nat.eq_of_testBit_eq fun v => ?_
    rw [Nat.testBit_and, Nat.zero_testBit]
    cases ha : a.testBit v with
    | false => rfl
    | true => cases hb : b.testBit v with
      | false => rfl
      | true => exact absurd (h v ha hb) id

/-- What the postulates say, element by element (N valuations). -/
structure Km (N k : Nat) (t : Nat → Nat) : Prop where
  r1 : ∀ x, x < 2 ^ N → ∀ v, (t x).testBit v = true → x.testBit v = true
  r2 : ∀ x, x < 2 ^ N → k &&& x ≠ 0 → t x = k &&& x
  r3 : ∀ x, x < 2 ^ N → x ≠ 0 → t x ≠ 0
  r5 : ∀ x y, x < 2 ^ N → y < 2 ^ N → ∀ v, (t x).testBit v = true → y.testBit v = true → (t (x &&& y)).testBit v = true
  r6 : ∀ x y, x < 2 ^ N → y < 2 ^ N → ∀ u, (t x).testBit u = true → y.testBit u = true → ∀ v, (t (x &&& y)).testBit v = true → (t x).testBit v = true ∧ y.testBit v = true
theorem km_iff {N k : Nat} {t : Nat → Nat} : (∀ i, i < 6 → pHolds (2 ^ N) k t i = true) ↔ Km N k t := by
  have hp := Nat.two_pow_pos N
  constructor
  · intro h
    refine ⟨fun x hx => ?_, fun x hx hk => ?_, fun x hx h0 => ?_, fun x y hx hy v h1 h2 => ?_, fun x y hx hy u h1 h2 v h3 => ?_⟩
    · have := pHolds_iff.1 (h 0 (by decide)) x hx 0 (by unfold lastOf; simp)
      simp only [pst, beq_iff_eq] at this
      exact sdiff_zero.1 this
    · have := pHolds_iff.1 (h 1 (by decide)) x hx 0 (by unfold lastOf; simp)
      simp only [pst, Bool.or_eq_true, beq_iff_eq] at this
      exact this.resolve_left hk
    · have := pHolds_iff.1 (h 2 (by decide)) x hx 0 (by unfold lastOf; simp)
      simp only [pst, Bool.or_eq_true, beq_iff_eq, bne_iff_ne] at this
      exact this.resolve_left h0
    · have := pHolds_iff.1 (h 4 (by decide)) x hx y (by unfold lastOf; simpa using hy)
      simp only [pst, beq_iff_eq] at this
      exact sdiff_zero.1 this v (by rw [Nat.testBit_and, h1, h2]; rfl)
    · have := pHolds_iff.1 (h 5 (by decide)) x hx y (by unfold lastOf; simpa using hy)
      simp only [pst, Bool.or_eq_true, beq_iff_eq] at this
      rcases this with h' | h'
      · exact absurd (and_zero.1 h' u h1 h2) id
      · have := sdiff_zero.1 h' v h3
        rw [Nat.testBit_and, Bool.and_eq_true] at this
        exact this
  · intro h i hi
    rw [pHolds_iff]
    intro x hx y hy
    have hi' : i = 0 ∨ i = 1 ∨ i = 2 ∨ i = 3 ∨ i = 4 ∨ i = 5 := by omega
    rcases hi' with rfl | rfl | rfl | rfl | rfl | rfl
    · simp only [pst, beq_iff_eq]; exact sdiff_zero.2 (h.r1 x hx)
    · simp only [pst, Bool.or_eq_true, beq_iff_eq]
      by_cases hk : k &&& x = 0
      · exact .inl hk
      · exact .inr (h.r2 x hx hk)
    · simp only [pst, Bool.or_eq_true, beq_iff_eq, bne_iff_ne]
      by_cases hk : x = 0
      · exact .inl hk
      · exact .inr (h.r3 x hx hk)
    · rfl
    · have hy' : y < 2 ^ N := by unfold lastOf at hy; simpa using hy
      simp only [pst, beq_iff_eq]
      refine sdiff_zero.2 fun v hv => ?_
      rw [Nat.testBit_and, Bool.and_eq_true] at hv
      exact h.r5 x y hx hy' v hv.1 hv.2
    · have hy' : y < 2 ^ N := by unfold lastOf at hy; simpa using hy
      simp only [pst, Bool.or_eq_true, beq_iff_eq]
      by_cases hk : t x &&& y = 0
      · exact .inl hk
      · refine .inr (sdiff_zero.2 fun v hv => ?_)
        obtain ⟨u, hu⟩ : ∃ u, (t x &&& y).testBit u = true := by
          obtain ⟨u, _, hu⟩ := bit_of_ne (N := N) (by exact Nat.lt_of_le_of_lt Nat.and_le_right hy') hk
          exact ⟨u, hu⟩
        rw [Nat.testBit_and, Bool.and_eq_true] at hu
        have := h.r6 x y hx hy' u hu.1 hu.2 v hv
        rw [Nat.testBit_and, Bool.and_eq_true]
        exact this

/-- The table of the revision by ranks satisfies the postulates for its belief. -/
theorem km_lst {d : List Int} {k : Nat} (hk : k = lst d (full d.length)) {t : Nat → Nat} (ht : ∀ x, x < 2 ^ d.length → t x = lst d x) : Km d.length k t := by
  have hand : ∀ x y, x < 2 ^ d.length → x &&& y < 2 ^ d.length := fun x y hx => and_lt hx
  refine ⟨fun x hx v hv => ?_, fun x hx h0 => ?_, fun x hx h0 => ?_, fun x y hx hy v h1 h2 => ?_, fun x y hx hy u h1 h2 v h3 => ?_⟩
  · rw [ht x hx] at hv; exact (lst_bit.1 hv).2.1
  · rw [ht x hx]
    obtain ⟨u, hu, hb⟩ := bit_of_ne (N := d.length) (Nat.lt_of_le_of_lt Nat.and_le_right hx) h0
    rw [Nat.testBit_and, Bool.and_eq_true, hk] at hb
    have hu1 := (lst_bit.1 hb.1).2.2
    refine ext_bits (lst_lt _ _) (Nat.lt_of_le_of_lt Nat.and_le_right hx) fun v hv => ?_
    rw [Nat.testBit_and, Bool.and_eq_true, hk, lst_bit, lst_bit]
    constructor
    · rintro ⟨_, q1, q2⟩
      refine ⟨⟨hv, by rw [full_bit]; simpa using hv, fun w hw _ => ?_⟩, q1⟩
      have := q2 u hu hb.2
      have := hu1 w hw (by rw [full_bit]; simpa using hw)
      omega
    · rintro ⟨⟨_, _, q1⟩, q2⟩
      exact ⟨hv, q2, fun w hw _ => q1 w hw (by rw [full_bit]; simpa using hw)⟩
  · rw [ht x hx]
    obtain ⟨v, hv, hp, hm⟩ := least_exists (d := d) (fun v => x.testBit v = true) (bit_of_ne hx h0)
    intro h
    have : (lst d x).testBit v = true := lst_bit.2 ⟨hv, hp, hm⟩
    rw [h, Nat.zero_testBit] at this
    exact absurd this (by decide)
  · rw [ht x hx] at h1
    rw [ht _ (hand x y hx)]
    obtain ⟨q1, q2, q3⟩ := lst_bit.1 h1
    refine lst_bit.2 ⟨q1, by rw [Nat.testBit_and, q2, h2]; rfl, fun w hw hb => ?_⟩
    rw [Nat.testBit_and, Bool.and_eq_true] at hb
    exact q3 w hw hb.1
  · rw [ht x hx] at h1 ⊢
    rw [ht _ (hand x y hx)] at h3
    obtain ⟨q1, q2, q3⟩ := lst_bit.1 h1
    obtain ⟨r1, r2, r3⟩ := lst_bit.1 h3
    rw [Nat.testBit_and, Bool.and_eq_true] at r2
    have := r3 u q1 (by rw [Nat.testBit_and, q2, h2]; rfl)
    refine ⟨lst_bit.2 ⟨r1, r2.1, fun w hw hb => ?_⟩, r2.2⟩
    have := q3 w hw hb
    omega

section
variable {N k : Nat} {t : Nat → Nat}
theorem pair_bit {v w u : Nat} : (2 ^ v ||| 2 ^ w).testBit u = true ↔ u = v ∨ u = w := by
  rw [Nat.testBit_or, Nat.testBit_two_pow, Nat.testBit_two_pow]
  simp only [Bool.or_eq_true, decide_eq_true_eq]
  constructor
  · rintro (h | h)
    · exact .inl h.symm
    · exact .inr h.symm
  · rintro (h | h)
    · exact .inl h.symm
    · exact .inr h.symm
theorem pair_lt {v w : Nat} (hv : v < N) (hw : w < N) : 2 ^ v ||| 2 ^ w < 2 ^ N := Nat.or_lt_two_pow (Nat.pow_lt_pow_right (by omega) hv) (Nat.pow_lt_pow_right (by omega) hw)
theorem pair_sub {v w L : Nat} (hv : L.testBit v = true) (hw : L.testBit w = true) : L &&& (2 ^ v ||| 2 ^ w) = 2 ^ v ||| 2 ^ w := by
  refine Nat.eq_of_testBit_eq fun u => ?_
  rw [Nat.testBit_and]
  cases h : (2 ^ v ||| 2 ^ w).testBit u with
  | false => simp
  | true => rcases pair_bit.1 h with rfl | rfl <;> simp_all
/-- What a table chooses from a set is what it prefers in all pairs. -/
theorem km_low (h : Km N k t) {L : Nat} (hL : L < 2 ^ N) {v : Nat} (hv : v < N) :
    (t L).testBit v = true ↔ L.testBit v = true ∧ ∀ w, w < N → L.testBit w = true → (t (2 ^ v ||| 2 ^ w)).testBit v = true := by
  constructor
  · intro hb
    have h1 := h.r1 L hL v hb
    refine ⟨h1, fun w hw hwb => ?_⟩
    have := h.r5 L (2 ^ v ||| 2 ^ w) hL (pair_lt hv hw) v hb (pair_bit.2 (.inl rfl))
    rwa [pair_sub h1 hwb] at this
  · rintro ⟨h1, h2⟩
    have hne : L ≠ 0 := fun e => by rw [e, Nat.zero_testBit] at h1; exact absurd h1 (by decide)
    obtain ⟨w, hwb⟩ : ∃ w, (t L).testBit w = true := by
      refine Classical.byContradiction fun hn => h.r3 L hL hne ?_
      refine Nat.eq_of_testBit_eq fun w => ?_
      rw [Nat.zero_testBit]
      cases hq : (t L).testBit w with
      | false => rfl
      | true => exact absurd ⟨w, hq⟩ hn
    have hwL := h.r1 L hL w hwb
    have hw : w < N := Classical.byContradiction fun hn => by rw [lt_pow_iff.1 hL w (by omega)] at hwL; exact absurd hwL (by decide)
    have h3 := h2 w hw hwL
    have := h.r6 L (2 ^ v ||| 2 ^ w) hL (pair_lt hv hw) w hwb (pair_bit.2 (.inr rfl)) v (by rw [pair_sub h1 hwL]; exact h3)
    exact this.1
/-- The lowest of what is left. -/
def lowOf4 (N : Nat) (t : Nat → Nat) (L : Nat) : Nat := maskTo (fun v => L.testBit v && (List.range N).all fun w => !L.testBit w || (t (2 ^ v ||| 2 ^ w)).testBit v) N
theorem lowOf4_bit {L v : Nat} : (lowOf4 N t L).testBit v = true ↔ v < N ∧ L.testBit v = true ∧ ∀ w, w < N → L.testBit w = true → (t (2 ^ v ||| 2 ^ w)).testBit v = true := by
  unfold lowOf4
  rw [maskTo_bit]
  simp only [Bool.and_eq_true, decide_eq_true_eq, List.all_eq_true, List.mem_range, Bool.or_eq_true, Bool.not_eq_true']
  constructor
  · rintro ⟨h1, h2, h3⟩
    refine ⟨h1, h2, fun w hw hb => ?_⟩
    rcases h3 w hw with h | h
    · rw [hb] at h; exact absurd h (by decide)
    · exact h
  · rintro ⟨h1, h2, h3⟩
    refine ⟨h1, h2, fun w hw => ?_⟩
    cases hb : L.testBit w with
    | false => exact .inl rfl
    | true => exact .inr (h3 w hw hb)
theorem bit_lt {L N v : Nat} (hL : L < 2 ^ N) (h : L.testBit v = true) : v < N := Classical.byContradiction fun hn => by rw [lt_pow_iff.1 hL v (by omega)] at h; exact absurd h (by decide)
theorem lowOf4_eq (h : Km N k t) {L : Nat} (hL : L < 2 ^ N) : lowOf4 N t L = t L := by
  refine Nat.eq_of_testBit_eq fun v => ?_
  by_cases hv : v < N
  · have h1 := km_low h hL hv
    have h2 := lowOf4_bit (N := N) (t := t) (L := L) (v := v)
    have : (lowOf4 N t L).testBit v = true ↔ (t L).testBit v = true := by
      rw [h1, h2]; exact ⟨fun q => q.2, fun q => ⟨hv, q⟩⟩
    cases h3 : (lowOf4 N t L).testBit v <;> cases h4 : (t L).testBit v <;> simp_all
  · have : (t L).testBit v = false := by
      cases hq : (t L).testBit v with
      | false => rfl
      | true => exact absurd (bit_lt hL (h.r1 L hL v hq)) hv
    rw [this]
    exact lt_pow_iff.1 (maskTo_lt _ N) v (by omega)

/-- The order under construction: r ranks are given, L is what is left. -/
structure OrdTo (N : Nat) (t : Nat → Nat) (L : Nat) (d : List Int) (r : Nat) : Prop where
  lt : L < 2 ^ N
  len : d.length = N
  sum : r + L < 2 ^ N
  rk : ∀ v, v < N → 0 ≤ nth d v ∧ (L.testBit v = false → nth d v < r) ∧ nth d v ≤ r
  tab : ∀ x, x < 2 ^ N → ∀ u, x.testBit u = true → L.testBit u = false → ∀ v, v < N → ((t x).testBit v = true ↔ x.testBit v = true ∧ L.testBit v = false ∧ ∀ w, w < N → x.testBit w = true → L.testBit w = false → nth d v ≤ nth d w)
theorem OrdTo.start : OrdTo N t (full N) (List.replicate N 0) 0 :=
  ⟨full_lt N, by simp, by have := full_lt N; omega, fun v hv => by rw [nth_replicate _ _ _ hv, full_bit]; simp [hv], fun x hx u h1 h2 => by
    rw [full_bit] at h2
    have := bit_lt hx h1
    simp only [decide_eq_false_iff_not] at h2
    exact absurd this h2⟩
theorem OrdTo.step (h : Km N k t) {L r : Nat} {d d' : List Int} (o : OrdTo N t L d r) (h0 : L ≠ 0) (hl : d'.length = N)
    (hd : ∀ v, v < N → nth d' v = if (lowOf4 N t L).testBit v then (r : Int) else nth d v) : lowOf4 N t L ≠ 0 ∧ sdiff L (lowOf4 N t L) < L ∧ OrdTo N t (sdiff L (lowOf4 N t L)) d' (r + 1) := by
  have he := lowOf4_eq h o.lt
  rw [he] at hd ⊢
  have hne := h.r3 L o.lt h0
  have hsub : ∀ v, (t L).testBit v = true → L.testBit v = true := h.r1 L o.lt
  have hMlt : t L < 2 ^ N := by rw [← he]; exact maskTo_lt _ N
  have hlt : sdiff L (t L) < L := by
    have h1 : sdiff L (t L) &&& L = sdiff L (t L) := by
      refine Nat.eq_of_testBit_eq fun v => ?_
      rw [Nat.testBit_and, sdiff_bit]
      cases L.testBit v <;> simp
    have h2 : sdiff L (t L) ≤ L := by rw [← h1]; exact Nat.and_le_right
    have h3 : sdiff L (t L) ≠ L := fun q => by
      obtain ⟨v, hv, hb⟩ := bit_of_ne hMlt hne
      have h4 := sdiff_bit L (t L) v
      rw [q, hsub v hb, hb] at h4
      exact absurd h4 (by decide)
    omega
  refine ⟨hne, hlt, sdiff_lt o.lt, hl, by have := o.sum; omega, fun v hv => ?_, fun x hx u h1 h2 v hv => ?_⟩
  · rw [hd v hv]
    have ho := o.rk v hv
    split
    · refine ⟨by omega, fun _ => by push_cast; omega, by push_cast; omega⟩
    · rename_i hb
      refine ⟨ho.1, fun hs => ?_, by push_cast; omega⟩
      rw [sdiff_bit] at hs
      have : L.testBit v = false := by
        cases hq : L.testBit v with
        | false => rfl
        | true => rw [hq] at hs; simp at hs; exact absurd hs hb
      have := ho.2.1 this
      push_cast; omega
  · by_cases hout : ∃ u', x.testBit u' = true ∧ L.testBit u' = false
    · obtain ⟨u', g1, g2⟩ := hout
      have hu' : u' < N := bit_lt hx g1
      rw [o.tab x hx u' g1 g2 v hv]
      have hnew : ∀ w, w < N → L.testBit w = false → nth d' w = nth d w := fun w hw hb => by
        rw [hd w hw, if_neg]
        intro hq
        rw [hsub w hq] at hb
        exact absurd hb (by decide)
      have hM : ∀ w, w < N → (t L).testBit w = true → nth d' w = r := fun w hw hb => by rw [hd w hw, if_pos hb]
      have hcase : ∀ w, (sdiff L (t L)).testBit w = false → L.testBit w = false ∨ (t L).testBit w = true := fun w hs => by
        rw [sdiff_bit] at hs
        cases hq : L.testBit w with
        | false => exact .inl rfl
        | true => rw [hq] at hs; simp at hs; exact .inr hs
      constructor
      · rintro ⟨q1, q2, q3⟩
        refine ⟨q1, by rw [sdiff_bit, q2]; rfl, fun w hw hb hs => ?_⟩
        rw [hnew v hv q2]
        rcases hcase w hs with hq | hq
        · rw [hnew w hw hq]; exact q3 w hw hb hq
        · rw [hM w hw hq]; have := (o.rk v hv).2.1 q2; omega
      · rintro ⟨q1, q2, q3⟩
        have hvL : L.testBit v = false := by
          rcases hcase v q2 with hq | hq
          · exact hq
          · have := q3 u' hu' g1 (by rw [sdiff_bit, g2]; rfl)
            rw [hM v hv hq, hnew u' hu' g2] at this
            have := (o.rk u' hu').2.1 g2
            omega
        refine ⟨q1, hvL, fun w hw hb hL => ?_⟩
        have := q3 w hw hb (by rw [sdiff_bit, hL]; rfl)
        rwa [hnew v hv hvL, hnew w hw hL] at this
    · have hin : ∀ w, x.testBit w = true → L.testBit w = true := fun w hw => by
        cases hq : L.testBit w with
        | false => exact absurd ⟨w, hw, hq⟩ hout
        | true => rfl
      have hx' : L &&& x = x := by
        refine Nat.eq_of_testBit_eq fun w => ?_
        rw [Nat.testBit_and]
        cases hq : x.testBit w with
        | false => simp
        | true => rw [hin w hq]; rfl
      have hum : (t L).testBit u = true := by
        rw [sdiff_bit, hin u h1] at h2
        simpa using h2
      have hM : ∀ w, w < N → (t L).testBit w = true → nth d' w = r := fun w hw hb => by rw [hd w hw, if_pos hb]
      have hsm : ∀ w, x.testBit w = true → (sdiff L (t L)).testBit w = false → (t L).testBit w = true := fun w hb hs => by
        rw [sdiff_bit, hin w hb] at hs
        simpa using hs
      constructor
      · intro hb
        have h6 := h.r6 L x o.lt hx u hum h1 v (by rw [hx']; exact hb)
        refine ⟨h6.2, by rw [sdiff_bit, h6.1]; simp, fun w hw hwb hs => ?_⟩
        rw [hM v hv h6.1, hM w hw (hsm w hwb hs)]
        exact Int.le_refl _
      · rintro ⟨q1, q2, _⟩
        have := h.r5 L x o.lt hx v (hsm v q1 q2) q1
        rwa [hx'] at this
theorem OrdTo.done (h : Km N k t) {r : Nat} {d : List Int} (o : OrdTo N t 0 d r) : ∀ x, x < 2 ^ N → lst d x = t x := by
  intro x hx
  have hlen := o.len
  refine Nat.eq_of_testBit_eq fun v => ?_
  by_cases hv : v < N
  · by_cases h0 : x = 0
    · subst h0
      have h1 : (t 0).testBit v = false := by
        cases hq : (t 0).testBit v with
        | false => rfl
        | true => have := h.r1 0 hx v hq; rw [Nat.zero_testBit] at this; exact absurd this (by decide)
      have h2 : (lst d 0).testBit v = false := by
        cases hq : (lst d 0).testBit v with
        | false => rfl
        | true => have := (lst_bit.1 hq).2.1; rw [Nat.zero_testBit] at this; exact absurd this (by decide)
      rw [h1, h2]
    · obtain ⟨u, hu, hb⟩ := bit_of_ne hx h0
      have h1 := o.tab x hx u hb (Nat.zero_testBit u) v hv
      have h2 := lst_bit (d := d) (x := x) (v := v)
      have : (lst d x).testBit v = true ↔ (t x).testBit v = true := by
        rw [h1, h2, hlen]
        constructor
        · rintro ⟨_, q1, q2⟩
          exact ⟨q1, Nat.zero_testBit v, fun w hw hb _ => q2 w hw hb⟩
        · rintro ⟨q1, _, q2⟩
          exact ⟨hv, q1, fun w hw hb => q2 w hw hb (Nat.zero_testBit w)⟩
      cases h3 : (lst d x).testBit v <;> cases h4 : (t x).testBit v <;> simp_all
  · have h1 : (t x).testBit v = false := by
      cases hq : (t x).testBit v with
      | false => rfl
      | true => exact absurd (bit_lt hx (h.r1 x hx v hq)) hv
    rw [h1]
    exact lt_pow_iff.1 (by have := lst_lt d x; rwa [hlen] at this) v (by omega)
end

end Go.Proofs.YtdlhfihddipjaacDoor
