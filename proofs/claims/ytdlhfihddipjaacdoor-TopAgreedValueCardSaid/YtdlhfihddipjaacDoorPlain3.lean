/-
  Plain facts about partitions as lists: each point is given the lowest point of its block. No program is in sight.
-/
import Derived.Test.YtdlhfihddipjaacDoorWords
namespace Go.Proofs.YtdlhfihddipjaacDoor

/-- The list of the first 'n' values of a function. -/
def upTo (n : Nat) (f : Nat → Int) : List Int := (List.range n).map f
theorem upTo_len (n : Nat) (f : Nat → Int) : (upTo n f).length = n := by simp [upTo]
theorem upTo_nth {n : Nat} {f : Nat → Int} {k : Nat} (h : k < n) : nth (upTo n f) k = f k := nth_ofFn n f k h
theorem upTo_eq {n : Nat} {f : Nat → Int} {p : List Int} (hl : p.length = n) (h : ∀ k, k < n → nth p k = f k) : p = upTo n f :=
  ext_nth (by rw [upTo_len, hl]) fun k hk => by rw [upTo_nth (by omega), h k (by omega)]

/-- What partition.Check asks at one place. -/
def pGood (p : List Int) (i : Nat) : Prop := 0 ≤ nth p i ∧ nth p i ≤ i ∧ nth p (nth p i).toNat = nth p i
def pOk (p : List Int) : Prop := ∀ i, i < p.length → pGood p i

instance (p : List Int) : Decidable (pOk p) := by unfold pOk pGood; infer_instance

/-- The lowest number up to 'k' at which 'P' holds, or 'k'. -/
def lowest (P : Nat → Bool) (k : Nat) : Nat := ((List.range (k + 1)).find? P).getD k
theorem lowest_le (P : Nat → Bool) (k : Nat) : lowest P k ≤ k := by
  unfold lowest
  cases h : (List.range (k + 1)).find? P with
  | none => simp
  | some j =>
    have := List.mem_of_find?_eq_some h
    simp at this ⊢; omega
theorem lowest_holds {P : Nat → Bool} {k : Nat} (h : P k = true) : P (lowest P k) = true := by
  unfold lowest
  cases h1 : (List.range (k + 1)).find? P with
  | none => simpa using h
  | some j => simpa using List.find?_some h1
theorem lowest_least {P : Nat → Bool} {k j : Nat} (h : j < lowest P k) : P j = false := by
  unfold lowest at h
  cases h1 : (List.range (k + 1)).find? P with
  | none =>
    rw [h1] at h
    rw [List.find?_eq_none] at h1
    have := h1 j (by simp at h ⊢; omega)
    simpa using this
  | some i =>
    rw [h1] at h
    have := (List.find?_range_eq_some.1 h1).2.2 j (by simpa using h)
    simpa using this
theorem lowest_unique {P : Nat → Bool} {k j : Nat} (hj : j ≤ k) (h1 : P j = true) (h2 : ∀ i, i < j → P i = false) : lowest P k = j := by
  have hle : lowest P k ≤ j := by
    rcases Nat.lt_or_ge j (lowest P k) with h | h
    · rw [lowest_least h] at h1; cases h1
    · exact h
  rcases Nat.lt_or_ge (lowest P k) j with h | h
  · have e := h2 _ h
    by_cases hk : P k = true
    · rw [lowest_holds hk] at e; cases e
    · have : lowest P k = k ∨ P (lowest P k) = true := by
        unfold lowest
        cases h1 : (List.range (k + 1)).find? P with
        | none => simp
        | some j => right; simpa using List.find?_some h1
      rcases this with t | t
      · omega
      · rw [t] at e; cases e
  · omega

/-- Two points with equal entries in both lists. -/
def same2 (a b : List Int) (i j : Nat) : Bool := nth a i == nth a j && nth b i == nth b j
theorem same2_iff {a b : List Int} {i j : Nat} : same2 a b i j = true ↔ nth a i = nth a j ∧ nth b i = nth b j := by simp [same2]
theorem same2_no {a b : List Int} {i j : Nat} : same2 a b i j = false ↔ ¬ (nth a i = nth a j ∧ nth b i = nth b j) := by
  rw [← same2_iff]; simp
theorem same2_refl (a b : List Int) (i : Nat) : same2 a b i i = true := by simp [same2]
theorem same2_symm {a b : List Int} {i j : Nat} (h : same2 a b i j = true) : same2 a b j i = true := by
  rw [same2_iff] at h ⊢; exact ⟨h.1.symm, h.2.symm⟩
theorem same2_trans {a b : List Int} {i j k : Nat} (h : same2 a b i j = true) (h' : same2 a b j k = true) : same2 a b i k = true := by
  rw [same2_iff] at h h' ⊢; exact ⟨h.1.trans h'.1, h.2.trans h'.2⟩

/-- The lowest point with the same entries. -/
def lowOf (a b : List Int) (k : Nat) : Nat := lowest (fun j => same2 a b j k) k
theorem lowOf_le (a b : List Int) (k : Nat) : lowOf a b k ≤ k := lowest_le _ _
theorem lowOf_same (a b : List Int) (k : Nat) : same2 a b (lowOf a b k) k = true := lowest_holds (P := fun j => same2 a b j k) (same2_refl a b k)
theorem lowOf_least {a b : List Int} {k j : Nat} (h : j < lowOf a b k) : same2 a b j k = false := lowest_least (P := fun j => same2 a b j k) h
theorem lowOf_congr {a b : List Int} {i j : Nat} (h : same2 a b i j = true) : lowOf a b i = lowOf a b j := by
  have key : ∀ i j, same2 a b i j = true → ¬ lowOf a b i < lowOf a b j := fun i j h hlt => by
    have := lowOf_least hlt
    rw [same2_trans (lowOf_same a b i) h] at this; cases this
  have h1 := key i j h
  have h2 := key j i (same2_symm h)
  omega
theorem lowOf_iff {a b : List Int} {i j : Nat} : lowOf a b i = lowOf a b j ↔ same2 a b i j = true :=
  ⟨fun h => same2_trans (same2_symm (lowOf_same a b i)) (by rw [h]; exact lowOf_same a b j), lowOf_congr⟩
theorem lowOf_idem (a b : List Int) (k : Nat) : lowOf a b (lowOf a b k) = lowOf a b k := lowOf_congr (lowOf_same a b k)

/-- The partition of 'n' points by two lists of keys. -/
def pDiv (n : Nat) (a b : List Int) : List Int := upTo n fun i => (lowOf a b i : Nat)
theorem pDiv_len (n : Nat) (a b : List Int) : (pDiv n a b).length = n := upTo_len _ _
theorem pDiv_nth {n : Nat} {a b : List Int} {k : Nat} (h : k < n) : nth (pDiv n a b) k = (lowOf a b k : Nat) := upTo_nth h
theorem pDiv_ok (n : Nat) (a b : List Int) : pOk (pDiv n a b) := fun i hi => by
  rw [pDiv_len] at hi
  have hle := lowOf_le a b i
  refine ⟨by rw [pDiv_nth hi]; omega, by rw [pDiv_nth hi]; omega, ?_⟩
  rw [pDiv_nth hi, Int.toNat_natCast, pDiv_nth (by omega), lowOf_idem]
theorem pDiv_iff {n : Nat} {a b : List Int} {i j : Nat} (hi : i < n) (hj : j < n) : nth (pDiv n a b) i = nth (pDiv n a b) j ↔ nth a i = nth a j ∧ nth b i = nth b j := by
  rw [pDiv_nth hi, pDiv_nth hj, ← same2_iff, ← lowOf_iff]
  omega

/-- The entries of the map that 'divide' makes. -/
def entry (a b : List Int) (j : Nat) : Int × Int × Int := (nth a j, nth b j, (j : Int))
def firsts (a b : List Int) (k : Nat) : List (Int × Int × Int) := ((List.range k).filter fun j => lowOf a b j == j).map (entry a b)
theorem firsts_succ_first {a b : List Int} {k : Nat} (h : lowOf a b k = k) : firsts a b (k + 1) = firsts a b k ++ [entry a b k] := by
  simp [firsts, List.range_succ, List.filter_append, h]
theorem firsts_succ_other {a b : List Int} {k : Nat} (h : lowOf a b k ≠ k) : firsts a b (k + 1) = firsts a b k := by
  simp [firsts, List.range_succ, List.filter_append, h]
theorem firsts_mem {a b : List Int} {k : Nat} {u : Int × Int × Int} : u ∈ firsts a b k ↔ ∃ j, j < k ∧ lowOf a b j = j ∧ u = entry a b j := by
  simp only [firsts, List.mem_map, List.mem_filter, List.mem_range, beq_iff_eq]
  constructor
  · rintro ⟨j, ⟨h1, h2⟩, e⟩; exact ⟨j, h1, h2, e.symm⟩
  · rintro ⟨j, h1, h2, e⟩; exact ⟨j, ⟨h1, h2⟩, e.symm⟩
theorem firsts_none {a b : List Int} {k : Nat} (h : lowOf a b k = k) : ∀ u ∈ firsts a b k, ¬ (u.1 = nth a k ∧ u.2.1 = nth b k) := by
  intro u hu hk
  obtain ⟨j, hj, _, rfl⟩ := firsts_mem.1 hu
  have := lowOf_least (a := a) (b := b) (k := k) (j := j) (by omega)
  rw [same2_no] at this
  exact this hk
theorem firsts_val {a b : List Int} {k m : Nat} : ∀ u ∈ firsts a b m, u.1 = nth a k → u.2.1 = nth b k → u.2.2 = (lowOf a b k : Nat) := by
  intro u hu h1 h2
  obtain ⟨j, hj, hl, rfl⟩ := firsts_mem.1 hu
  have := lowOf_congr (same2_iff.2 ⟨h1, h2⟩ : same2 a b j k = true)
  show (j : Int) = _
  rw [← this, hl]
theorem firsts_has {a b : List Int} {k m : Nat} (h : lowOf a b k < m) : ∃ u ∈ firsts a b m, u.1 = nth a k ∧ u.2.1 = nth b k :=
  ⟨entry a b (lowOf a b k), firsts_mem.2 ⟨_, h, lowOf_idem a b k, rfl⟩, same2_iff.1 (lowOf_same a b k)⟩

end Go.Proofs.YtdlhfihddipjaacDoor
