/-
  Plain facts: a set that is made greater, sweep by sweep, by the sets of its members, until it is closed. No program is in sight.
-/
import Derived.Test.YtdlhfihddipjaaaBits
namespace Go.Proofs.Ytdlhfihddipjaaa

/-- Behind the first 'k' steps of a sweep. -/
def sweep (S : Nat → Nat) : Nat → Nat → Nat
  | 0, R => R
  | k + 1, R => if (sweep S k R).testBit k then sweep S k R ||| S k else sweep S k R
/-- Behind 't' sweeps over 'n' points. -/
def sweeps (S : Nat → Nat) (n : Nat) : Nat → Nat → Nat
  | 0, R => R
  | t + 1, R => sweep S n (sweeps S n t R)

theorem sweep_yes {S : Nat → Nat} {k R : Nat} (h : (sweep S k R).testBit k = true) : sweep S (k + 1) R = sweep S k R ||| S k := by
  show (if (sweep S k R).testBit k then _ else _) = _; rw [if_pos h]
theorem sweep_no {S : Nat → Nat} {k R : Nat} (h : (sweep S k R).testBit k = false) : sweep S (k + 1) R = sweep S k R := by
  show (if (sweep S k R).testBit k then _ else _) = _; rw [h]; rfl
theorem sweep_step_mono (S : Nat → Nat) (k R m : Nat) (h : (sweep S k R).testBit m = true) : (sweep S (k + 1) R).testBit m = true := by
  by_cases e : (sweep S k R).testBit k = true
  · rw [sweep_yes e, Nat.testBit_or, h, Bool.true_or]
  · rw [sweep_no (by simpa using e)]; exact h
theorem sweep_mono (S : Nat → Nat) {k l : Nat} (hl : k ≤ l) (R m : Nat) (h : (sweep S k R).testBit m = true) : (sweep S l R).testBit m = true := by
  induction hl with
  | refl => exact h
  | step _ ih => exact sweep_step_mono S _ R m ih
theorem sweep_sub {S : Nat → Nat} {n : Nat} {P : Nat → Prop} (hS : ∀ k, k < n → P k → ∀ m, (S k).testBit m = true → P m) {R : Nat} (hR : ∀ m, R.testBit m = true → P m) :
    ∀ k, k ≤ n → ∀ m, (sweep S k R).testBit m = true → P m := by
  intro k
  induction k with
  | zero => exact fun _ => hR
  | succ k ih =>
    intro hk m hm
    by_cases e : (sweep S k R).testBit k = true
    · rw [sweep_yes e, Nat.testBit_or, Bool.or_eq_true] at hm
      rcases hm with hm | hm
      · exact ih (by omega) m hm
      · exact hS k (by omega) (ih (by omega) k e) m hm
    · rw [sweep_no (by simpa using e)] at hm
      exact ih (by omega) m hm
theorem sweep_lt {S : Nat → Nat} {n N : Nat} (hS : ∀ k, k < n → S k < 2 ^ N) {R : Nat} (hR : R < 2 ^ N) : ∀ k, k ≤ n → sweep S k R < 2 ^ N := by
  intro k
  induction k with
  | zero => exact fun _ => hR
  | succ k ih =>
    intro hk
    by_cases e : (sweep S k R).testBit k = true
    · rw [sweep_yes e]; exact Nat.or_lt_two_pow (ih (by omega)) (hS k (by omega))
    · rw [sweep_no (by simpa using e)]; exact ih (by omega)
theorem sweeps_lt {S : Nat → Nat} {n N : Nat} (hS : ∀ k, k < n → S k < 2 ^ N) {R : Nat} (hR : R < 2 ^ N) (t : Nat) : sweeps S n t R < 2 ^ N := by
  induction t with
  | zero => exact hR
  | succ t ih => exact sweep_lt hS ih n (Nat.le_refl _)
theorem sweeps_sub {S : Nat → Nat} {n : Nat} {P : Nat → Prop} (hS : ∀ k, k < n → P k → ∀ m, (S k).testBit m = true → P m) {R : Nat} (hR : ∀ m, R.testBit m = true → P m) (t : Nat) :
    ∀ m, (sweeps S n t R).testBit m = true → P m := by
  induction t with
  | zero => exact hR
  | succ t ih => exact sweep_sub hS ih n (Nat.le_refl _)
theorem sweeps_mono (S : Nat → Nat) (n : Nat) {R m : Nat} (h : R.testBit m = true) (t : Nat) : (sweeps S n t R).testBit m = true := by
  induction t with
  | zero => exact h
  | succ t ih => exact sweep_mono S (Nat.zero_le n) _ m ih

/-- A set that a sweep leaves alone is closed. -/
theorem sweep_fix {S : Nat → Nat} {n R : Nat} (h : sweep S n R = R) {k : Nat} (hk : k < n) (hb : R.testBit k = true) {m : Nat} (hm : (S k).testBit m = true) : R.testBit m = true := by
  have h1 : (sweep S k R).testBit k = true := sweep_mono S (Nat.zero_le k) R k hb
  have h2 : (sweep S (k + 1) R).testBit m = true := by rw [sweep_yes h1, Nat.testBit_or, hm, Bool.or_true]
  have h3 := sweep_mono S (show k + 1 ≤ n by omega) R m h2
  rwa [h] at h3
theorem sweep_closed {S : Nat → Nat} {n R : Nat} (h : ∀ k, k < n → R.testBit k = true → ∀ m, (S k).testBit m = true → R.testBit m = true) : sweep S n R = R := by
  refine Nat.eq_of_testBit_eq fun m => ?_
  by_cases e : R.testBit m = true
  · rw [e]; exact sweep_mono S (Nat.zero_le n) R m e
  · have := sweep_sub (P := fun m => R.testBit m = true) h (fun m hm => hm) n (Nat.le_refl _) m
    cases h1 : (sweep S n R).testBit m with
    | true => exact absurd (this h1) e
    | false => simpa using e

/-- How many numbers below 'n' a set holds. -/
def members (n R : Nat) : Nat := (List.range n).countP fun i => R.testBit i
theorem members_le (n R : Nat) : members n R ≤ n := by
  have := List.countP_le_length (p := fun i => R.testBit i) (l := List.range n)
  simpa [members] using this
theorem countP_lt {α : Type} {p q : α → Bool} : ∀ (l : List α), (∀ x ∈ l, p x = true → q x = true) → (∃ x ∈ l, p x = false ∧ q x = true) → l.countP p < l.countP q
  | [], _, ⟨x, hx, _⟩ => absurd hx (by simp)
  | y :: r, h, ⟨x, hx, h1, h2⟩ => by
    have hle : r.countP p ≤ r.countP q := List.countP_mono_left fun x hx => h x (by simp [hx])
    rw [List.countP_cons, List.countP_cons]
    rcases List.mem_cons.1 hx with rfl | hx
    · rw [h1, h2]; simp; omega
    · have := countP_lt r (fun z hz => h z (by simp [hz])) ⟨x, hx, h1, h2⟩
      have hy := h y (by simp)
      cases ep : p y with
      | true => rw [hy ep]; simp; omega
      | false => cases q y <;> simp <;> omega
theorem members_grow {S : Nat → Nat} {n R : Nat} (hS : ∀ k, k < n → S k < 2 ^ n) (hR : R < 2 ^ n) (h : sweep S n R ≠ R) : members n R < members n (sweep S n R) := by
  refine countP_lt _ (fun x _ hx => sweep_mono S (Nat.zero_le n) R x hx) ?_
  apply Classical.byContradiction
  intro hno
  refine h (Nat.eq_of_testBit_eq fun m => ?_)
  cases e : R.testBit m with
  | true => exact sweep_mono S (Nat.zero_le n) R m e
  | false =>
    cases e2 : (sweep S n R).testBit m with
    | false => rfl
    | true =>
      have hm : m < n := by
        rcases Nat.lt_or_ge m n with h | h
        · exact h
        · have := Nat.testBit_lt_two_pow (x := sweep S n R) (i := m) (Nat.lt_of_lt_of_le (sweep_lt hS hR n (Nat.le_refl _)) (Nat.pow_le_pow_right (by omega) h))
          rw [this] at e2; cases e2
      exact absurd ⟨m, by simpa using hm, e, e2⟩ hno
/-- After as many sweeps as there are points nothing changes any more. -/
theorem sweeps_done {S : Nat → Nat} {n R i : Nat} (hS : ∀ k, k < n → S k < 2 ^ n) (hR : R < 2 ^ n) (hi : i < n) (h : R.testBit i = true) : sweep S n (sweeps S n n R) = sweeps S n n R := by
  have key : ∀ t, sweep S n (sweeps S n t R) = sweeps S n t R ∨ t + 1 ≤ members n (sweeps S n t R) := by
    intro t
    induction t with
    | zero =>
      right
      have : 0 < (List.range n).countP fun i => R.testBit i := List.countP_pos_iff.2 ⟨i, by simpa using hi, h⟩
      exact this
    | succ t ih =>
      rcases ih with ih | ih
      · left
        show sweep S n (sweep S n (sweeps S n t R)) = sweep S n (sweeps S n t R)
        rw [ih, ih]
      · by_cases e : sweep S n (sweeps S n t R) = sweeps S n t R
        · left
          show sweep S n (sweep S n (sweeps S n t R)) = sweep S n (sweeps S n t R)
          rw [e, e]
        · right
          have := members_grow hS (sweeps_lt hS hR t) e
          show t + 1 + 1 ≤ members n (sweep S n (sweeps S n t R))
          omega
  rcases key n with h1 | h1
  · exact h1
  · have := members_le n (sweeps S n n R); omega

end Go.Proofs.Ytdlhfihddipjaaa
