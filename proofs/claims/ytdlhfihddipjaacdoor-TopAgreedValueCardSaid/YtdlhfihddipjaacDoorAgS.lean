/-
  The agreement texts, plain: sums over worlds; weights of sets that are unions of cells; what a constant posterior says.
-/
import Derived.Test.YtdlhfihddipjaacDoorAg3
namespace Go.Proofs.YtdlhfihddipjaacDoor
open Go.RowKit

def sumTo (f : Nat → Int) : Nat → Int
  | 0 => 0
  | k + 1 => sumTo f k + f k
theorem sumTo_congr {f g : Nat → Int} {n : Nat} (h : ∀ i, i < n → f i = g i) : sumTo f n = sumTo g n := by
  induction n with
  | zero => rfl
  | succ n ih => show sumTo f n + f n = sumTo g n + g n; rw [ih fun i hi => h i (by omega), h n (by omega)]
theorem sumTo_zero {f : Nat → Int} {n : Nat} (h : ∀ i, i < n → f i = 0) : sumTo f n = 0 := by
  induction n with
  | zero => rfl
  | succ n ih => show sumTo f n + f n = 0; rw [ih fun i hi => h i (by omega), h n (by omega)]; rfl
theorem sumTo_add (f g : Nat → Int) (n : Nat) : sumTo (fun i => f i + g i) n = sumTo f n + sumTo g n := by
  induction n with
  | zero => rfl
  | succ n ih => show sumTo (fun i => f i + g i) n + (f n + g n) = (sumTo f n + f n) + (sumTo g n + g n); rw [ih]; omega
theorem sumTo_mul (c : Int) (f : Nat → Int) (n : Nat) : sumTo (fun i => c * f i) n = c * sumTo f n := by
  induction n with
  | zero => show (0 : Int) = c * 0; rw [Int.mul_zero]
  | succ n ih => show sumTo (fun i => c * f i) n + c * f n = c * (sumTo f n + f n); rw [ih, Int.mul_add]
theorem sumTo_single {f : Nat → Int} {n r : Nat} (hr : r < n) (h : ∀ i, i < n → i ≠ r → f i = 0) : sumTo f n = f r := by
  induction n with
  | zero => omega
  | succ n ih =>
    show sumTo f n + f n = f r
    by_cases e : r = n
    · subst e; rw [sumTo_zero fun i hi => h i (by omega) (by omega)]; omega
    · rw [ih (by omega) fun i hi hn => h i (by omega) hn, h n (by omega) (fun q => e q.symm)]; omega
theorem sumTo_swap (f : Nat → Nat → Int) (n m : Nat) : sumTo (fun i => sumTo (f i) m) n = sumTo (fun j => sumTo (fun i => f i j) n) m := by
  induction n with
  | zero => exact (sumTo_zero fun _ _ => rfl).symm
  | succ n ih =>
    show sumTo (fun i => sumTo (f i) m) n + sumTo (f n) m = sumTo (fun j => sumTo (fun i => f i j) n + f n j) m
    rw [ih, sumTo_add]
theorem wtTo_sum (W : List Int) (e : Nat) : ∀ k, wtTo W e k = sumTo (fun i => if e.testBit i then nth W i else 0) k
  | 0 => rfl
  | k + 1 => by
    show (if e.testBit k then wtTo W e k + nth W k else wtTo W e k) = sumTo (fun i => if e.testBit i then nth W i else 0) k + (if e.testBit k then nth W k else 0)
    rw [wtTo_sum W e k]
    by_cases h : e.testBit k = true
    · rw [if_pos h, if_pos h]
    · rw [if_neg h, if_neg h, Int.add_zero]
theorem wt_sum (W : List Int) (e : Nat) : wt W e = sumTo (fun i => if e.testBit i then nth W i else 0) W.length := wtTo_sum W e _

/-- A sum over a union of cells, cell by cell. -/
theorem sum_cells {n : Nat} {c : List Int} (hc : c.length = n) (hp : pOk c) (S : Nat → Bool) (hS : ∀ i j, i < n → j < n → nth c i = nth c j → S i = S j) (g : Nat → Int) :
    sumTo (fun i => if S i then g i else 0) n = sumTo (fun r => if nth c r = (r : Int) ∧ S r = true then sumTo (fun i => if nth c i = nth c r then g i else 0) n else 0) n := by
  have key : ∀ i, i < n → ∃ r : Nat, nth c i = (r : Int) ∧ r ≤ i ∧ nth c r = (r : Int) := fun i hi => by
    obtain ⟨h0, h1, h2⟩ := hp i (by omega)
    exact ⟨(nth c i).toNat, by omega, by omega, by rw [h2]; omega⟩
  have e1 : sumTo (fun i => if S i then g i else 0) n = sumTo (fun i => sumTo (fun r => if nth c i = (r : Int) ∧ S r = true then g i else 0) n) n := by
    refine sumTo_congr fun i hi => ?_
    obtain ⟨r, hr, hri, hrr⟩ := key i hi
    have hsame : S i = S r := hS i r hi (by omega) (by rw [hr, hrr])
    rw [sumTo_single (r := r) (by omega) fun j hj hne => if_neg fun q => hne (by have := q.1; omega)]
    rw [hsame]
    by_cases hs : S r = true
    · rw [if_pos hs, if_pos ⟨hr, hs⟩]
    · rw [if_neg hs, if_neg fun q => hs q.2]
  rw [e1, sumTo_swap]
  refine sumTo_congr fun r hr => ?_
  by_cases hq : nth c r = (r : Int) ∧ S r = true
  · rw [if_pos hq]
    refine sumTo_congr fun i hi => ?_
    rw [hq.1]
    by_cases hi2 : nth c i = (r : Int)
    · rw [if_pos ⟨hi2, hq.2⟩, if_pos hi2]
    · rw [if_neg fun q => hi2 q.1, if_neg hi2]
  · rw [if_neg hq]
    refine sumTo_zero fun i hi => if_neg fun q => hq ⟨?_, q.2⟩
    obtain ⟨r', hr', _, hrr'⟩ := key i hi
    have : r' = r := by have := q.1; omega
    rw [← this]; exact hrr'

theorem wt_block (W : List Int) {c : List Int} (hc : c.length = W.length) (r : Nat) : wt W (blockOf c r) = sumTo (fun i => if nth c i = nth c r then nth W i else 0) W.length := by
  rw [wt_sum]
  refine sumTo_congr fun i hi => ?_
  rw [blockOf_bit]
  have : decide (i < c.length) = true := by rw [decide_eq_true_eq]; omega
  rw [this, Bool.true_and]
  by_cases h : nth c i = nth c r
  · rw [if_pos h, if_pos (by simp [h])]
  · rw [if_neg h, if_neg (by simp [h])]
theorem wt_block_and (W : List Int) {c : List Int} (hc : c.length = W.length) (r e : Nat) : wt W (blockOf c r &&& e) = sumTo (fun i => if nth c i = nth c r then (if e.testBit i then nth W i else 0) else 0) W.length := by
  rw [wt_sum]
  refine sumTo_congr fun i hi => ?_
  rw [Nat.testBit_and, blockOf_bit]
  have : decide (i < c.length) = true := by rw [decide_eq_true_eq]; omega
  rw [this, Bool.true_and]
  by_cases h : nth c i = nth c r
  · rw [if_pos h]; simp [h]
  · rw [if_neg h, if_neg (by simp [h])]

theorem blockOf_congr {c : List Int} {i j : Nat} (h : nth c i = nth c j) : blockOf c i = blockOf c j := maskTo_congr fun k _ => by simp only [h]
theorem post_congr {W : List Int} {C : List (List Int)} {a i j : Nat} (e : Nat) (h : nth (nthL C a) i = nth (nthL C a) j) : post W C a i e = post W C a j e := by
  unfold post; rw [blockOf_congr h]

theorem gcd_cross (x y : Nat) : (x / Nat.gcd x y) * y = (y / Nat.gcd x y) * x := by
  have h1 := Nat.gcd_dvd_left x y
  have h2 := Nat.gcd_dvd_right x y
  obtain ⟨p, hp⟩ := h1
  obtain ⟨q, hq⟩ := h2
  by_cases h0 : Nat.gcd x y = 0
  · rw [h0] at hp hq ⊢; simp at hp hq; simp [hp, hq]
  · obtain ⟨d, hd⟩ : ∃ d, d = Nat.gcd x y := ⟨_, rfl⟩
    rw [← hd] at hp hq h0 ⊢
    have e1 : x / d = p := by rw [hp]; exact Nat.mul_div_cancel_left _ (by omega)
    have e2 : y / d = q := by rw [hq]; exact Nat.mul_div_cancel_left _ (by omega)
    rw [e1, e2, hp, hq, Nat.mul_left_comm]
    rw [show q * (d * p) = p * (d * q) from by rw [Nat.mul_left_comm, Nat.mul_comm q p, Nat.mul_left_comm p d q]]
    rw [Nat.mul_left_comm p d q]
theorem gcd_coprime {x y : Nat} (hy : 0 < y) : Nat.gcd (x / Nat.gcd x y) (y / Nat.gcd x y) = 1 := by
  have hg : 0 < Nat.gcd x y := Nat.gcd_pos_of_pos_right _ hy
  have := Nat.gcd_div (Nat.gcd_dvd_left x y) (Nat.gcd_dvd_right x y)
  rw [this, Nat.div_self hg]
/-- Two fractions in lowest terms with the same value are equal. -/
theorem frac_eq {a b c d : Nat} (hab : Nat.gcd a b = 1) (hcd : Nat.gcd c d = 1) (hb : 0 < b) (hd : 0 < d) (h : a * d = c * b) : a = c ∧ b = d := by
  have k1 : b ∣ d := by
    have : b ∣ a * d := ⟨c, by rw [h, Nat.mul_comm]⟩
    exact (Nat.Coprime.dvd_of_dvd_mul_left (show Nat.Coprime b a by unfold Nat.Coprime; rw [Nat.gcd_comm]; exact hab) this)
  have k2 : d ∣ b := by
    have : d ∣ c * b := ⟨a, by rw [← h, Nat.mul_comm]⟩
    exact (Nat.Coprime.dvd_of_dvd_mul_left (show Nat.Coprime d c by unfold Nat.Coprime; rw [Nat.gcd_comm]; exact hcd) this)
  have e : b = d := Nat.dvd_antisymm k1 k2
  subst e
  exact ⟨Nat.eq_of_mul_eq_mul_right hb h, rfl⟩

theorem post_facts {W : List Int} {C : List (List Int)} (hP : PrOk W C) {a k : Nat} (ha : a < C.length) (hk : k < W.length) (e : Nat) :
    Nat.gcd (post W C a k e).1 (post W C a k e).2 = 1 ∧ 0 < (post W C a k e).2 ∧ ((post W C a k e).1 : Int) * wt W (blockOf (nthL C a) k) = ((post W C a k e).2 : Int) * wt W (blockOf (nthL C a) k &&& e) := by
  have hpos := wt_block_pos hP ha hk
  have n1 := (wt_nat hP (blockOf (nthL C a) k)).1
  have n2 := (wt_nat hP (blockOf (nthL C a) k &&& e)).1
  unfold post
  dsimp only
  refine ⟨gcd_coprime hpos, ?_, ?_⟩
  · have hg : 0 < Nat.gcd (wt W (blockOf (nthL C a) k &&& e)).toNat (wt W (blockOf (nthL C a) k)).toNat := Nat.gcd_pos_of_pos_right _ hpos
    exact Nat.div_pos (Nat.le_of_dvd hpos (Nat.gcd_dvd_right _ _)) hg
  · have := gcd_cross (wt W (blockOf (nthL C a) k &&& e)).toNat (wt W (blockOf (nthL C a) k)).toNat
    have h2 := congrArg (fun n : Nat => (n : Int)) this
    simp only [Int.natCast_mul] at h2
    rw [n1, n2] at h2
    exact h2
theorem post_le {W : List Int} {C : List (List Int)} (hP : PrOk W C) {a k : Nat} (ha : a < C.length) (hk : k < W.length) (e : Nat) : (post W C a k e).1 ≤ (post W C a k e).2 := by
  have hpos := wt_block_pos hP ha hk
  unfold post
  dsimp only
  refine Nat.div_le_div_right ?_
  have : wt W (blockOf (nthL C a) k &&& e) ≤ wt W (blockOf (nthL C a) k) := by
    rw [wt_sum, wt_sum]
    suffices ∀ n, n ≤ W.length → sumTo (fun i => if (blockOf (nthL C a) k &&& e).testBit i then nth W i else 0) n ≤ sumTo (fun i => if (blockOf (nthL C a) k).testBit i then nth W i else 0) n from this _ (Nat.le_refl _)
    intro n
    induction n with
    | zero => intro _; exact Int.le_refl _
    | succ n ih =>
      intro hn
      show sumTo _ n + _ ≤ sumTo _ n + _
      refine Int.add_le_add (ih (by omega)) ?_
      have hw := hP.wok n (by omega)
      dsimp only
      rw [Nat.testBit_and]
      by_cases h1 : (blockOf (nthL C a) k).testBit n = true
      · rw [h1, Bool.true_and, if_pos rfl]
        by_cases h2 : e.testBit n = true
        · rw [if_pos h2]; omega
        · rw [if_neg h2]; omega
      · rw [Bool.not_eq_true] at h1
        rw [h1, Bool.false_and]
        simp
  omega
/-- A posterior that is constant on a union of the agent's cells is the share of the event in it. -/
theorem share {W : List Int} {C : List (List Int)} (hP : PrOk W C) {a : Nat} (ha : a < C.length) (e S : Nat) (hS : ∀ i j, i < W.length → j < W.length → nth (nthL C a) i = nth (nthL C a) j → S.testBit i = S.testBit j) (f : Nat × Nat) (hf : ∀ k, k < W.length → S.testBit k = true → post W C a k e = f) :
    (f.1 : Int) * wt W S = (f.2 : Int) * wt W (S &&& e) := by
  have hc := hP.cl a ha
  have hp := hP.cok a ha
  have e1 : wt W S = sumTo (fun r => if nth (nthL C a) r = (r : Int) ∧ S.testBit r = true then wt W (blockOf (nthL C a) r) else 0) W.length := by
    rw [wt_sum, sum_cells hc hp (fun i => S.testBit i) hS (fun i => nth W i)]
    exact sumTo_congr fun r hr => by rw [wt_block W hc]
  have e2 : wt W (S &&& e) = sumTo (fun r => if nth (nthL C a) r = (r : Int) ∧ S.testBit r = true then wt W (blockOf (nthL C a) r &&& e) else 0) W.length := by
    rw [wt_sum]
    have : ∀ i, i < W.length → (if (S &&& e).testBit i then nth W i else 0) = (if S.testBit i then (if e.testBit i then nth W i else 0) else 0) := fun i hi => by
      rw [Nat.testBit_and]
      cases S.testBit i <;> simp
    rw [sumTo_congr this, sum_cells hc hp (fun i => S.testBit i) hS (fun i => if e.testBit i then nth W i else 0)]
    exact sumTo_congr fun r hr => by rw [wt_block_and W hc]
  rw [e1, e2, ← sumTo_mul, ← sumTo_mul]
  refine sumTo_congr fun r hr => ?_
  by_cases hq : nth (nthL C a) r = (r : Int) ∧ S.testBit r = true
  · rw [if_pos hq, if_pos hq]
    have := (post_facts hP ha hr e).2.2
    rw [hf r hr hq.2] at this
    exact this
  · rw [if_neg hq, if_neg hq, Int.mul_zero, Int.mul_zero]
/-- The weighted mean. -/
theorem mean_sum {W : List Int} {C : List (List Int)} (hP : PrOk W C) {a : Nat} (ha : a < C.length) (e : Nat) :
    sumTo (fun r => if nth (nthL C a) r = (r : Int) then wt W (blockOf (nthL C a) r &&& e) else 0) W.length = wt W e := by
  have hc := hP.cl a ha
  rw [wt_sum]
  have h := sum_cells hc (hP.cok a ha) (fun _ => true) (fun _ _ _ _ _ => rfl) (fun i => if e.testBit i then nth W i else 0)
  simp only [if_true, and_true] at h
  rw [h]
  exact sumTo_congr fun r hr => by rw [wt_block_and W hc]

end Go.Proofs.YtdlhfihddipjaacDoor
