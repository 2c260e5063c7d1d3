/-
  Plain facts: joining blocks by links to lower points, as partition.Join does. No program is in sight.
-/
import Derived.Test.YtdlhfihddipjaacDoorPlain3
namespace Go.Proofs.YtdlhfihddipjaacDoor

/-- Where the links from a point end. -/
def root (P : Nat → Nat) (i : Nat) : Nat := if _h : P i < i then root P (P i) else i
termination_by i

theorem root_of_fix {P : Nat → Nat} {i : Nat} (h : P i = i) : root P i = i := by
  rw [root, dif_neg (by omega)]
theorem root_step {P : Nat → Nat} {i : Nat} (h : P i ≤ i) : root P i = root P (P i) := by
  by_cases e : P i = i
  · rw [e]
  · rw [root, dif_pos (by omega)]
theorem root_le (P : Nat → Nat) (i : Nat) : root P i ≤ i := by
  induction i using Nat.strongRecOn with
  | ind i ih =>
    rw [root]
    split
    · rename_i h; have := ih _ h; omega
    · omega
theorem root_fix {P : Nat → Nat} (hP : ∀ i, P i ≤ i) (i : Nat) : P (root P i) = root P i := by
  induction i using Nat.strongRecOn with
  | ind i ih =>
    rw [root]
    split
    · rename_i h; exact ih _ h
    · have := hP i; omega
theorem root_root {P : Nat → Nat} (hP : ∀ i, P i ≤ i) (i : Nat) : root P (root P i) = root P i := root_of_fix (root_fix hP i)
theorem root_congr {P Q : Nat → Nat} (n : Nat) (h : ∀ i, i < n → P i = Q i) : ∀ i, i < n → root P i = root Q i := by
  intro i
  induction i using Nat.strongRecOn with
  | ind i ih =>
    intro hi
    have hq := h i hi
    rw [root, root.eq_1 Q, ← hq]
    split
    · rename_i hlt; exact ih _ hlt (by omega)
    · rfl

/-- One link more: from one root to a lower one. -/
def link (P : Nat → Nat) (x y : Nat) : Nat → Nat := fun k => if k = max x y then min x y else P k
theorem link_le {P : Nat → Nat} (hP : ∀ i, P i ≤ i) (x y : Nat) : ∀ i, link P x y i ≤ i := fun i => by
  unfold link; have := hP i; split <;> omega
theorem link_root {P : Nat → Nat} (hP : ∀ i, P i ≤ i) {x y : Nat} (hx : P x = x) (hy : P y = y) (k : Nat) :
    root (link P x y) k = if root P k = max x y then min x y else root P k := by
  have hmin : P (min x y) = min x y := by rcases Nat.le_total x y with h | h <;> simp [h, hx, hy]
  have hmax : P (max x y) = max x y := by rcases Nat.le_total x y with h | h <;> simp [h, hx, hy]
  have rmin : root (link P x y) (min x y) = min x y := by
    refine root_of_fix ?_
    unfold link
    split
    · rfl
    · exact hmin
  induction k using Nat.strongRecOn with
  | ind k ih =>
    by_cases e : P k = k
    · rw [root_of_fix e]
      by_cases em : k = max x y
      · rw [if_pos em, root_step (link_le hP x y k)]
        have : link P x y k = min x y := by unfold link; rw [if_pos em]
        rw [this, rmin]
      · rw [if_neg em]
        exact root_of_fix (by unfold link; rw [if_neg em]; exact e)
    · have hlt : P k < k := by have := hP k; omega
      have em : k ≠ max x y := fun h => e (by rw [h]; exact hmax)
      have : link P x y k = P k := by unfold link; rw [if_neg em]
      rw [root_step (link_le hP x y k), this, ih _ hlt, root_step (hP k)]

/-- A link made short. -/
def short (P : Nat → Nat) (m : Nat) : Nat → Nat := fun k => if k < m then root P k else P k
theorem short_le {P : Nat → Nat} (hP : ∀ i, P i ≤ i) (m : Nat) : ∀ i, short P m i ≤ i := fun i => by
  unfold short; have := hP i; have := root_le P i; split <;> omega
theorem short_root {P : Nat → Nat} (hP : ∀ i, P i ≤ i) (m k : Nat) : root (short P m) k = root P k := by
  induction k using Nat.strongRecOn with
  | ind k ih =>
    rw [root_step (short_le hP m k)]
    by_cases h : k < m
    · have e : short P m k = root P k := by unfold short; rw [if_pos h]
      rw [e]
      refine root_of_fix ?_
      unfold short
      rw [if_pos (by have := root_le P k; omega), root_root hP]
    · have e : short P m k = P k := by unfold short; rw [if_neg h]
      rw [e]
      by_cases e2 : P k = k
      · rw [e2, root_of_fix (P := short P m) (by rw [e, e2]), root_of_fix e2]
      · rw [ih _ (by have := hP k; omega), ← root_step (hP k)]

/-- What is known of the links behind 'k' points of the second list. -/
structure JoinTo (n : Nat) (a b : Nat → Nat) (k : Nat) (P : Nat → Nat) : Prop where
  le : ∀ i, P i ≤ i
  one : ∀ i, i < n → root P i = root P (a i)
  two : ∀ i, i < k → root P i = root P (b i)
  all : ∀ f : Nat → Nat, (∀ i, i < n → f i = f (a i)) → (∀ i, i < k → f i = f (b i)) → ∀ i, i < n → f (root P i) = f i

theorem JoinTo.start {n : Nat} {a b : Nat → Nat} (ha : ∀ i, a i ≤ i) (haa : ∀ i, i < n → a (a i) = a i) : JoinTo n a b 0 a := by
  have hr : ∀ i, i < n → root a i = a i := fun i hi => by rw [root_step (ha i), root_of_fix (haa i hi)]
  exact ⟨ha, fun i hi => by rw [hr i hi, root_of_fix (haa i hi)], fun i h => absurd h (by omega), fun f h1 _ i hi => by rw [hr i hi, ← h1 i hi]⟩
theorem JoinTo.step {n k : Nat} {a b P : Nat → Nat} (h : JoinTo n a b k P) (hk : k < n) (hb : b k ≤ k) : JoinTo n a b (k + 1) (link P (root P k) (root P (b k))) := by
  have hx := root_fix h.le k
  have hy := root_fix h.le (b k)
  refine ⟨link_le h.le _ _, fun i hi => ?_, fun i hi => ?_, fun f h1 h2 i hi => ?_⟩
  · rw [link_root h.le hx hy, link_root h.le hx hy, h.one i hi]
  · rw [link_root h.le hx hy, link_root h.le hx hy]
    by_cases e : i = k
    · subst e
      rcases Nat.lt_trichotomy (root P i) (root P (b i)) with l | l | l
      · rw [if_neg (by omega), if_pos (by omega)]; omega
      · rw [l]
      · rw [if_pos (by omega), if_neg (by omega)]; omega
    · rw [h.two i (by omega)]
  · have hf := h.all f h1 (fun j hj => h2 j (by omega))
    rw [link_root h.le hx hy]
    split
    · rename_i e
      have fi := hf i hi
      have fk := hf k hk
      have fb := hf (b k) (by omega)
      have fkb := h2 k (by omega)
      rw [e] at fi
      rcases Nat.le_total (root P k) (root P (b k)) with l | l
      · rw [Nat.max_eq_right l] at fi
        rw [Nat.min_eq_left l]
        omega
      · rw [Nat.max_eq_left l] at fi
        rw [Nat.min_eq_right l]
        omega
    · exact hf i hi

/-- What partition.Join answers: the finest partition that both refine. -/
structure JoinSpec (a b q : List Int) : Prop where
  len : q.length = a.length
  ok : pOk q
  one : ∀ i, i < a.length → nth q i = nth q (nth a i).toNat
  two : ∀ i, i < a.length → nth q i = nth q (nth b i).toNat
  all : ∀ f : Nat → Nat, (∀ i, i < a.length → f i = f (nth a i).toNat) → (∀ i, i < a.length → f i = f (nth b i).toNat) → ∀ i, i < a.length → f (nth q i).toNat = f i

theorem pOk_le {p : List Int} (h : pOk p) {i : Nat} (hi : i < p.length) : 0 ≤ nth p i ∧ (nth p i).toNat ≤ i := by
  obtain ⟨h0, h1, _⟩ := h i hi
  omega
theorem pOk_idem {p : List Int} (h : pOk p) {i : Nat} (hi : i < p.length) : nth p (nth p i).toNat = nth p i := (h i hi).2.2

/-- A valid list as a function: beyond its end each point stands alone. -/
def fn (p : List Int) : Nat → Nat := fun i => if i < p.length then (nth p i).toNat else i
theorem fn_at {p : List Int} {i : Nat} (hi : i < p.length) : fn p i = (nth p i).toNat := by unfold fn; rw [if_pos hi]
theorem fn_le {p : List Int} (h : pOk p) (i : Nat) : fn p i ≤ i := by
  unfold fn
  split
  · rename_i hi; exact (pOk_le h hi).2
  · omega
theorem fn_idem {p : List Int} (h : pOk p) {i : Nat} (hi : i < p.length) : fn p (fn p i) = fn p i := by
  have := pOk_le h hi
  rw [fn_at hi, fn_at (by omega), pOk_idem h hi]

/-- The list that Join answers. -/
def rootList (n : Nat) (P : Nat → Nat) : List Int := upTo n fun i => (root P i : Nat)
theorem join_done {a b : List Int} {P : Nat → Nat} (ha : pOk a) (hb : pOk b) (hl : a.length = b.length) (h : JoinTo a.length (fn a) (fn b) a.length P) : JoinSpec a b (rootList a.length P) := by
  have hq : ∀ i, i < a.length → nth (rootList a.length P) i = (root P i : Nat) := fun i hi => upTo_nth hi
  refine ⟨upTo_len _ _, fun i hi => ?_, fun i hi => ?_, fun i hi => ?_, fun f h1 h2 i hi => ?_⟩
  · rw [rootList, upTo_len] at hi
    have hle := root_le P i
    refine ⟨by rw [hq i hi]; omega, by rw [hq i hi]; omega, ?_⟩
    rw [hq i hi, Int.toNat_natCast, hq _ (by omega), root_root h.le]
  · have := pOk_le ha hi
    have e := h.one i hi
    rw [fn_at hi] at e
    rw [hq i hi, hq _ (by omega), e]
  · have := pOk_le hb (i := i) (by omega)
    have e := h.two i hi
    rw [fn_at (by omega)] at e
    rw [hq i hi, hq _ (by omega), e]
  · have e := h.all f (fun j hj => by rw [fn_at hj]; exact h1 j hj) (fun j hj => by rw [fn_at (by omega)]; exact h2 j hj) i hi
    rw [hq i hi, Int.toNat_natCast, e]

/-- A valid list is known by its blocks. -/
theorem pOk_ext {p q : List Int} (hp : pOk p) (hq : pOk q) (hl : p.length = q.length) (h : ∀ i j, i < p.length → j < p.length → (nth p i = nth p j ↔ nth q i = nth q j)) : p = q := by
  refine ext_nth hl fun i hi => ?_
  have p1 := pOk_le hp hi
  have q1 := pOk_le hq (i := i) (by omega)
  have a1 := (h i (nth p i).toNat hi (by omega)).1 (pOk_idem hp hi).symm
  have a2 := (h i (nth q i).toNat hi (by omega)).2 (pOk_idem hq (by omega)).symm
  have b1 := pOk_le hq (i := (nth p i).toNat) (by omega)
  have b2 := pOk_le hp (i := (nth q i).toNat) (by omega)
  rw [← a1] at b1
  rw [← a2] at b2
  omega

end Go.Proofs.YtdlhfihddipjaacDoor
