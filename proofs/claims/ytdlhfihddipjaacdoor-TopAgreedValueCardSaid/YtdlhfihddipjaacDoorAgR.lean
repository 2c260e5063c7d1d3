/-
  The agreement texts, plain: rounds, exchanges, their length; what their end says.
-/
import Derived.Test.YtdlhfihddipjaacDoorAgS
import Derived.Test.YtdlhfihddipjaacDoorAg7
import Derived.Test.YtdlhfihddipjaacDoorAg9
import Derived.Test.YtdlhfihddipjaacDoorAg10
import Derived.Test.YtdlhfihddipjaacDoorPlain3c
namespace Go.Proofs.YtdlhfihddipjaacDoor
open Go.RowKit

/-- A partition divided by what was said. -/
def divC (n : Nat) (l : List (List (Nat × Nat))) (c : List Int) : List Int := l.foldl (fun c s => pDiv n c (keysF s)) c
def saidTo (W : List Int) (C : List (List Int)) (e m : Nat) : List (List (Nat × Nat)) := (List.range m).map fun a => posts W C a e W.length
def said (W : List Int) (C : List (List Int)) (e : Nat) : List (List (Nat × Nat)) := saidTo W C e C.length
def rnd (W : List Int) (C : List (List Int)) (e : Nat) : List (List Int) := C.map (divC W.length (said W C e))
theorem saidTo_succ (W : List Int) (C : List (List Int)) (e m : Nat) : saidTo W C e (m + 1) = saidTo W C e m ++ [posts W C m e W.length] := by simp [saidTo, List.range_succ]
theorem divC_nil (n : Nat) (c : List Int) : divC n [] c = c := rfl
theorem divC_snoc (n : Nat) (l : List (List (Nat × Nat))) (s : List (Nat × Nat)) (c : List Int) : divC n (l ++ [s]) c = pDiv n (divC n l c) (keysF s) := by simp [divC, List.foldl_append]
theorem divC_prt {n : Nat} {c : List Int} (hc : Prt n c) (l : List (List (Nat × Nat))) : Prt n (divC n l c) := by
  induction l generalizing c with
  | nil => exact hc
  | cons s l ih => exact ih (isMeet_pDiv n c (keysF s)).prt
/-- Two points are together behind a division if they were and nothing that was said tells them apart. -/
theorem divC_iff {n : Nat} {i j : Nat} (hi : i < n) (hj : j < n) (l : List (List (Nat × Nat))) (hl : ∀ s ∈ l, s.length = n) (c : List Int) :
    nth (divC n l c) i = nth (divC n l c) j ↔ nth c i = nth c j ∧ ∀ s ∈ l, nthF s i = nthF s j := by
  induction l generalizing c with
  | nil => simp [divC]
  | cons s l ih =>
    have e : divC n (s :: l) c = divC n l (pDiv n c (keysF s)) := rfl
    have hs := hl s (List.mem_cons_self ..)
    have hk : nth (keysF s) i = nth (keysF s) j ↔ nthF s i = nthF s j := by
      unfold keysF
      rw [upTo_nth (by omega), upTo_nth (by omega)]
      constructor
      · intro h; exact keyF_iff.1 (by omega)
      · intro h; rw [keyF_iff.2 h]
    rw [e, ih (fun t ht => hl t (List.mem_cons_of_mem _ ht)), pDiv_iff hi hj, hk]
    constructor
    · rintro ⟨⟨h1, h2⟩, h3⟩
      refine ⟨h1, fun t ht => ?_⟩
      rcases List.mem_cons.1 ht with rfl | ht
      · exact h2
      · exact h3 t ht
    · rintro ⟨h1, h2⟩
      exact ⟨⟨h1, h2 s (List.mem_cons_self ..)⟩, fun t ht => h2 t (List.mem_cons_of_mem _ ht)⟩
theorem nthL_map {C : List (List Int)} (f : List Int → List Int) {a : Nat} (ha : a < C.length) : nthL (C.map f) a = f (nthL C a) := by
  rw [nthL_eq (by simpa using ha), nthL_eq ha]; simp
theorem PrOk.prt {W : List Int} {C : List (List Int)} (h : PrOk W C) {a : Nat} (ha : a < C.length) : Prt W.length (nthL C a) := ⟨h.cl a ha, h.cok a ha⟩
theorem PrOk.div {W : List Int} {C : List (List Int)} (h : PrOk W C) (l : List (List (Nat × Nat))) : PrOk W (C.map (divC W.length l)) :=
  ⟨h.n0, h.n64, by simpa using h.c4, h.wok, fun a ha => by
    have ha : a < C.length := by simpa using ha
    rw [nthL_map _ ha]; exact (divC_prt (h.prt ha) l).1, fun a ha => by
    have ha : a < C.length := by simpa using ha
    rw [nthL_map _ ha]; exact (divC_prt (h.prt ha) l).2⟩
theorem saidTo_len {W : List Int} {C : List (List Int)} {e m : Nat} : ∀ s ∈ saidTo W C e m, s.length = W.length := by
  intro s hs
  obtain ⟨a, _, rfl⟩ := List.mem_map.1 hs
  exact posts_len _ _ _ _ _
theorem rnd_ok {W : List Int} {C : List (List Int)} (h : PrOk W C) (e : Nat) : PrOk W (rnd W C e) := h.div _
theorem rnd_len (W : List Int) (C : List (List Int)) (e : Nat) : (rnd W C e).length = C.length := by simp [rnd]

/-! ### the number of blocks -/
def cntTo (c : List Int) : Nat → Nat
  | 0 => 0
  | k + 1 => cntTo c k + (if nth c k = (k : Int) then 1 else 0)
theorem cntTo_le (c : List Int) (k : Nat) : cntTo c k ≤ k := by
  induction k with
  | zero => exact Nat.le_refl _
  | succ k ih => show cntTo c k + _ ≤ k + 1; split <;> omega
theorem cntTo_mono {c r : List Int} {k : Nat} (h : ∀ i, i < k → nth c i = (i : Int) → nth r i = (i : Int)) : cntTo c k ≤ cntTo r k := by
  induction k with
  | zero => exact Nat.le_refl _
  | succ k ih =>
    show cntTo c k + _ ≤ cntTo r k + _
    have := ih fun i hi => h i (by omega)
    by_cases h1 : nth c k = (k : Int)
    · rw [if_pos h1, if_pos (h k (by omega) h1)]; omega
    · rw [if_neg h1]; split <;> omega
theorem cntTo_lt {c r : List Int} {k j : Nat} (h : ∀ i, i < k → nth c i = (i : Int) → nth r i = (i : Int)) (hj : j < k) (h1 : nth c j ≠ (j : Int)) (h2 : nth r j = (j : Int)) : cntTo c k < cntTo r k := by
  induction k with
  | zero => omega
  | succ k ih =>
    show cntTo c k + _ < cntTo r k + _
    by_cases e : j = k
    · subst e
      have := cntTo_mono fun i (hi : i < j) => h i (by omega)
      rw [if_neg h1, if_pos h2]; omega
    · have := ih (fun i hi => h i (by omega)) (by omega)
      by_cases h3 : nth c k = (k : Int)
      · rw [if_pos h3, if_pos (h k (by omega) h3)]; omega
      · rw [if_neg h3]; split <;> omega
theorem refines_fix {n : Nat} {r c : List Int} (hr : Prt n r) (hc : Prt n c) (h : ∀ i j, i < n → j < n → nth r i = nth r j → nth c i = nth c j) : ∀ i, i < n → nth c i = (i : Int) → nth r i = (i : Int) := by
  intro i hi hci
  obtain ⟨g0, g1, g2⟩ := hr.2 i (by rw [hr.1]; exact hi)
  have hlow := hr.low hi
  have h1 := h (nth r i).toNat i hlow hi g2
  obtain ⟨k0, k1, _⟩ := hc.2 (nth r i).toNat (by rw [hc.1]; exact hlow)
  omega
theorem refines_cnt {n : Nat} {r c : List Int} (hr : Prt n r) (hc : Prt n c) (h : ∀ i j, i < n → j < n → nth r i = nth r j → nth c i = nth c j) : cntTo c n ≤ cntTo r n ∧ (r ≠ c → cntTo c n < cntTo r n) := by
  have hf := refines_fix hr hc h
  refine ⟨cntTo_mono hf, fun hne => ?_⟩
  have : ∃ i, i < n ∧ nth r i ≠ nth c i := by
    apply Classical.byContradiction
    intro k
    refine hne (ext_nth (by rw [hr.1, hc.1]) fun i hi => ?_)
    apply Classical.byContradiction
    intro q
    exact k ⟨i, by rw [← hr.1]; exact hi, q⟩
  obtain ⟨i, hi, hne⟩ := this
  obtain ⟨g0, g1, g2⟩ := hr.2 i (by rw [hr.1]; exact hi)
  have hlow := hr.low hi
  have h1 := h (nth r i).toNat i hlow hi g2
  refine cntTo_lt hf hlow ?_ ?_
  · rw [h1]; intro q; exact hne (by omega)
  · rw [g2]; omega
def pot (n : Nat) (C : List (List Int)) : Nat := (C.map fun c => cntTo c n).sum
theorem pot_le (n : Nat) (C : List (List Int)) : pot n C ≤ n * C.length := by
  unfold pot
  induction C with
  | nil => simp
  | cons c C ih =>
    simp only [List.map_cons, List.sum_cons, List.length_cons, Nat.mul_add, Nat.mul_one]
    have := cntTo_le c n
    omega
theorem pot_div {n : Nat} {C : List (List Int)} (hC : ∀ c ∈ C, Prt n c) (l : List (List (Nat × Nat))) (hl : ∀ s ∈ l, s.length = n) :
    pot n C ≤ pot n (C.map (divC n l)) ∧ (C.map (divC n l) ≠ C → pot n C < pot n (C.map (divC n l))) := by
  unfold pot
  induction C with
  | nil => simp
  | cons c C ih =>
    have hc := hC c (List.mem_cons_self ..)
    obtain ⟨i1, i2⟩ := ih fun d hd => hC d (List.mem_cons_of_mem _ hd)
    obtain ⟨k1, k2⟩ := refines_cnt (divC_prt hc l) hc fun i j hi hj he => ((divC_iff hi hj l hl c).1 he).1
    simp only [List.map_cons, List.sum_cons]
    refine ⟨by omega, fun hne => ?_⟩
    by_cases e : divC n l c = c
    · have : C.map (divC n l) ≠ C := fun q => hne (by rw [e, q])
      have := i2 this
      omega
    · have := k2 e
      omega
theorem PrOk.mem {W : List Int} {C : List (List Int)} (h : PrOk W C) : ∀ c ∈ C, Prt W.length c := by
  intro c hc
  obtain ⟨i, hi, rfl⟩ := List.mem_iff_getElem.1 hc
  have := h.prt hi
  rwa [nthL_eq hi] at this
theorem rnd_pot {W : List Int} {C : List (List Int)} (h : PrOk W C) (e : Nat) (hne : rnd W C e ≠ C) : pot W.length C < pot W.length (rnd W C e) :=
  (pot_div h.mem _ saidTo_len).2 hne

/-! ### exchanges -/
def exC (W : List Int) (C : List (List Int)) (e : Nat) : Nat → List (List Int)
  | 0 => C
  | k + 1 => rnd W (exC W C e k) e
theorem exC_ok {W : List Int} {C : List (List Int)} (h : PrOk W C) (e k : Nat) : PrOk W (exC W C e k) := by
  induction k with
  | zero => exact h
  | succ k ih => exact rnd_ok ih e
theorem exC_len (W : List Int) (C : List (List Int)) (e k : Nat) : (exC W C e k).length = C.length := by
  induction k with
  | zero => rfl
  | succ k ih => show (rnd W _ e).length = _; rw [rnd_len, ih]
theorem exC_pot {W : List Int} {C : List (List Int)} (h : PrOk W C) (e : Nat) {k : Nat} (hk : ∀ j, j < k → exC W C e (j + 1) ≠ exC W C e j) : k ≤ pot W.length (exC W C e k) := by
  induction k with
  | zero => exact Nat.zero_le _
  | succ k ih =>
    have h1 := ih fun j hj => hk j (by omega)
    have h2 := rnd_pot (exC_ok h e k) e (hk k (by omega))
    show k + 1 ≤ pot W.length (rnd W (exC W C e k) e)
    omega
theorem exC_bound {W : List Int} {C : List (List Int)} (h : PrOk W C) (e : Nat) {k : Nat} (hk : ∀ j, j < k → exC W C e (j + 1) ≠ exC W C e j) : k ≤ W.length * C.length := by
  have h1 := exC_pot h e hk
  have h2 := pot_le W.length (exC W C e k)
  rw [exC_len] at h2
  omega
theorem exC_stops {W : List Int} {C : List (List Int)} (h : PrOk W C) (e : Nat) : ∃ k, exC W C e (k + 1) = exC W C e k := by
  apply Classical.byContradiction
  intro hn
  have := exC_bound h e (k := W.length * C.length + 1) fun j _ q => hn ⟨j, q⟩
  omega
/-- The number of rounds that change something. -/
def exN (W : List Int) (C : List (List Int)) (e : Nat) : Nat := ((List.range (W.length * C.length + 1)).find? fun k => decide (exC W C e (k + 1) = exC W C e k)).getD 0
theorem exN_unique {W : List Int} {C : List (List Int)} (h : PrOk W C) {e k : Nat} (h1 : exC W C e (k + 1) = exC W C e k) (h2 : ∀ j, j < k → exC W C e (j + 1) ≠ exC W C e j) : exN W C e = k := by
  have hb := exC_bound h e h2
  unfold exN
  have : (List.range (W.length * C.length + 1)).find? (fun k => decide (exC W C e (k + 1) = exC W C e k)) = some k := by
    rw [List.find?_range_eq_some]
    refine ⟨by simpa using h1, by simp; omega, fun j hj => ?_⟩
    simpa using h2 j hj
  rw [this]; rfl
def exL (W : List Int) (C : List (List Int)) (e m : Nat) : List (List (List Int)) := (List.range m).map (exC W C e)
theorem exL_len (W : List Int) (C : List (List Int)) (e m : Nat) : (exL W C e m).length = m := by simp [exL]
theorem exL_succ (W : List Int) (C : List (List Int)) (e m : Nat) : exL W C e (m + 1) = exL W C e m ++ [exC W C e m] := by simp [exL, List.range_succ]

/-! ### what the end of an exchange says -/
theorem rnd_fix {W : List Int} {C : List (List Int)} {e : Nat} (hP : PrOk W C) (h : rnd W C e = C) {a b i j : Nat} (ha : a < C.length) (hb : b < C.length) (hi : i < W.length) (hj : j < W.length) (hij : nth (nthL C a) i = nth (nthL C a) j) : post W C b i e = post W C b j e := by
  have h1 : nthL (rnd W C e) a = divC W.length (said W C e) (nthL C a) := nthL_map _ ha
  rw [h] at h1
  rw [h1] at hij
  have := ((divC_iff hi hj _ saidTo_len _).1 hij).2 (posts W C b e W.length) (List.mem_map.2 ⟨b, by simpa using hb, rfl⟩)
  rwa [posts_nth hi, posts_nth hj] at this
/-- What is common knowledge: the finest partition that all refine. -/
structure IsComm (n : Nat) (C : List (List Int)) (j : List Int) : Prop where
  prt : Prt n j
  up : ∀ a, a < C.length → Refines (nthL C a) j
  lub : ∀ r, Prt n r → (∀ a, a < C.length → Refines (nthL C a) r) → Refines j r
theorem comm_unique {n : Nat} {C : List (List Int)} {j j' : List Int} (h : IsComm n C j) (h' : IsComm n C j') : j = j' :=
  refines_antisymm h.prt h'.prt (h.lub _ h'.prt h'.up) (h'.lub _ h.prt h.up)
/-- A function that is constant on the cells of all agents is constant on what is common knowledge. -/
theorem comm_const {n : Nat} {C : List (List Int)} {j : List Int} (hj : IsComm n C j) (hC : ∀ a, a < C.length → Prt n (nthL C a)) (f : Nat → Nat × Nat) (hf : ∀ a, a < C.length → ∀ i k, i < n → k < n → nth (nthL C a) i = nth (nthL C a) k → f i = f k) {i k : Nat} (hi : i < n) (hk : k < n) (h : nth j i = nth j k) : f i = f k := by
  have fl : ((List.range n).map f).length = n := by simp
  have fn' : ∀ i, i < n → nthF ((List.range n).map f) i = f i := fun i hi => by rw [nthF_eq (by simpa using hi)]; simp
  have hr := (isMeet_pDiv n (upTo n fun _ => 0) (keysF ((List.range n).map f))).prt
  have key : ∀ i k, i < n → k < n → (nth (pDiv n (upTo n fun _ => 0) (keysF ((List.range n).map f))) i = nth (pDiv n (upTo n fun _ => 0) (keysF ((List.range n).map f))) k ↔ f i = f k) := fun i k hi hk => by
    have := divC_iff hi hk [(List.range n).map f] (by simp) (upTo n fun _ => 0)
    have e : divC n [(List.range n).map f] (upTo n fun _ => 0) = pDiv n (upTo n fun _ => 0) (keysF ((List.range n).map f)) := rfl
    rw [e] at this
    rw [this, upTo_nth hi, upTo_nth hk]
    simp [fn' i hi, fn' k hk]
  have := hj.lub _ hr fun a ha => (refines_iff (hC a ha)).2 fun i k hi hk q => (key i k hi hk).2 (hf a ha i k hi hk q)
  exact (key i k hi hk).1 ((refines_iff hj.prt).1 this i k hi hk h)
/-- The block of a point in what is common knowledge is a union of cells of each agent. -/
theorem comm_sat {W : List Int} {C : List (List Int)} {j : List Int} (hP : PrOk W C) (hj : IsComm W.length C j) {a : Nat} (ha : a < C.length) (w : Nat) : ∀ i k, i < W.length → k < W.length → nth (nthL C a) i = nth (nthL C a) k → (blockOf j w).testBit i = (blockOf j w).testBit k := by
  intro i k hi hk q
  have := (refines_iff (hP.prt ha)).1 (hj.up a ha) i k hi hk q
  rw [blockOf_bit, blockOf_bit, this]
  have l := hj.prt.1
  rw [show decide (i < j.length) = true from by rw [decide_eq_true_eq]; omega, show decide (k < j.length) = true from by rw [decide_eq_true_eq]; omega]
/-- Agents whose posteriors are constant on what is common knowledge give the event its share of it. -/
theorem agree_share {W : List Int} {C : List (List Int)} {j : List Int} {e w : Nat} (hP : PrOk W C) (hj : IsComm W.length C j) (hw : w < W.length) {a : Nat} (ha : a < C.length) (hc : ∀ k, k < W.length → (blockOf j w).testBit k = true → post W C a k e = post W C a w e) :
    ((post W C a w e).1 : Int) * wt W (blockOf j w) = ((post W C a w e).2 : Int) * wt W (blockOf j w &&& e) :=
  share hP ha e _ (comm_sat hP hj ha w) _ hc
theorem wt_comm_pos {W : List Int} {C : List (List Int)} {j : List Int} {w : Nat} (hP : PrOk W C) (hj : Prt W.length j) (hw : w < W.length) : 0 < wt W (blockOf j w) := by
  refine wtTo_pos hP.wok (Nat.le_refl _) hw ?_
  rw [blockOf_bit, hj.1]; simp [hw]
theorem agree_same {W : List Int} {C : List (List Int)} {j : List Int} {e w : Nat} (hP : PrOk W C) (hj : IsComm W.length C j) (hw : w < W.length) {a b : Nat} (ha : a < C.length) (hb : b < C.length)
    (hca : ∀ k, k < W.length → (blockOf j w).testBit k = true → post W C a k e = post W C a w e) (hcb : ∀ k, k < W.length → (blockOf j w).testBit k = true → post W C b k e = post W C b w e) : post W C a w e = post W C b w e := by
  have s1 := agree_share hP hj hw ha hca
  have s2 := agree_share hP hj hw hb hcb
  obtain ⟨g1, d1, _⟩ := post_facts hP ha hw e
  obtain ⟨g2, d2, _⟩ := post_facts hP hb hw e
  have hp := wt_comm_pos hP hj.prt hw
  generalize post W C a w e = x at *
  generalize post W C b w e = y at *
  generalize wt W (blockOf j w) = M at *
  generalize wt W (blockOf j w &&& e) = E at *
  have h : (x.1 : Int) * y.2 = y.1 * x.2 := by
    have k1 : ((x.1 : Int) * y.2) * M = ((y.1 : Int) * x.2) * M := by
      rw [Int.mul_assoc, Int.mul_comm (y.2 : Int) M, ← Int.mul_assoc, s1, Int.mul_assoc, Int.mul_comm E, ← s2, Int.mul_assoc, Int.mul_left_comm]
    exact Int.eq_of_mul_eq_mul_right (by omega) k1
  have h' : x.1 * y.2 = y.1 * x.2 := by exact_mod_cast h
  obtain ⟨e1, e2⟩ := frac_eq g1 g2 d1 d2 h'
  exact Prod.ext e1 e2
/-- At the end of an exchange the posteriors are constant on what is common knowledge. -/
theorem fix_const {W : List Int} {C : List (List Int)} {j : List Int} {e w : Nat} (hP : PrOk W C) (h : rnd W C e = C) (hj : IsComm W.length C j) (hw : w < W.length) {b : Nat} (hb : b < C.length) : ∀ k, k < W.length → (blockOf j w).testBit k = true → post W C b k e = post W C b w e := by
  intro k hk hbit
  refine comm_const hj (fun a ha => hP.prt ha) (fun i => post W C b i e) (fun a ha i k hi hk q => rnd_fix hP h ha hb hi hk q) hk hw ?_
  rw [blockOf_bit] at hbit
  simp at hbit
  exact hbit.2
theorem comm_exists {n : Nat} (C : List (List Int)) (hC : ∀ a, a < C.length → Prt n (nthL C a)) (hJ : ∀ a b, Prt n a → Prt n b → ∃ q, IsJoin n a b q) : ∃ j, IsComm n C j := by
  suffices ∀ m, m ≤ C.length → ∃ j, Prt n j ∧ (∀ a, a < m → Refines (nthL C a) j) ∧ ∀ r, Prt n r → (∀ a, a < m → Refines (nthL C a) r) → Refines j r by
    obtain ⟨j, h1, h2, h3⟩ := this _ (Nat.le_refl _)
    exact ⟨j, h1, h2, h3⟩
  intro m
  induction m with
  | zero =>
    intro _
    refine ⟨upTo n fun i => (i : Int), ⟨upTo_len _ _, fun i hi => ?_⟩, fun a ha => absurd ha (by omega), fun r hr _ i hi => ?_⟩
    · rw [upTo_len] at hi
      unfold pGood
      rw [upTo_nth hi]
      exact ⟨by omega, by omega, by rw [Int.toNat_natCast, upTo_nth hi]⟩
    · rw [upTo_len] at hi
      rw [upTo_nth hi, Int.toNat_natCast]
  | succ m ih =>
    intro hm
    obtain ⟨j, h1, h2, h3⟩ := ih (by omega)
    obtain ⟨q, hq⟩ := hJ j (nthL C m) h1 (hC m (by omega))
    refine ⟨q, hq.prt, fun a ha => ?_, fun r hr hall => hq.lub r hr (h3 r hr fun a ha => hall a (by omega)) (hall m (by omega))⟩
    by_cases e : a = m
    · rw [e]; exact hq.r
    · exact refines_trans (hC a (by omega)) h1 (h2 a (by omega)) hq.l

end Go.Proofs.YtdlhfihddipjaacDoor
