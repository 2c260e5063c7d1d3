/-
  The agreement texts: Join of the reference.
-/
import Derived.Test.YtdlhfihddipjaacDoorAg1
import Derived.Test.YtdlhfihddipjaacDoorPlain3c
import Derived.BigQuiet
import Derived.Test.YtdlhfihddipjaacDoorAg6
namespace Go.Proofs.YtdlhfihddipjaacDoor
open Go.RowKit

/-! ### plain -/
def nsum (f : Nat → Nat) : Nat → Nat
  | 0 => 0
  | k + 1 => nsum f k + f k
theorem nsum_congr {f g : Nat → Nat} {n : Nat} (h : ∀ i, i < n → f i = g i) : nsum f n = nsum g n := by
  induction n with
  | zero => rfl
  | succ n ih => show nsum f n + f n = nsum g n + g n; rw [ih fun i hi => h i (by omega), h n (by omega)]
def setN (P : Nat → Nat) (j x : Nat) : Nat → Nat := fun k => if k = j then x else P k
theorem nsum_set {P : Nat → Nat} {n j x : Nat} (hj : j < n) (hx : x < P j) : nsum (setN P j x) n < nsum P n := by
  induction n with
  | zero => omega
  | succ n ih =>
    show nsum (setN P j x) n + setN P j x n < nsum P n + P n
    by_cases e : j = n
    · subst e
      rw [nsum_congr (f := setN P j x) (g := P) fun i hi => by unfold setN; rw [if_neg (by omega)]]
      unfold setN; rw [if_pos rfl]; omega
    · have := ih (by omega)
      rw [show setN P j x n = P n from by unfold setN; rw [if_neg (fun q => e q.symm)]]
      omega
def rel2 (a b : List Int) (i j : Nat) : Bool := nth a i == nth a j || nth b i == nth b j
theorem rel2_symm {a b : List Int} {i j : Nat} (h : rel2 a b i j = true) : rel2 a b j i = true := by
  unfold rel2 at h ⊢
  rw [Bool.or_eq_true, beq_iff_eq, beq_iff_eq] at h ⊢
  rcases h with h | h
  · exact .inl h.symm
  · exact .inr h.symm
def Compat (n : Nat) (a b : List Int) (f : Nat → Nat) : Prop := ∀ i j, i < n → j < n → rel2 a b i j = true → f i = f j
def RJ (n : Nat) (a b : List Int) (P : Nat → Nat) : Prop := ∀ i, i < n → P i ≤ i ∧ ∀ f, Compat n a b f → f (P i) = f i
theorem RJ.start {n : Nat} {a b : List Int} (ha : Prt n a) : RJ n a b fun i => (nth a i).toNat := fun i hi => by
  obtain ⟨g0, g1, g2⟩ := ha.2 i (by rw [ha.1]; exact hi)
  refine ⟨by show (nth a i).toNat ≤ i; omega, fun f hf => hf _ _ (ha.low hi) hi ?_⟩
  unfold rel2
  rw [g2]; simp
theorem RJ.step {n : Nat} {a b : List Int} {P : Nat → Nat} (h : RJ n a b P) {i j : Nat} (hi : i < n) (hj : j < n) (hr : rel2 a b i j = true) (hlt : P i < P j) : RJ n a b (setN P j (P i)) := fun k hk => by
  unfold setN
  by_cases e : k = j
  · rw [if_pos e, e]
    exact ⟨by have := (h j hj).1; omega, fun f hf => ((h i hi).2 f hf).trans (hf i j hi hj hr)⟩
  · rw [if_neg e]; exact h k hk
def Stb (n : Nat) (a b : List Int) (P : Nat → Nat) (m : Nat) : Prop := ∀ i, i < m → ∀ j, j < n → rel2 a b i j = true → ¬ P i < P j
theorem RJ.done {n : Nat} {a b : List Int} {P : Nat → Nat} (h : RJ n a b P) (hs : Stb n a b P n) (ha : Prt n a) (hb : Prt n b) : IsJoin n a b (upTo n fun i => (P i : Int)) := by
  have hc : Compat n a b P := fun i j hi hj hr => by
    have h1 := hs i hi j hj hr
    have h2 := hs j hj i hi (rel2_symm hr)
    omega
  have hn : ∀ i, i < n → nth (upTo n fun i => (P i : Int)) i = (P i : Int) := fun i hi => upTo_nth hi
  have hp : Prt n (upTo n fun i => (P i : Int)) := ⟨upTo_len _ _, fun i hi => by
    rw [upTo_len] at hi
    have h1 := (h i hi).1
    unfold pGood
    rw [hn i hi]
    refine ⟨by omega, by omega, ?_⟩
    rw [Int.toNat_natCast, hn _ (by omega), (h i hi).2 P hc]⟩
  have up : ∀ c, Prt n c → (∀ i j, i < n → j < n → nth c i = nth c j → rel2 a b i j = true) → Refines c (upTo n fun i => (P i : Int)) := fun c hcp hrel => (refines_iff hcp).2 fun i j hi hj q => by
    rw [hn i hi, hn j hj, hc i j hi hj (hrel i j hi hj q)]
  refine ⟨hp, up a ha fun i j _ _ q => by unfold rel2; rw [q]; simp, up b hb fun i j _ _ q => by unfold rel2; rw [q]; simp, fun r hr h1 h2 => ?_⟩
  intro i hi
  rw [upTo_len] at hi
  rw [hn i hi, Int.toNat_natCast]
  have hf : Compat n a b fun i => (nth r i).toNat := fun i j hi hj hrel => by
    unfold rel2 at hrel
    rw [Bool.or_eq_true, beq_iff_eq, beq_iff_eq] at hrel
    show (nth r i).toNat = (nth r j).toNat
    rcases hrel with q | q
    · rw [(refines_iff ha).1 h1 i j hi hj q]
    · rw [(refines_iff hb).1 h2 i j hi hj q]
  have h3 : (nth r (P i)).toNat = (nth r i).toNat := (h i hi).2 _ hf
  have h4 := (hr.2 i (by rw [hr.1]; exact hi)).1
  have h5 := (hr.2 (P i) (by rw [hr.1]; have := (h i hi).1; omega)).1
  omega

/-! ### memory -/
def cellN (w : World) (a : Addr) : Nat := ((w.cell? a).map fun v => (intOf v).toNat).getD 0
theorem cellN_of {w : World} {a : Addr} {k : IntKind} {m : Nat} (h : w.cell? a = some (.int k m)) : cellN w a = m := by
  unfold cellN
  rw [h]; simp [intOf]
def JR (w : World) (g cap n : Nat) (P : Nat → Nat) : Prop := ∃ F, w.rowIs g 3 cap F ∧ ∀ i, i < n → F i = .int .i64 (P i : Nat)
theorem JR.cell {w : World} {g cap n : Nat} {P : Nat → Nat} (h : JR w g cap n P) (hn : n ≤ cap) {i : Nat} (hi : i < n) : w.cell? ⟨g, i, none⟩ = some (.int .i64 (P i : Nat)) := by
  obtain ⟨F, h1, h2⟩ := h
  rw [h1.cell (by omega), h2 i hi]
theorem JR.frozen {w : World} {g cap n : Nat} {P : Nat → Nat} (h : JR w g cap n P) (i : Nat) : w.frozen? ⟨g, i, none⟩ = false := by
  obtain ⟨F, h1, h2⟩ := h
  exact h1.frozen i
theorem JR.lt {w : World} {g cap n : Nat} {P : Nat → Nat} (h : JR w g cap n P) : g < w.heap.size := by
  obtain ⟨F, h1, h2⟩ := h
  exact h1.lt
theorem JR.ext {w w1 : World} {g cap n : Nat} {P : Nat → Nat} (h : JR w g cap n P) (k : Ext w w1) : JR w1 g cap n P := by
  obtain ⟨F, h1, h2⟩ := h
  exact ⟨F, h1.of_block (k.block g h1.lt), h2⟩
theorem JR.set {w : World} {g cap n : Nat} {P : Nat → Nat} (h : JR w g cap n P) (j x : Nat) : JR (w.setCell ⟨g, j, none⟩ (.int .i64 (x : Nat))) g cap n (setN P j x) := by
  obtain ⟨F, h1, h2⟩ := h
  refine ⟨_, h1.set j _, fun i hi => ?_⟩
  unfold setN
  by_cases e : i = j
  · subst e; simp
  · simp [e, h2 i hi]
def JM (w : World) (g n : Nat) : Nat := nsum (fun i => cellN w ⟨g, i, none⟩) n
theorem JR.jm {w : World} {g cap n : Nat} {P : Nat → Nat} (h : JR w g cap n P) (hn : n ≤ cap) : JM w g n = nsum P n := nsum_congr fun i hi => cellN_of (h.cell hn hi)
theorem JR.ints {w : World} {g cap n : Nat} {P : Nat → Nat} (h : JR w g cap n P) (hn : n ≤ cap) (hc : cap ≤ 9223372036854775807) (hP : ∀ i, i < n → P i ≤ 1000000) : Ints .i64 w (.slice (some ⟨g, 0, none⟩) n cap) (upTo n fun i => (P i : Int)) := by
  obtain ⟨F, h1, h2⟩ := h
  refine ⟨_, cap, by rw [upTo_len], ?_, fun i hi => ?_⟩
  · rw [upTo_len]
    refine SlcAt.of_row_at h1 hn hc fun i hi => ?_
    rw [h2 i hi, upTo_nth hi]
  · rw [upTo_len] at hi
    have := hP i hi
    rw [upTo_nth hi]; exact fits_small (by omega) (by omega)
def boolN : Value → Nat
  | .bool true => 1
  | _ => 0

end Go.Proofs.YtdlhfihddipjaacDoor
