/-
  Plain facts of ranks: what revision, natural revision and contraction do to belief. No program is in sight.
-/
import Derived.Test.YtdlhfihddipjaaaRkP
namespace Go.Proofs.Ytdlhfihddipjaaa
open Go.RowKit

/-- The members of a set that have its rank. -/
def minset (r : List Int) (s : Nat) : Nat := maskTo (fun i => s.testBit i && decide (nth r i = rankOf r s)) r.length
theorem minset_bit {r : List Int} {s i : Nat} : (minset r s).testBit i = true ↔ i < r.length ∧ s.testBit i = true ∧ nth r i = rankOf r s := by
  unfold minset
  rw [maskTo_bit]
  simp
theorem zeros_bit {r : List Int} {i : Nat} : (zeros r).testBit i = true ↔ i < r.length ∧ nth r i = 0 := by
  unfold zeros
  rw [maskTo_bit]
  simp
theorem bits_eq {a b : Nat} (h : ∀ i, a.testBit i = true ↔ b.testBit i = true) : a = b := by
  apply Nat.eq_of_testBit_eq
  intro i
  exact Bool.eq_iff_iff.2 (h i)

/-- A revision of either kind. -/
def stepR (nat : Bool) (n : Int) (r : List Int) (s : Nat) : List Int × Int := if nat then natR n r s else revR n r s

/-- What both kinds of revision have in common. -/
theorem step_ok {m : Nat} (hm : m ≤ 4) {r : List Int} (h : RkV m r) {s : Nat} (hs : s < 2 ^ r.length) (h0 : s ≠ 0) {B : Int} (hB : B ≤ 999) (hr : ∀ i, i < r.length → nth r i ≤ B) (nat : Bool) :
    ∃ c, stepR nat m r s = (c, 0) ∧ c.length = r.length ∧ RkV m c ∧ zeros c = minset r s ∧ (∀ i, i < r.length → nth c i ≤ B + 1) ∧
      (∀ i, i < r.length → s.testBit i = true → nth c i ≤ nth r i + 1) ∧ (∀ i, i < r.length → s.testBit i = false → nth c i = nth r i + 1) ∧
      (∀ i j, i < r.length → j < r.length → s.testBit i = true → s.testBit j = true → nth r i < nth r j → nth c i < nth c j) ∧
      (∀ i j, i < r.length → j < r.length → s.testBit i = true → s.testBit j = true → nth r i = nth r j → nth c i = nth c j) := by
  have h1 : rkSets m r [s] = 0 := rkSets_ok hm h (by simpa using hs)
  obtain ⟨k, hk, hkb, ek⟩ := rank_att' h hs h0
  have hx : ∀ i, i < r.length → s.testBit i = true → rankOf r s ≤ nth r i := fun i hi hb => rank_below hi hb
  have hg := rankOf_ge h s
  obtain ⟨x, hxx⟩ : ∃ x, x = rankOf r s := ⟨_, rfl⟩
  rw [← hxx] at hx ek hg
  have hr0 := fun i hi => (h.1.2 i hi).1
  have main : ∀ f : Nat → Int, (∀ i, i < r.length → s.testBit i = true → nth r i = x → f i = -x) → (∀ i, i < r.length → s.testBit i = false → f i = 1) →
      (∀ i, i < r.length → s.testBit i = true → 0 ≤ nth r i + f i ∧ f i ≤ 1 ∧ (nth r i ≠ x → 0 < nth r i + f i)) →
      (∀ i j, i < r.length → j < r.length → s.testBit i = true → s.testBit j = true → nth r i < nth r j → nth r i + f i < nth r j + f j) →
      (∀ i j, i < r.length → j < r.length → s.testBit i = true → s.testBit j = true → nth r i = nth r j → f i = f j) →
      ∃ c, limR (shL r f r.length) = (c, 0) ∧ c.length = r.length ∧ RkV m c ∧ zeros c = minset r s ∧ (∀ i, i < r.length → nth c i ≤ B + 1) ∧
      (∀ i, i < r.length → s.testBit i = true → nth c i ≤ nth r i + 1) ∧ (∀ i, i < r.length → s.testBit i = false → nth c i = nth r i + 1) ∧
      (∀ i j, i < r.length → j < r.length → s.testBit i = true → s.testBit j = true → nth r i < nth r j → nth c i < nth c j) ∧
      (∀ i j, i < r.length → j < r.length → s.testBit i = true → s.testBit j = true → nth r i = nth r j → nth c i = nth c j) := by
    intro f f1 f2 f3 f4 f5
    obtain ⟨c, hc⟩ : ∃ c, c = shL r f r.length := ⟨_, rfl⟩
    have cl : c.length = r.length := by rw [hc]; exact shL_len _ _ _
    have cn : ∀ i, i < r.length → nth c i = nth r i + f i := fun i hi => by rw [hc, shL_nth hi]
    have cb : ∀ i, i < r.length → nth c i ≤ B + 1 := fun i hi => by
      rw [cn i hi]
      have := hr i hi
      cases hb : s.testBit i with
      | true => have := (f3 i hi hb).2.1; omega
      | false => rw [f2 i hi hb]; omega
    have c0 : ∀ i, i < r.length → 0 ≤ nth c i := fun i hi => by
      rw [cn i hi]
      have := hr0 i hi
      cases hb : s.testBit i with
      | true => exact (f3 i hi hb).1
      | false => rw [f2 i hi hb]; omega
    refine ⟨c, by rw [← hc]; exact limR_ok fun i hi => by have := cb i (by omega); omega, cl, ⟨⟨by rw [cl]; exact h.1.1, fun i hi => ⟨c0 i (by omega), by have := cb i (by omega); omega⟩⟩, ⟨k, by omega, by rw [cn k hk, f1 k hk hkb ek]; omega⟩⟩, ?_, cb, ?_, ?_, ?_, ?_⟩
    · refine bits_eq fun i => ?_
      rw [zeros_bit, minset_bit, cl]
      constructor
      · rintro ⟨hi, e⟩
        rw [cn i hi] at e
        cases hb : s.testBit i with
        | true =>
          refine ⟨hi, rfl, ?_⟩
          apply Classical.byContradiction
          intro q
          have := (f3 i hi hb).2.2 (by rw [hxx]; exact q)
          omega
        | false =>
          have := hr0 i hi
          rw [f2 i hi hb] at e
          omega
      · rintro ⟨hi, hb, e⟩
        rw [← hxx] at e
        exact ⟨hi, by rw [cn i hi, f1 i hi hb e]; omega⟩
    · intro i hi hb
      rw [cn i hi]
      have := (f3 i hi hb).2.1
      omega
    · intro i hi hb
      rw [cn i hi, f2 i hi hb]
    · intro i j hi hj hbi hbj hlt
      rw [cn i hi, cn j hj]
      exact f4 i j hi hj hbi hbj hlt
    · intro i j hi hj hbi hbj he
      rw [cn i hi, cn j hj, f5 i j hi hj hbi hbj he, he]
  cases nat with
  | false =>
    show ∃ c, revR m r s = (c, 0) ∧ _
    unfold revR
    rw [if_neg (by simpa using h1), if_neg h0, ← hxx]
    refine main _ (fun i hi hb _ => by simp [hb]) (fun i hi hb => by simp [hb]) (fun i hi hb => ?_) (fun i j hi hj hbi hbj hlt => by simp [hbi, hbj]; omega) (fun i j hi hj hbi hbj he => by simp [hbi, hbj])
    have := hx i hi hb
    simp only [hb, if_true]
    omega
  | true =>
    show ∃ c, natR m r s = (c, 0) ∧ _
    unfold natR
    rw [if_neg (by simpa using h1), if_neg h0, ← hxx]
    refine main _ (fun i hi hb e => by simp [hb, e]) (fun i hi hb => by simp [hb]) (fun i hi hb => ?_) (fun i j hi hj hbi hbj hlt => ?_) (fun i j hi hj hbi hbj he => by simp [hbi, hbj, he])
    · have := hx i hi hb
      have := hr0 i hi
      simp only [hb, true_and]
      by_cases e : nth r i = x <;> simp [e] <;> omega
    · have := hx i hi hbi
      have := hr0 i hi
      simp only [hbi, hbj, true_and]
      by_cases e : nth r i = x
      · rw [if_pos e, if_neg (by omega)]; omega
      · rw [if_neg e, if_neg (by omega)]; omega

/-- Belief after a list of revisions. -/
def belL (nat : Bool) (n : Int) : List Nat → List Int → Nat × Bool
  | [], r => ((belR n r).1, decide ((belR n r).2 = 0))
  | s :: xs, r => if (stepR nat n r s).2 ≠ 0 then (0, false) else belL nat n xs (stepR nat n r s).1

theorem belR_ok {m : Nat} (hm : m ≤ 4) {r : List Int} (h : RkV m r) : belR m r = (zeros r, 0) := by
  unfold belR
  rw [if_neg (by simpa using rkErr_ok hm h)]

theorem bel_one {m : Nat} (hm : m ≤ 4) {r : List Int} (h : RkV m r) (hr : ∀ i, i < r.length → nth r i ≤ 900) {a : Nat} (ha : a < 2 ^ r.length) (ha0 : a ≠ 0) (nat : Bool) : belL nat m [a] r = (minset r a, true) := by
  obtain ⟨c, e, cl, hc, hz, _⟩ := step_ok hm h ha ha0 (B := 900) (by omega) hr nat
  unfold belL belL
  rw [e, if_neg (by simp), belR_ok hm hc, hz]
  rfl

/-- What Darwiche and Pearl ask of a belief behind two revisions. -/
theorem iterates {m : Nat} (hm : m ≤ 4) {r : List Int} (h : RkV m r) (hr : ∀ i, i < r.length → nth r i ≤ 900) {a b : Nat} (ha : a < 2 ^ r.length) (hb : b < 2 ^ r.length) (ha0 : a ≠ 0) (hb0 : b ≠ 0) (nat : Bool) :
    ∃ t, belL nat m [b, a] r = (t, true) ∧ minset r a ≠ 0 ∧ (∀ i, (minset r a).testBit i = true → a.testBit i = true) ∧ (∀ i, t.testBit i = true → a.testBit i = true) ∧
      (((∀ i, a.testBit i = true → b.testBit i = true) ∨ (∀ i, a.testBit i = true → b.testBit i = false)) → minset r a = t) ∧
      ((∀ i, (minset r a).testBit i = true → b.testBit i = true) → ∀ i, t.testBit i = true → b.testBit i = true) ∧
      ((∃ i, (minset r a).testBit i = true ∧ b.testBit i = true) → ∃ i, t.testBit i = true ∧ b.testBit i = true) := by
  obtain ⟨c, e, cl, hc, hz, cb, p1, p2, p3, p4⟩ := step_ok hm h hb hb0 (B := 900) (by omega) hr nat
  obtain ⟨d, e2, dl, hd, hz2, _⟩ := step_ok hm hc (s := a) (by rw [cl]; exact ha) ha0 (B := 901) (by omega) (fun i hi => cb i (by omega)) nat
  obtain ⟨k, hk, hka, ek⟩ := rank_att' h ha ha0
  obtain ⟨l, hl, hla, el⟩ := rank_att' hc (s := a) (by rw [cl]; exact ha) ha0
  rw [cl] at hl
  have bl : ∀ i, i < r.length → a.testBit i = true → rankOf r a ≤ nth r i := fun i hi hb => rank_below hi hb
  have bc : ∀ i, i < r.length → a.testBit i = true → rankOf c a ≤ nth c i := fun i hi hb => rank_below (by omega) hb
  refine ⟨minset c a, ?_, bit_ne_zero (minset_bit.2 ⟨hk, hka, ek⟩), fun i hi => (minset_bit.1 hi).2.1, fun i hi => (minset_bit.1 hi).2.1, ?_, ?_, ?_⟩
  · show belL nat m (b :: [a]) r = _
    unfold belL
    rw [e, if_neg (by simp)]
    show belL nat m (a :: []) c = _
    unfold belL belL
    rw [e2, if_neg (by simp), belR_ok hm hd, hz2]
    rfl
  · intro hor
    refine bits_eq fun i => ?_
    rw [minset_bit, minset_bit, cl]
    have key : ∀ i, i < r.length → a.testBit i = true → ((nth r i = rankOf r a → nth c i ≤ nth c l) ∧ (nth r i ≠ rankOf r a → nth c k < nth c i)) := by
      intro i hi hia
      rcases hor with hin | hout
      · have h1 := hin i hia
        have h2 := hin k hka
        have h3 := hin l hla
        refine ⟨fun q => ?_, fun q => ?_⟩
        · have := bl l hl hla
          by_cases q2 : nth r i = nth r l
          · have := p4 i l hi hl h1 h3 q2; omega
          · have := p3 i l hi hl h1 h3 (by omega); omega
        · have := bl i hi hia
          exact p3 k i hk hi h2 h1 (by omega)
      · have h1 := p2 i hi (hout i hia)
        have h2 := p2 k hk (hout k hka)
        have h3 := p2 l hl (hout l hla)
        refine ⟨fun q => ?_, fun q => ?_⟩
        · have := bl l hl hla; omega
        · have := bl i hi hia; omega
    constructor
    · rintro ⟨hi, hia, q⟩
      have := (key i hi hia).1 q
      have := bc i hi hia
      exact ⟨hi, hia, by omega⟩
    · rintro ⟨hi, hia, q⟩
      refine ⟨hi, hia, ?_⟩
      apply Classical.byContradiction
      intro q2
      have := (key i hi hia).2 q2
      have := bc k hk hka
      omega
  · intro hall i hi
    obtain ⟨hi, hia, q⟩ := minset_bit.1 hi
    rw [cl] at hi
    cases hbi : b.testBit i with
    | true => rfl
    | false =>
      have h1 := p2 i hi hbi
      have hkb := hall k (minset_bit.2 ⟨hk, hka, ek⟩)
      have h2 := p1 k hk hkb
      have h3 := bc k hk hka
      have h4 := bl i hi hia
      have : nth r i = rankOf r a := by omega
      have := hall i (minset_bit.2 ⟨hi, hia, this⟩)
      rw [hbi] at this
      cases this
  · rintro ⟨j, hj, hjb⟩
    obtain ⟨hj, hja, ej⟩ := minset_bit.1 hj
    cases hlb : b.testBit l with
    | true => exact ⟨l, minset_bit.2 ⟨by omega, hla, el⟩, hlb⟩
    | false =>
      have h1 := p2 l hl hlb
      have h2 := p1 j hj hjb
      have h3 := bl l hl hla
      have h4 := bc j hj hja
      exact ⟨j, minset_bit.2 ⟨by omega, hja, by omega⟩, hjb⟩

end Go.Proofs.Ytdlhfihddipjaaa
