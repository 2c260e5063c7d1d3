/-
  Plain facts of joined ranking functions: sets about the first facts are independent of sets about the others. No program is in sight.
-/
import Derived.Test.YtdlhfihddipjaabInd1
import Derived.Test.YtdlhfihddipjaabRank14
namespace Go.Proofs.Ytdlhfihddipjaab
open Go.RowKit

theorem rank_none {r : List Int} {s : Nat} (h : ∀ i, i < r.length → s.testBit i = false) : rankOf r s = 1099511627776 := by
  rcases rkTo_att (r := r) (s := s) r.length with e | ⟨i, hi, hb, _⟩
  · exact e
  · rw [h i hi] at hb; cases hb

section
variable {r s : List Int} {m m2 : Nat}

theorem join_rank (hr : RkV m r) (hs : RkV m2 s) (P Q : Nat → Bool) (X : Nat) (hX : ∀ v, v < s.length * r.length → X.testBit v = (P (v % r.length) && Q (v / r.length))) :
    rankOf (sums r s (s.length * r.length)) X = min (rankOf r (maskTo P r.length) + rankOf s (maskTo Q s.length)) 1099511627776 := by
  have gp := rankOf_ge hr (maskTo P r.length)
  have gq := rankOf_ge hs (maskTo Q s.length)
  have bP : ∀ i, i < r.length → (maskTo P r.length).testBit i = P i := fun i hi => by rw [maskTo_bit]; simp [hi]
  have bQ : ∀ i, i < s.length → (maskTo Q s.length).testBit i = Q i := fun i hi => by rw [maskTo_bit]; simp [hi]
  have mod : ∀ q k, k < r.length → (q * r.length + k) % r.length = k := fun q k hk => by rw [Nat.mul_comm, Nat.mul_add_mod]; exact Nat.mod_eq_of_lt hk
  have div : ∀ q k, k < r.length → (q * r.length + k) / r.length = q := fun q k hk => by rw [Nat.mul_comm, Nat.mul_add_div (by omega), Nat.div_eq_of_lt hk]; omega
  by_cases hp : ∃ i, i < r.length ∧ P i = true
  rotate_left 1
  · have e1 : rankOf r (maskTo P r.length) = 1099511627776 := rank_none fun i hi => by
      rw [bP i hi]
      cases e : P i with
      | false => rfl
      | true => exact absurd ⟨i, hi, e⟩ hp
    have e2 : rankOf (sums r s (s.length * r.length)) X = 1099511627776 := rank_none fun v hv => by
      rw [sums_len] at hv
      obtain ⟨q, k, h1, h2, rfl⟩ := cell_split hv
      rw [hX _ hv, mod q k h2]
      cases e : P k with
      | false => rfl
      | true => exact absurd ⟨k, h2, e⟩ hp
    rw [e1, e2]; omega
  by_cases hq : ∃ i, i < s.length ∧ Q i = true
  rotate_left 1
  · have e1 : rankOf s (maskTo Q s.length) = 1099511627776 := rank_none fun i hi => by
      rw [bQ i hi]
      cases e : Q i with
      | false => rfl
      | true => exact absurd ⟨i, hi, e⟩ hq
    have e2 : rankOf (sums r s (s.length * r.length)) X = 1099511627776 := rank_none fun v hv => by
      rw [sums_len] at hv
      obtain ⟨q, k, h1, h2, rfl⟩ := cell_split hv
      rw [hX _ hv, div q k h2]
      cases e : Q q with
      | false => simp
      | true => exact absurd ⟨q, h1, e⟩ hq
    rw [e1, e2]; omega
  obtain ⟨i, hi, hPi⟩ := hp
  obtain ⟨j, hj, hQj⟩ := hq
  obtain ⟨i, hi, hbi, ei⟩ := rank_att (r := r) (s := maskTo P r.length) ⟨i, hi, by rw [bP i hi]; exact hPi, by have := hr.1.2 i hi; omega⟩
  obtain ⟨j, hj, hbj, ej⟩ := rank_att (r := s) (s := maskTo Q s.length) ⟨j, hj, by rw [bQ j hj]; exact hQj, by have := hs.1.2 j hj; omega⟩
  have h1 := hr.1.2 i hi
  have h2 := hs.1.2 j hj
  rw [bP i hi] at hbi
  rw [bQ j hj] at hbj
  have e : rankOf (sums r s (s.length * r.length)) X = rankOf r (maskTo P r.length) + rankOf s (maskTo Q s.length) := by
    refine rank_is (fun v hv hb => ?_) ⟨j * r.length + i, by rw [sums_len]; exact cell_lt hj hi, ?_, ?_⟩ (by omega)
    · rw [sums_len] at hv
      obtain ⟨q, k, k1, k2, rfl⟩ := cell_split hv
      rw [hX _ hv, mod q k k2, div q k k2, Bool.and_eq_true] at hb
      rw [sums_at k2 hv]
      have a1 := rank_below (r := r) (s := maskTo P r.length) k2 (by rw [bP k k2]; exact hb.1)
      have a2 := rank_below (r := s) (s := maskTo Q s.length) k1 (by rw [bQ q k1]; exact hb.2)
      omega
    · rw [hX _ (cell_lt hj hi), mod j i hi, div j i hi, hbi, hbj]; rfl
    · rw [sums_at hi (cell_lt hj hi), ei, ej]
  rw [e]; omega

theorem join_valid (hr : RkV m r) (hs : RkV m2 s) (hb : ∀ q, q < s.length → ∀ k, k < r.length → nth r k + nth s q ≤ 1000) : RkV (m + m2) (sums r s (s.length * r.length)) := by
  refine ⟨⟨by rw [sums_len, hr.1.1, hs.1.1, Nat.pow_add, Nat.mul_comm], fun i hi => ?_⟩, ?_⟩
  · rw [sums_len] at hi
    obtain ⟨q, k, h1, h2, rfl⟩ := cell_split hi
    rw [sums_at h2 hi]
    have := hr.1.2 k h2
    have := hs.1.2 q h1
    have := hb q h1 k h2
    omega
  · obtain ⟨i, hi, ei⟩ := hr.2
    obtain ⟨j, hj, ej⟩ := hs.2
    exact ⟨j * r.length + i, by rw [sums_len]; exact cell_lt hj hi, by rw [sums_at hi (cell_lt hj hi), ei, ej]; rfl⟩

def firstP (L a : Nat) : Nat → Bool := fun v => a.testBit (v % L)
def otherP (L b : Nat) : Nat → Bool := fun v => b.testBit (v / L)

theorem join_add (hr : RkV m r) (hs : RkV m2 s) (P Q : Nat → Bool) (X Y : Nat) (hX : ∀ v, v < s.length * r.length → X.testBit v = P (v % r.length)) (hY : ∀ v, v < s.length * r.length → Y.testBit v = Q (v / r.length)) :
    addB (sums r s (s.length * r.length)) X Y = true := by
  have g1 := rankOf_ge hr (maskTo P r.length)
  have g2 := rankOf_ge hs (maskTo Q s.length)
  have l1 := rankOf_le r (maskTo P r.length)
  have l2 := rankOf_le s (maskTo Q s.length)
  have e1 := join_rank hr hs P (fun _ => true) X (fun v hv => by rw [hX v hv]; simp)
  have e2 := join_rank hr hs (fun _ => true) Q Y (fun v hv => by rw [hY v hv]; simp)
  have e3 := join_rank hr hs P Q (X &&& Y) (fun v hv => by rw [Nat.testBit_and, hX v hv, hY v hv])
  have z1 : rankOf r (maskTo (fun _ => true) r.length) = 0 := by
    obtain ⟨i, hi, ei⟩ := hr.2
    exact rank_is (fun i hi _ => (hr.1.2 i hi).1) ⟨i, hi, by rw [maskTo_bit]; simp [hi], ei⟩ (by omega)
  have z2 : rankOf s (maskTo (fun _ => true) s.length) = 0 := by
    obtain ⟨i, hi, ei⟩ := hs.2
    exact rank_is (fun i hi _ => (hs.1.2 i hi).1) ⟨i, hi, by rw [maskTo_bit]; simp [hi], ei⟩ (by omega)
  rw [z2] at e1
  rw [z1] at e2
  unfold addB
  rw [decide_eq_true_eq, e1, e2, e3]
  omega

theorem join_ind (hr : RkV m r) (hs : RkV m2 s) (hm : m + m2 ≤ 4) (hb : ∀ q, q < s.length → ∀ k, k < r.length → nth r k + nth s q ≤ 1000) (a b : Nat) :
    indR (m + m2 : Nat) (sums r s (s.length * r.length)) (maskTo (firstP r.length a) (s.length * r.length)) (maskTo (otherP r.length b) (s.length * r.length)) = (true, 0) := by
  have hv := join_valid hr hs hb
  have hN : ∀ P, maskTo P (s.length * r.length) < 2 ^ (sums r s (s.length * r.length)).length := fun P => by rw [sums_len]; exact maskTo_lt _ _
  unfold indR
  rw [if_neg (by have := rkSets_ok hm hv (xs := [maskTo (firstP r.length a) (s.length * r.length), maskTo (otherP r.length b) (s.length * r.length)]) (by simp; exact ⟨hN _, hN _⟩); simpa using this)]
  have f1 : ∀ v, v < s.length * r.length → (maskTo (firstP r.length a) (s.length * r.length)).testBit v = a.testBit (v % r.length) := fun v hv => by rw [maskTo_bit]; simp [hv, firstP]
  have f2 : ∀ v, v < s.length * r.length → (maskTo (otherP r.length b) (s.length * r.length)).testBit v = b.testBit (v / r.length) := fun v hv => by rw [maskTo_bit]; simp [hv, otherP]
  have c1 : ∀ v, v < s.length * r.length → (sdiff (full (sums r s (s.length * r.length)).length) (maskTo (firstP r.length a) (s.length * r.length))).testBit v = !a.testBit (v % r.length) := fun v hv => by rw [comp_bit (by rw [sums_len]; exact hv), f1 v hv]
  have c2 : ∀ v, v < s.length * r.length → (sdiff (full (sums r s (s.length * r.length)).length) (maskTo (otherP r.length b) (s.length * r.length))).testBit v = !b.testBit (v / r.length) := fun v hv => by rw [comp_bit (by rw [sums_len]; exact hv), f2 v hv]
  unfold indB
  rw [join_add hr hs (fun i => a.testBit i) (fun i => b.testBit i) _ _ f1 f2, join_add hr hs (fun i => a.testBit i) (fun i => !b.testBit i) _ _ f1 c2,
    join_add hr hs (fun i => !a.testBit i) (fun i => b.testBit i) _ _ c1 f2, join_add hr hs (fun i => !a.testBit i) (fun i => !b.testBit i) _ _ c1 c2]
  rfl
end

end Go.Proofs.Ytdlhfihddipjaab
