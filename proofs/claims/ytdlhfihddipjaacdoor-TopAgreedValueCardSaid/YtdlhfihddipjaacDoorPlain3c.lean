/-
  Plain facts: the partitions of the points below 'n' are a lattice under 'refines'. No program is in sight.
-/
import Derived.Test.YtdlhfihddipjaacDoorPlain3b
namespace Go.Proofs.YtdlhfihddipjaacDoor

/-- 'a' refines 'b'. -/
def Refines (a b : List Int) : Prop := ∀ i, i < a.length → nth b i = nth b (nth a i).toNat
/-- A valid list for 'n' points. -/
def Prt (n : Nat) (p : List Int) : Prop := p.length = n ∧ pOk p

section
variable {n : Nat} {a b c r : List Int}

theorem Prt.low (h : Prt n a) {i : Nat} (hi : i < n) : (nth a i).toNat < n := by
  have := pOk_le h.2 (i := i) (by rw [h.1]; exact hi); omega
theorem Prt.fix (h : Prt n a) {i : Nat} (hi : i < n) : nth a (nth a i).toNat = nth a i := pOk_idem h.2 (by rw [h.1]; exact hi)

theorem refines_iff (ha : Prt n a) : Refines a b ↔ ∀ i j, i < n → j < n → nth a i = nth a j → nth b i = nth b j := by
  constructor
  · intro h i j hi hj e
    rw [h i (by rw [ha.1]; exact hi), h j (by rw [ha.1]; exact hj), e]
  · intro h i hi
    rw [ha.1] at hi
    exact h i _ hi (ha.low hi) (ha.fix hi).symm
theorem refines_refl (ha : Prt n a) : Refines a a := (refines_iff ha).2 fun _ _ _ _ e => e
theorem refines_trans (ha : Prt n a) (hb : Prt n b) (h : Refines a b) (k : Refines b c) : Refines a c :=
  (refines_iff ha).2 fun i j hi hj e => (refines_iff hb).1 k i j hi hj ((refines_iff ha).1 h i j hi hj e)
theorem refines_antisymm (ha : Prt n a) (hb : Prt n b) (h : Refines a b) (k : Refines b a) : a = b :=
  pOk_ext ha.2 hb.2 (by rw [ha.1, hb.1]) fun i j hi hj => by
    rw [ha.1] at hi hj
    exact ⟨(refines_iff ha).1 h i j hi hj, (refines_iff hb).1 k i j hi hj⟩

structure IsMeet (n : Nat) (a b m : List Int) : Prop where
  prt : Prt n m
  l : Refines m a
  r : Refines m b
  glb : ∀ r, Prt n r → Refines r a → Refines r b → Refines r m
structure IsJoin (n : Nat) (a b j : List Int) : Prop where
  prt : Prt n j
  l : Refines a j
  r : Refines b j
  lub : ∀ r, Prt n r → Refines a r → Refines b r → Refines j r

theorem isMeet_pDiv (n : Nat) (a b : List Int) : IsMeet n a b (pDiv n a b) := by
  have hp : Prt n (pDiv n a b) := ⟨pDiv_len _ _ _, pDiv_ok _ _ _⟩
  exact ⟨hp, (refines_iff hp).2 fun i j hi hj e => ((pDiv_iff hi hj).1 e).1, (refines_iff hp).2 fun i j hi hj e => ((pDiv_iff hi hj).1 e).2,
    fun r hr h1 h2 => (refines_iff hr).2 fun i j hi hj e => (pDiv_iff hi hj).2 ⟨(refines_iff hr).1 h1 i j hi hj e, (refines_iff hr).1 h2 i j hi hj e⟩⟩
theorem isJoin_of {q : List Int} (ha : Prt n a) (hb : Prt n b) (h : JoinSpec a b q) : IsJoin n a b q := by
  have hq : Prt n q := ⟨h.len.trans ha.1, h.ok⟩
  refine ⟨hq, h.one, fun i hi => h.two i (by rw [ha.1, ← hb.1]; exact hi), fun r hr h1 h2 i hi => ?_⟩
  have e := h.all (fun i => (nth r i).toNat) (fun i hi => by rw [h1 i hi]) (fun i hi => by rw [h2 i (by rw [hb.1, ← ha.1]; exact hi)]) i (by rw [ha.1, ← hq.1]; exact hi)
  rw [hq.1] at hi
  have p1 := pOk_le hr.2 (i := i) (by rw [hr.1]; exact hi)
  have p2 := pOk_le hr.2 (i := (nth q i).toNat) (by rw [hr.1]; exact hq.low hi)
  omega

variable {m m' j j' x y : List Int}
theorem meet_unique (h : IsMeet n a b m) (h' : IsMeet n a b m') : m = m' :=
  refines_antisymm h.prt h'.prt (h'.glb _ h.prt h.l h.r) (h.glb _ h'.prt h'.l h'.r)
theorem join_unique (h : IsJoin n a b j) (h' : IsJoin n a b j') : j = j' :=
  refines_antisymm h.prt h'.prt (h.lub _ h'.prt h'.l h'.r) (h'.lub _ h.prt h.l h.r)
theorem IsMeet.symm (h : IsMeet n a b m) : IsMeet n b a m := ⟨h.prt, h.r, h.l, fun r hr h1 h2 => h.glb r hr h2 h1⟩
theorem IsJoin.symm (h : IsJoin n a b j) : IsJoin n b a j := ⟨h.prt, h.r, h.l, fun r hr h1 h2 => h.lub r hr h2 h1⟩
theorem isMeet_le (ha : Prt n a) (h : Refines a b) : IsMeet n a b a := ⟨ha, refines_refl ha, h, fun _ _ h1 _ => h1⟩
theorem isJoin_le (hb : Prt n b) (h : Refines a b) : IsJoin n a b b := ⟨hb, h, refines_refl hb, fun _ _ _ h2 => h2⟩
theorem meet_idem (ha : Prt n a) (h : IsMeet n a a m) : m = a := meet_unique h (isMeet_le ha (refines_refl ha))
theorem join_idem (ha : Prt n a) (h : IsJoin n a a j) : j = a := join_unique h (isJoin_le ha (refines_refl ha))
/-- (a ∧ (b ∧ c)) = ((a ∧ b) ∧ c) -/
theorem meet_assoc (h1 : IsMeet n b c x) (h2 : IsMeet n a x m) (h3 : IsMeet n a b y) (h4 : IsMeet n y c m') : m = m' := by
  refine refines_antisymm h2.prt h4.prt (h4.glb _ h2.prt (h3.glb _ h2.prt h2.l ?_) ?_) (h2.glb _ h4.prt ?_ (h1.glb _ h4.prt ?_ h4.r))
  · exact refines_trans h2.prt h1.prt h2.r h1.l
  · exact refines_trans h2.prt h1.prt h2.r h1.r
  · exact refines_trans h4.prt h3.prt h4.l h3.l
  · exact refines_trans h4.prt h3.prt h4.l h3.r
theorem join_assoc (ha : Prt n a) (hb : Prt n b) (hc : Prt n c) (h1 : IsJoin n b c x) (h2 : IsJoin n a x j) (h3 : IsJoin n a b y) (h4 : IsJoin n y c j') : j = j' := by
  refine refines_antisymm h2.prt h4.prt (h2.lub _ h4.prt ?_ (h1.lub _ h4.prt ?_ h4.r)) (h4.lub _ h2.prt (h3.lub _ h2.prt h2.l ?_) ?_)
  · exact refines_trans ha h3.prt h3.l h4.l
  · exact refines_trans hb h3.prt h3.r h4.l
  · exact refines_trans hb h1.prt h1.l h2.r
  · exact refines_trans hc h1.prt h1.r h2.r
theorem absorb_meet (ha : Prt n a) (h1 : IsJoin n a b j) (h2 : IsMeet n a j m) : m = a := meet_unique h2 (isMeet_le ha h1.l)
theorem absorb_join (ha : Prt n a) (h1 : IsMeet n a b m) (h2 : IsJoin n a m j) : j = a := join_unique h2 (isJoin_le ha h1.l).symm
theorem order_meet (ha : Prt n a) (h : IsMeet n a b m) : Refines a b ↔ m = a :=
  ⟨fun k => meet_unique h (isMeet_le ha k), fun e => by rw [← e]; exact h.r⟩
theorem order_join (hb : Prt n b) (h : IsJoin n a b j) : Refines a b ↔ j = b :=
  ⟨fun k => join_unique h (isJoin_le hb k), fun e => by rw [← e]; exact h.l⟩
end

end Go.Proofs.YtdlhfihddipjaacDoor
