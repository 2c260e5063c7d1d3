/-
  A map of the call's own, keyed by pairs of integers: what a look-up and a store give. Over any program; no statement is proved here.
-/
import Derived.Test.YtdlhfihddipjaacDoorWords
import Derived.WideKeyPair
import Derived.Maps.Keyed
namespace Go.Proofs.YtdlhfihddipjaacDoor
open Go.RowKit
open Go.WideMaps (KeyLaw ArrKey keyOf_pair)
open Go.ChangeMaps (setBlock heap_setBlock_same heap_setBlock_other)

def pairKey (t : Int × Int × Int) : Value := .agg #[.int .i64 t.1, .int .i64 t.2.1]

/-- Block 'g' is a map whose entries are 'es', in this order. -/
def PMap (w : World) (g : Nat) (es : List (Int × Int × Int)) : Prop :=
  ∃ arr clock, w.heap[g]? = some (.map arr clock) ∧ arr.toList.map (fun e => (e.key, e.val)) = es.map (fun t => (pairKey t, Value.int .i64 t.2.2)) ∧ ∀ t ∈ es, fits .i64 t.1 ∧ fits .i64 t.2.1

theorem PMap.lt {w : World} {g : Nat} {es : List (Int × Int × Int)} (h : PMap w g es) : g < w.heap.size := by
  obtain ⟨arr, clock, hb, _⟩ := h
  exact (Array.getElem?_eq_some_iff.1 hb).1
theorem PMap.made (w : World) : PMap (w.alloc (.map #[] 0)) w.heap.size [] := ⟨#[], 0, heap_alloc_new w _, rfl, fun _ h => absurd h (by simp)⟩
theorem PMap.of_block {w w1 : World} {g : Nat} {es : List (Int × Int × Int)} (h : PMap w g es) (e : w1.heap[g]? = w.heap[g]?) : PMap w1 g es := by
  obtain ⟨arr, clock, hb, r⟩ := h
  exact ⟨arr, clock, e.trans hb, r⟩
theorem PMap.ext {w w1 : World} {g : Nat} {es : List (Int × Int × Int)} (h : PMap w g es) (k : Ext w w1) : PMap w1 g es := h.of_block (k.block g h.lt)
theorem PMap.setCell {w : World} {g : Nat} {es : List (Int × Int × Int)} (h : PMap w g es) {a : Addr} (ha : g ≠ a.block) (u : Value) : PMap (w.setCell a u) g es := h.of_block (Below.heap_setCell _ _ _ _ ha)
theorem PMap.alloc {w : World} {g : Nat} {es : List (Int × Int × Int)} (h : PMap w g es) (o : Obj) : PMap (w.alloc o) g es := h.ext ((Ext.refl w).alloc o)

theorem pairKey_inj {t u : Int × Int × Int} (h : pairKey t = pairKey u) : t.1 = u.1 ∧ t.2.1 = u.2.1 := by
  unfold pairKey at h
  simp at h
  exact h

section
variable {P : Program} {mt k e : TypeId} {w : World} {g : Nat} {es : List (Int × Int × Int)}

theorem PMap.find (hK : KeyLaw P k) (A : ArrKey P k e 2) (he : P.underlying e = some (.int .i64)) (hsz : ∃ m, P.types.size = m + 1) {arr : Array MapEntry}
    (h2 : arr.toList.map (fun e => (e.key, e.val)) = es.map (fun t => (pairKey t, Value.int .i64 t.2.2))) (h3 : ∀ t ∈ es, fits .i64 t.1 ∧ fits .i64 t.2.1) {x y : Int} (hx : fits .i64 x) (hy : fits .i64 y) (w : World) :
    ((Instr.findKey k (.agg #[.int .i64 x, .int .i64 y]) arr.toList).run P w = .ok none w ∧ ∀ t ∈ es, ¬ (t.1 = x ∧ t.2.1 = y)) ∨
    ∃ (j : Nat) (t : Int × Int × Int), (Instr.findKey k (.agg #[.int .i64 x, .int .i64 y]) arr.toList).run P w = .ok (some (j, .int .i64 t.2.2)) w ∧ t ∈ es ∧ t.1 = x ∧ t.2.1 = y := by
  have hkey := keyOf_pair A he hsz hx hy
  have hpair : ∀ x ∈ arr.toList, ∃ t ∈ es, x.key = pairKey t ∧ x.val = .int .i64 t.2.2 := fun x hx => by
    have : (x.key, x.val) ∈ arr.toList.map (fun e => (e.key, e.val)) := List.mem_map.2 ⟨x, hx, rfl⟩
    rw [h2] at this
    obtain ⟨t, ht, e⟩ := List.mem_map.1 this
    simp only [Prod.mk.injEq] at e
    exact ⟨t, ht, e.1.symm, e.2.symm⟩
  rcases hK.find w hkey arr.toList (fun x hx => by
      obtain ⟨t, ht, e1, _⟩ := hpair x hx
      rw [e1]
      exact ⟨_, keyOf_pair A he hsz (h3 t ht).1 (h3 t ht).2⟩) with ⟨h4, h5⟩ | ⟨j, m, h4, h5, h6⟩
  · refine .inl ⟨h4, fun t ht ⟨a, b⟩ => ?_⟩
    have : (pairKey t, Value.int .i64 t.2.2) ∈ es.map (fun t => (pairKey t, Value.int .i64 t.2.2)) := List.mem_map.2 ⟨t, ht, rfl⟩
    rw [← h2] at this
    obtain ⟨m, hm, e⟩ := List.mem_map.1 this
    simp only [Prod.mk.injEq] at e
    exact h5 m hm (by rw [e.1]; unfold pairKey; rw [a, b])
  · obtain ⟨t, ht, e1, e2⟩ := hpair m (List.mem_of_getElem? h5)
    rw [e1] at h6
    unfold pairKey at h6
    simp at h6
    exact .inr ⟨j, t, by rw [h4, e2], ht, h6.1, h6.2⟩

/-- A key that is there. -/
theorem PMap.hit (h : PMap w g es) (hK : KeyLaw P k) (A : ArrKey P k e 2) (he : P.underlying e = some (.int .i64)) (hsz : ∃ m, P.types.size = m + 1) {t : TypeId} {e' : TypeId} (ht : P.underlying t = some (.map k e'))
    {x y v : Int} (hx : fits .i64 x) (hy : fits .i64 y) (hin : ∃ u ∈ es, u.1 = x ∧ u.2.1 = y) (hv : ∀ u ∈ es, u.1 = x → u.2.1 = y → u.2.2 = v) (ok : Bool) :
    (Instr.lookup t (.map (some g)) (.agg #[.int .i64 x, .int .i64 y]) ok).run P w = .ok (if ok then .tuple #[.int .i64 v, .bool true] else .int .i64 v) w := by
  obtain ⟨arr, clock, hb, h2, h3⟩ := h
  have hkey := keyOf_pair A he hsz hx hy
  rcases PMap.find hK A he hsz h2 h3 hx hy w with ⟨_, h5⟩ | ⟨j, u, h4, h5, h6, h7⟩
  · obtain ⟨u, hu, a, b⟩ := hin
    exact absurd ⟨a, b⟩ (h5 u hu)
  · rw [hv u h5 h6 h7] at h4
    simp [Instr.lookup, run_underlying ht, MapKept.run_getObj_map hb, hK.check w _ hkey, h4, Result.andThen]

/-- A key that is not there. -/
theorem PMap.miss (h : PMap w g es) (hK : KeyLaw P k) (A : ArrKey P k e 2) (he : P.underlying e = some (.int .i64)) (hsz : ∃ m, P.types.size = m + 1) {t : TypeId} (ht : P.underlying t = some (.map k e))
    (hz : (zeroValue e).run P w = .ok (.int .i64 0) w) {x y : Int} (hx : fits .i64 x) (hy : fits .i64 y) (hno : ∀ u ∈ es, ¬ (u.1 = x ∧ u.2.1 = y)) (ok : Bool) :
    (Instr.lookup t (.map (some g)) (.agg #[.int .i64 x, .int .i64 y]) ok).run P w = .ok (if ok then .tuple #[.int .i64 0, .bool false] else .int .i64 0) w := by
  obtain ⟨arr, clock, hb, h2, h3⟩ := h
  have hkey := keyOf_pair A he hsz hx hy
  rcases PMap.find hK A he hsz h2 h3 hx hy w with ⟨h4, _⟩ | ⟨j, u, _, h5, h6, h7⟩
  · simp [Instr.lookup, run_underlying ht, MapKept.run_getObj_map hb, hK.check w _ hkey, h4, hz, Result.andThen]
  · exact absurd ⟨h6, h7⟩ (hno u h5)

/-- A store at a key that is not there. -/
theorem PMap.store (h : PMap w g es) (hK : KeyLaw P k) (A : ArrKey P k e 2) (he : P.underlying e = some (.int .i64)) (hsz : ∃ m, P.types.size = m + 1) {t : TypeId} (ht : P.underlying t = some (.map k e))
    {x y v : Int} (hx : fits .i64 x) (hy : fits .i64 y) (hno : ∀ u ∈ es, ¬ (u.1 = x ∧ u.2.1 = y)) :
    ∃ w1, (Instr.mapUpdate t (.map (some g)) (.agg #[.int .i64 x, .int .i64 y]) (.int .i64 v)).run P w = .ok () w1 ∧ PMap w1 g (es ++ [(x, y, v)]) ∧ Below g w w1 ∧ w1.heap.size = w.heap.size ∧ (∀ i, i ≠ g → w1.heap[i]? = w.heap[i]?) := by
  obtain ⟨arr, clock, hb, h2, h3⟩ := h
  have hkey := keyOf_pair A he hsz hx hy
  rcases PMap.find hK A he hsz h2 h3 hx hy w with ⟨h4, _⟩ | ⟨j, u, _, h5, h6, h7⟩
  · refine ⟨setBlock w g (.map (arr.push ⟨.agg #[.int .i64 x, .int .i64 y], .int .i64 v, clock⟩) (clock + 1)), ?_, ⟨_, _, heap_setBlock_same hb _, ?_, ?_⟩, ⟨rfl, rfl, rfl, by simp [setBlock], fun i hi => heap_setBlock_other hb _ (by omega)⟩, by simp [setBlock], fun i hi => heap_setBlock_other hb _ hi⟩
    · simp [Instr.mapUpdate, run_underlying ht, MapKept.run_getObj_map hb, hK.check w _ hkey, h4, MapKept.run_setObj_map _ hb, Result.andThen, setBlock]
    · simp [h2, pairKey]
    · intro u hu
      rcases List.mem_append.1 hu with hu | hu
      · exact h3 u hu
      · simp at hu; subst hu; exact ⟨hx, hy⟩
  · exact absurd ⟨h6, h7⟩ (hno u h5)
end

end Go.Proofs.YtdlhfihddipjaacDoor
