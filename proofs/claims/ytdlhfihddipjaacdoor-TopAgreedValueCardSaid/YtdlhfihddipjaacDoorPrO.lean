/-
  A prior that comes in by value: what the frame hands over; words for the laws' walks.
-/
import Derived.Test.YtdlhfihddipjaacDoorAg1
import Derived.Lib.SmallJoins
import Derived.Deep.Matrix
import Derived.OpenShut
namespace Go.Proofs.YtdlhfihddipjaacDoor
open Go.ChangeShapes Go.WideShapes Go.RowKit

theorem rows_of_open {H : Type} {enc : TypeId × Value → H} {w : World} {held : Bool} {fuel : Nat} {cs : List Value} {x : DataW H × List MemPlace} (h : DataW.trod enc Tryd.prog w 0 (fun _ => true) held fuel 35 cs = some x) :
    ∃ v C, cs = [v] ∧ Rows w v C := by
  rcases Deep.open_int_rows Tryd.underlying35 Tryd.underlying30 Tryd.underlying3 (by kernel_rfl) (by kernel_rfl) h with ⟨hcs, _⟩ | ⟨a, len, cap, A, L, K, Z, hcs, _, hl, hm, _, hr⟩
  · exact ⟨_, [], hcs, Rows.nil w⟩
  · have hlen : ((List.range len).map fun r => (Z r).take (L r)).length = len := by simp
    have hn : ∀ i, i < len → nthL ((List.range len).map fun r => (Z r).take (L r)) i = (Z i).take (L i) := fun i hi => by
      rw [nthL_eq (by rw [hlen]; exact hi)]; simp
    refine ⟨_, (List.range len).map fun r => (Z r).take (L r), hcs, some a, cap, fun i => .slice (A i) (L i) (K i), by rw [hlen], ?_, fun i hi => ?_⟩
    · rw [hlen]
      refine ⟨hl, by unfold maxLen at hm; exact hm, fun h0 => ⟨a, rfl, ?_, fun i hi => (hr i (by omega)).1⟩⟩
      have := World.block_lt_of_cell? w _ (hr 0 (by omega)).1
      rwa [addBlock] at this
    · rw [hlen] at hi
      obtain ⟨_, h1, h2, h3, h4, h5, h6⟩ := hr i (by omega)
      rw [hn i hi]
      refine isRow_ints ?_
      cases hA : A i with
      | none =>
        have := h5 hA
        refine .inl ⟨rfl, by omega, this, ?_⟩
        exact List.eq_nil_of_length_eq_zero (by omega)
      | some a' =>
        obtain ⟨_, h7⟩ := h6 a' hA
        exact .inr ⟨a', rfl, h1, h2, h3, fun j hj => h7 j (by omega), h4⟩
theorem ints_of_open {H : Type} {enc : TypeId × Value → H} {w : World} {held : Bool} {fuel : Nat} {cs : List Value} {x : DataW H × List MemPlace} (h : DataW.trod enc Tryd.prog w 0 (fun _ => true) held fuel 30 cs = some x) :
    ∃ v W, cs = [v] ∧ Ints .i64 w v W := by
  rcases open_ints Tryd.underlying30 Tryd.underlying3 (by kernel_rfl) h with ⟨hcs, _⟩ | ⟨a, len, cap, zs, hcs, _, hl, hm, hz, _, hcell, hwz⟩
  · exact ⟨_, [], hcs, Ints.nil _ _⟩
  · exact ⟨_, zs.take len, hcs, isRow_ints (.inr ⟨a, rfl, hl, hm, by simpa using hz, hcell, hwz⟩)⟩
set_option maxRecDepth 100000 in
theorem open_prior {H : Type} {enc : TypeId × Value → H} {w : World} {held : Bool} {r : Reach} {b0 : Nat} {v : Value} {d : DataW H} {p : List MemPlace} (hv : Value.okWide Tryd.prog w r b0 37 v) (h : DataW.Trod enc Tryd.prog w 0 (fun _ => true) held 37 v d p) :
    ∃ v1 v2 W C, v = .agg #[v1, v2] ∧ Prior w v1 v2 W C := by
  obtain ⟨c0, c1, y0, y1, n, rfl, _, _, t0, t1⟩ := Go.Joins.open_agg2 Tryd.underlying37 (by kernel_rfl) (by kernel_rfl) hv h
  obtain ⟨v1, W, e1, h1⟩ := ints_of_open t0
  obtain ⟨v2, C, e2, h2⟩ := rows_of_open t1
  injection e1 with e1 _
  injection e2 with e2 _
  subst e1 e2
  exact ⟨_, _, W, C, rfl, h1, h2⟩

end Go.Proofs.YtdlhfihddipjaacDoor
