/-
  The agreement texts: what outlives an append onto a row of slices of the call's own.
-/
import Derived.Test.YtdlhfihddipjaacDoorAgB
import Derived.Test.YtdlhfihddipjaacDoorAg14
namespace Go.Proofs.YtdlhfihddipjaacDoor
open Go.RowKit

theorem own_block_ne {w : World} {base : Nat} {e : TypeId} {o : Value} {n : Nat} {vals : List Value} (hown : w.ownsRow base e 1 o n vals) (hn : n = 0 → o = .slice none 0 0) (hv : ∀ i, i < n → IsSl (vals.getD i undef)) {g : Nat} {k : IntKind} {x : Int} (hc : w.cell? ⟨g, 0, none⟩ = some (.int k x)) : some g ≠ o.ownBlock := by
  by_cases h0 : n = 0
  · rw [hn h0]; simp [Value.ownBlock]
  · obtain ⟨g', cap, F, rfl, _, hr, hnc, _, hF⟩ := own_row hown (by omega)
    intro q
    have q : g = g' := by simpa [Value.ownBlock] using q
    subst q
    have h1 := hr.cell (i := 0) (by omega)
    rw [hF 0 (by omega), hc] at h1
    injection h1 with h1
    obtain ⟨A, m, c, e⟩ := hv 0 (by omega)
    rw [e] at h1
    cases h1
theorem Ints.grown {w w' : World} {base : Nat} {e : TypeId} {o : Value} {n : Nat} {vals : List Value} {v : Value} {xs : List Int} (h : Ints .i64 w v xs) (hz : 0 < xs.length → Zero v) (hown : w.ownsRow base e 1 o n vals) (hn : n = 0 → o = .slice none 0 0) (hv : ∀ i, i < n → IsSl (vals.getD i undef)) (hg : w.grownBy w' o.ownBlock) : Ints .i64 w' v xs := by
  obtain ⟨A, c, e1, hs, hf⟩ := h
  refine ⟨A, c, e1, ⟨hs.le, hs.cap, fun h0 => ?_⟩, hf⟩
  obtain ⟨ad, e2, hb, hc⟩ := hs.at_ h0
  obtain ⟨g, m, cap, e3⟩ := hz h0
  rw [e1, e2] at e3
  injection e3 with e3
  injection e3 with e3
  subst e3
  have hc0 := hc 0 h0
  rw [add_zeroOff] at hc0
  have hne := own_block_ne hown hn hv hc0
  refine ⟨_, e2, Nat.lt_of_lt_of_le hb hg.size, fun i hi => ?_⟩
  rw [World.cell?_of_block (w := w) (by rw [addBlock]; exact hg.block g hb hne)]
  exact hc i hi
theorem SBlk.grown {w w' : World} {base : Nat} {e : TypeId} {o : Value} {n : Nat} {vals : List Value} {g : Nat} {t : TypeId} {a b : Value} (h : SBlk w g t a b) (hown : w.ownsRow base e 1 o n vals) (hb : g < base) (hg : w.grownBy w' o.ownBlock) : SBlk w' g t a b :=
  World.rowIs.of_block h (hg.block g (World.rowIs.lt h) fun q => by have := (hown.lt g q.symm).1; omega)

end Go.Proofs.YtdlhfihddipjaacDoor
