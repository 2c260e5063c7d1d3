/-
  The agreement texts: a struct of two slices in a block of its own; what outlives a store into it; rows of slices of the call's own.
-/
import Derived.Test.YtdlhfihddipjaacDoorAg6
import Derived.Deep.RegionHeld
namespace Go.Proofs.YtdlhfihddipjaacDoor
open Go.RowKit

/-- A struct of two slices, in a block of its own. -/
def SBlk (w : World) (g : Nat) (t : TypeId) (a b : Value) : Prop := w.rowIs g t 2 (fun i => if i = 0 then a else b)
def IsSl (v : Value) : Prop := ∃ A n c, v = .slice A n c
theorem SBlk.ext {w w1 : World} {g : Nat} {t : TypeId} {a b : Value} (h : SBlk w g t a b) (k : Ext w w1) : SBlk w1 g t a b := World.rowIs.of_block h (k.block g (World.rowIs.lt h))
theorem SBlk.cell0 {w : World} {g : Nat} {t : TypeId} {a b : Value} (h : SBlk w g t a b) : w.cell? ⟨g, 0, none⟩ = some a := World.rowIs.cell h (by decide : 0 < 2)
theorem SBlk.cell1 {w : World} {g : Nat} {t : TypeId} {a b : Value} (h : SBlk w g t a b) : w.cell? ⟨g, 1, none⟩ = some b := World.rowIs.cell h (by decide : 1 < 2)
theorem SBlk.set1 {w : World} {g : Nat} {t : TypeId} {a b : Value} (h : SBlk w g t a b) (u : Value) : SBlk (w.setCell ⟨g, 1, none⟩ u) g t a u :=
  (World.rowIs.set h 1 u).congr fun i hi => by
    have : i = 0 ∨ i = 1 := by omega
    rcases this with rfl | rfl <;> rfl
theorem SBlk.made (w : World) (a b : Value) (t : TypeId) : SBlk (w.alloc (.cells #[a, b] t)) w.heap.size t a b :=
  World.rowIs_alloc w #[a, b] t (fun i => if i = 0 then a else b) (fun i hi => by
    have : i = 0 ∨ i = 1 := by simp at hi; omega
    rcases this with rfl | rfl <;> rfl)
/-- An integer's cell lies in no such block. -/
theorem SBlk.off {w : World} {g : Nat} {t : TypeId} {a b : Value} (h : SBlk w g t a b) (ha : IsSl a) (hb : IsSl b) {ad : Addr} {k : IntKind} {x : Int} (hc : w.cell? ad = some (.int k x)) : ad.block ≠ g := by
  intro e
  obtain ⟨cs, hh, hs, hf⟩ := h
  unfold World.cell? at hc
  rw [e, hh] at hc
  dsimp only at hc
  by_cases hsp : ad.spot.isSome = true
  · rw [if_pos hsp] at hc; cases hc
  rw [if_neg hsp] at hc
  have ho : ad.off < 2 := by
    have := (Array.getElem?_eq_some_iff.1 hc).1
    omega
  have h1 := hf ad.off ho
  rw [hc] at h1
  injection h1 with h1
  obtain ⟨A, n, c, rfl⟩ := ha
  obtain ⟨A', n', c', rfl⟩ := hb
  dsimp only at h1
  split at h1 <;> cases h1
theorem addBlock24 (a : Addr) (n : Nat) : (a.add n).block = a.block := addBlock a n
/-- A slice of integers outlives a store into such a block. -/
theorem Ints.setBlk {w : World} {g : Nat} {t : TypeId} {a b v : Value} {xs : List Int} (h : Ints .i64 w v xs) (hr : SBlk w g t a b) (ha : IsSl a) (hb : IsSl b) (o : Nat) (u : Value) : Ints .i64 (w.setCell ⟨g, o, none⟩ u) v xs := by
  obtain ⟨A, c, e, hs, hf⟩ := h
  refine ⟨A, c, e, ⟨hs.le, hs.cap, fun h0 => ?_⟩, hf⟩
  obtain ⟨ad, e1, hbk, hc⟩ := hs.at_ h0
  have hne : ad.block ≠ g := by
    have := hr.off ha hb (hc 0 h0)
    rwa [addBlock] at this
  refine ⟨ad, e1, by rw [World.size_setCell]; exact hbk, fun i hi => ?_⟩
  rw [World.cell?_setCell_far _ _ _ _ (by rw [addBlock]; exact fun q => hne q.symm)]
  exact hc i hi
theorem own_setBlk {w : World} {base g : Nat} {e : TypeId} {size : Nat} {v : Value} {n : Nat} {xs : List Value} (h : w.ownsRow base e size v n xs) (hg : g < base) (o : Nat) (u : Value) : (w.setCell ⟨g, o, none⟩ u).ownsRow base e size v n xs := by
  obtain ⟨h1, h2⟩ := h
  refine ⟨h1, ?_⟩
  rcases h2 with h2 | ⟨g', cap, cur, hv, hg', hh, r⟩
  · exact .inl h2
  · exact .inr ⟨g', cap, cur, hv, hg', (Below.heap_setCell _ _ _ _ (show g' ≠ g by omega)).trans hh, r⟩
/-- A row of the call's own that holds slices reads as a list of lists. -/
theorem Rows.of_own {w : World} {base : Nat} {e : TypeId} {v : Value} {n : Nat} {vals : List Value} {cs : List (List Int)} (h : w.ownsRow base e 1 v n vals) (hn : n ≤ 9223372036854775807) (hl : cs.length = n) (hI : ∀ i, i < n → Ints .i64 w (vals.getD i undef) (nthL cs i)) : Rows w v cs := by
  subst hl
  obtain ⟨A, c, rfl, hs, _⟩ := own_slice h hn
  exact ⟨A, c, _, rfl, hs, hI⟩

end Go.Proofs.YtdlhfihddipjaacDoor
