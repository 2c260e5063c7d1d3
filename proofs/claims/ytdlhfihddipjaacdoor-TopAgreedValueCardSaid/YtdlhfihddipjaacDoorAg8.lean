/-
  The agreement texts: lists of fractions compared; whether all agents agree.
-/
import Derived.Test.YtdlhfihddipjaacDoorAg7
namespace Go.Proofs.YtdlhfihddipjaacDoor
open Go.RowKit

theorem Fracs.get {w : World} {A : Option Addr} {n c : Nat} {fs : List (Nat × Nat)} (h : Fracs w (.slice A n c) fs) {i : Nat} (hi : i < fs.length) :
    ∃ ad, A = some ad ∧ ad.block < w.heap.size ∧ w.cell? (ad.add (i * 2)) = some (.int .i64 ((nthF fs i).1 : Nat)) ∧ w.cell? ((ad.add (i * 2)).add 1) = some (.int .i64 ((nthF fs i).2 : Nat)) ∧ w.cell? ⟨(ad.add (i * 2)).block, (ad.add (i * 2)).off + 1, none⟩ = some (.int .i64 ((nthF fs i).2 : Nat)) := by
  obtain ⟨A0, c0, e, _, _, h3⟩ := h
  injection e with e1 e2 e3
  subst e1
  obtain ⟨ad, e, hb, hc⟩ := h3 (by omega)
  refine ⟨ad, e, hb, ?_, ?_, ?_⟩
  · rw [Nat.mul_comm]; exact (hc i hi).1
  · rw [Addr.add_add, Nat.mul_comm]; exact (hc i hi).2
  · have e1 : (⟨(ad.add (i * 2)).block, (ad.add (i * 2)).off + 1, none⟩ : Addr) = (ad.add (i * 2)).add 1 := by
      generalize ad.add (i * 2) = q
      unfold Addr.add
      simp
    rw [e1, Addr.add_add, Nat.mul_comm]; exact (hc i hi).2

end Go.Proofs.YtdlhfihddipjaacDoor
