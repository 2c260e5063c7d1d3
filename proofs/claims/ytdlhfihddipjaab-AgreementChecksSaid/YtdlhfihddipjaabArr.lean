/-
  Arrays of two and of three integers that come in by value: what the frame hands over. No program is in sight.
-/
import Derived.WalkKit
import Derived.ProofKit
import Derived.OpenShut
namespace Go.Proofs.Ytdlhfihddipjaab
open Go.ChangeShapes Go.WideShapes Go.RowKit

section
variable {H : Type} {enc : TypeId × Value → H} {P : Program} {w : World} {base b0 : Nat} {spare : Nat → Bool} {held : Bool} {r : Reach} {t e : TypeId} {k : IntKind} {v : Value} {d : DataW H} {p : List MemPlace}

theorem okWide_array {n : Nat} (ht : P.underlying t = some (.array n e)) (h : Value.okWide P w r b0 t v) : ∃ cs, v = .agg cs ∧ cs.size = P.cellsOf t := by
  simp only [Value.okWide, ht] at h
  obtain ⟨cs, h1, h2, _⟩ := h
  exact ⟨cs, h1, h2⟩
theorem two_cells {α : Type} {cs : Array α} (h : cs.size = 2) : ∃ c0 c1, cs = #[c0, c1] := by
  obtain ⟨l⟩ := cs
  match l, h with
  | [c0, c1], _ => exact ⟨c0, c1, rfl⟩
theorem three_cells {α : Type} {cs : Array α} (h : cs.size = 3) : ∃ c0 c1 c2, cs = #[c0, c1, c2] := by
  obtain ⟨l⟩ := cs
  match l, h with
  | [c0, c1, c2], _ => exact ⟨c0, c1, c2, rfl⟩
theorem one_int {m : Nat} {c : Value} {xs : List (DataW H × List MemPlace)} {i : Nat} (he : P.underlying e = some (.int k)) (h : DataW.trod enc P w base spare held m e [c] = xs[i]?) (hi : i < xs.length) : ∃ n, c = .int k n ∧ (Lit.int k n).wf = true := by
  rw [List.getElem?_eq_getElem hi] at h
  obtain ⟨n, h1, _, h3⟩ := DataW.trod_int he h
  injection h1 with h1
  exact ⟨n, h1, h3⟩
theorem open_arr2 (ht : P.underlying t = some (.array 2 e)) (he : P.underlying e = some (.int k)) (hce : P.cellsOf e = 1) (hC : P.cellsOf t = 2) (hv : Value.okWide P w r b0 t v) (h : DataW.Trod enc P w base spare held t v d p) :
    ∃ a b, v = .agg #[.int k a, .int k b] ∧ (Lit.int k a).wf = true ∧ (Lit.int k b).wf = true := by
  obtain ⟨cs, rfl, hsz⟩ := okWide_array ht hv
  obtain ⟨c0, c1, rfl⟩ := two_cells (hsz.trans hC)
  obtain ⟨fuel, hf⟩ := h
  obtain ⟨xs, m, _, _, _, hl, hg⟩ := DataW.trod_array ht hf
  have g0 := hg 0 (by omega)
  have g1 := hg 1 (by omega)
  simp [Value.cells, hce] at g0 g1
  obtain ⟨a, rfl, wa⟩ := one_int (i := 0) he (by simpa using g0) (by omega)
  obtain ⟨b, rfl, wb⟩ := one_int (i := 1) he (by simpa using g1) (by omega)
  exact ⟨a, b, rfl, wa, wb⟩
theorem open_arr3 (ht : P.underlying t = some (.array 3 e)) (he : P.underlying e = some (.int k)) (hce : P.cellsOf e = 1) (hC : P.cellsOf t = 3) (hv : Value.okWide P w r b0 t v) (h : DataW.Trod enc P w base spare held t v d p) :
    ∃ a b c, v = .agg #[.int k a, .int k b, .int k c] ∧ (Lit.int k a).wf = true ∧ (Lit.int k b).wf = true ∧ (Lit.int k c).wf = true := by
  obtain ⟨cs, rfl, hsz⟩ := okWide_array ht hv
  obtain ⟨c0, c1, c2, rfl⟩ := three_cells (hsz.trans hC)
  obtain ⟨fuel, hf⟩ := h
  obtain ⟨xs, m, _, _, _, hl, hg⟩ := DataW.trod_array ht hf
  have g0 := hg 0 (by omega)
  have g1 := hg 1 (by omega)
  have g2 := hg 2 (by omega)
  simp [Value.cells, hce] at g0 g1 g2
  obtain ⟨a, rfl, wa⟩ := one_int (i := 0) he (by simpa using g0) (by omega)
  obtain ⟨b, rfl, wb⟩ := one_int (i := 1) he (by simpa using g1) (by omega)
  obtain ⟨c, rfl, wc⟩ := one_int (i := 2) he (by simpa using g2) (by omega)
  exact ⟨a, b, c, rfl, wa, wb, wc⟩
end

end Go.Proofs.Ytdlhfihddipjaab
