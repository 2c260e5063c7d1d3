/-
  The doors: what the listed table of math/bits gives the walks.
-/
import Derived.Test.YtdlhfihddipjaacDoorRows
import Derived.Test.YtdlhfihddipjaacDoorGm2
import Derived.ProofKit
import Derived.LaidMore
import Derived.OpenShut
import Derived.Stop.Joined
namespace Go.Proofs.YtdlhfihddipjaacDoor
open Go.ChangeShapes Go.WideShapes Go.ChangeAt Go.RowKit

theorem gDeB : Tryd.prog.globalNamed "math/bits.deBruijn64tab" = some 1 := by kernel_rfl
theorem tDeB : (Tryd.prog.globals[1]?).map (·.type) = some 98 := by kernel_rfl
theorem cellsDeB : Tryd.prog.cellsOf 98 = 64 := by kernel_rfl
theorem cellsU8 : Tryd.prog.cellsOf 5 = 1 := by kernel_rfl
theorem u8_of_trod {H : Type} {enc : TypeId × Value → H} {P : Program} {w : World} {base : Nat} {sp : Nat → Bool} {held : Bool} {fuel : Nat} {t : TypeId} {v : Value} {k : IntKind} {b : Int} {q : List MemPlace} (ht : P.underlying t = some (.int k))
    (h : DataW.trod enc P w base sp held fuel t [v] = some (.lit (.int k b), q)) : v = .int k b := by
  cases fuel with
  | zero => simp [DataW.trod] at h
  | succ n => cases v <;> simp [DataW.trod, ht] at h ⊢ <;> simp_all
theorem getD_get (l : List Nat) (i : Nat) (h : i < l.length) : l.getD i 0 = l[i] := by simp [h]
set_option maxRecDepth 100000 in
theorem laid_deB : (Rows.laid_math_bits_deBruijn64tab : DataW Unit) = .agg (deBs.map fun n => .lit (.int .u8 (n : Nat))) := by kernel_rfl
theorem deB_of {W : World} (h : laidMetH Tryd.prog [("math/bits.deBruijn64tab", (Rows.laid_math_bits_deBruijn64tab : DataW Unit))] W) : DeB W := by
  rw [MakeChecks.laidMetH_plain _ _ _ (by kernel_rfl)] at h
  obtain ⟨ps, ⟨g0, t0, cs0, f0, p0, q0, hg0, ht0, hv0, hd0, _, _⟩, _, _⟩ := h
  obtain rfl := Option.some.inj (gDeB.symm.trans hg0)
  obtain rfl := Option.some.inj (tDeB.symm.trans ht0)
  rw [laid_deB] at hd0
  obtain ⟨xs, m, rfl, hx, hlen, hn, hel⟩ := DataW.trod_array Tryd.underlying98 hd0
  simp only [Prod.mk.injEq, DataW.agg.injEq] at hx
  obtain ⟨hxs, _⟩ := hx
  rw [cellsDeB] at hlen
  have hcell : ∀ i, i < 64 → W.cell? ⟨1, i, none⟩ = some (.int .u8 (deB i : Nat)) := by
    intro i hi
    have he := hel i hi
    rw [cellsU8, Nat.mul_one] at he
    have hsz : i < cs0.toList.length := by rw [hlen]; exact hi
    have htk : (cs0.toList.drop i).take 1 = [cs0.toList[i]] := by
      rw [List.drop_eq_getElem_cons hsz]; rfl
    rw [htk] at he
    have hxi : (xs.map (·.1))[i]? = some (.lit (.int .u8 (deB i : Nat))) := by
      rw [← hxs, List.getElem?_map]
      have hl : i < deBs.length := hi
      rw [List.getElem?_eq_getElem hl, show deB i = deBs[i] from getD_get deBs i hl]
      rfl
    rw [List.getElem?_map] at hxi
    cases hy : xs[i]? with
    | none => rw [hy] at hxi; simp at hxi
    | some y =>
      rw [hy] at he hxi
      simp only [Option.map_some, Option.some.injEq] at hxi
      have hv := u8_of_trod (v := cs0.toList[i]) (b := (deB i : Nat)) (q := y.2) Tryd.underlying5 (by rw [he, ← hxi])
      rw [World.var?_cell hg0 hv0 i]
      have hsz' : i < cs0.size := by simpa using hsz
      rw [Array.getElem?_eq_getElem hsz']
      rw [← hv]
      simp
  refine ⟨World.block_lt_of_cell? W _ (hcell 0 (by decide)), hcell⟩

end Go.Proofs.YtdlhfihddipjaacDoor
