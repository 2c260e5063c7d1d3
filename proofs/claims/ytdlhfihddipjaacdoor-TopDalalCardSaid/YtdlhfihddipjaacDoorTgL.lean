/-
  The doors: what the listed table of postulates gives the walks.
-/
import Derived.Test.YtdlhfihddipjaacDoorRows
import Derived.Test.YtdlhfihddipjaacDoorTg7
import Derived.ProofKit
import Derived.LaidMore
import Derived.Stop.Joined
namespace Go.Proofs.YtdlhfihddipjaacDoor
open Go.ChangeShapes Go.WideShapes Go.ChangeAt Go.RowKit

theorem gRev : Tryd.prog.globalNamed "witting/postulates.revision" = some 0 := by kernel_rfl
theorem tRev : (Tryd.prog.globals[0]?).map (·.type) = some 62 := by kernel_rfl
theorem cellsRev : Tryd.prog.cellsOf 88 = 2 := by kernel_rfl
def revB (i : Nat) : List UInt8 := [119, 105, 116, 116, 105, 110, 103, 47, 112, 111, 115, 116, 117, 108, 97, 116, 101, 115, 46, 114, 101, 118, 105, 115, 105, 111, 110, 36, 49 + UInt8.ofNat i]
/-- The listed datum, below its mark. -/
def revD : DataW Unit := match (Rows.laid_witting_postulates_revision : DataW Unit) with
  | .iface _ d => d
  | d => d
theorem cells_two {w : World} {base : Nat} {a : Addr} {cs : List Value} (h : w.cells? base a 2 = some cs) : ∃ v0 v1, cs = [v0, v1] ∧ w.cell? a = some v0 ∧ w.cell? (a.add 1) = some v1 := by
  have e0 : a.add 0 = a := by simp [Addr.add]
  unfold World.cells? at h
  split at h
  · simp only [List.range_succ, List.range_zero, List.nil_append, List.cons_append, List.mapM_cons, List.mapM_nil, e0] at h
    cases h0 : w.cell? a with
    | none => simp [h0] at h
    | some v0 =>
      cases h1 : w.cell? (a.add 1) with
      | none => simp [h0, h1] at h
      | some v1 => simp [h0, h1] at h; exact ⟨v0, v1, h.symm, rfl, rfl⟩
  · cases h
theorem bool_of_trod {H : Type} {enc : TypeId × Value → H} {P : Program} {w : World} {base : Nat} {sp : Nat → Bool} {held : Bool} {fuel : Nat} {t : TypeId} {v : Value} {b : Bool} {q : List MemPlace} (ht : P.underlying t = some .bool)
    (h : DataW.trod enc P w base sp held fuel t [v] = some (.lit (.bool b), q)) : v = .bool b := by
  cases fuel with
  | zero => simp [DataW.trod] at h
  | succ n => cases v <;> simp [DataW.trod, ht] at h ⊢ <;> simp_all

set_option maxRecDepth 100000 in
theorem revG_of {W : World} {l : List (String × DataW Unit)} (h : laidMetH Tryd.prog l W) (hx : ("witting/postulates.revision", DataW.iface "func table" revD) ∈ l) : RevG W := by
  obtain ⟨g, t, cs, fuel, p, hg, ht, hv, hd⟩ := h.funcs hx
  obtain rfl := Option.some.inj (gRev.symm.trans hg)
  obtain rfl := Option.some.inj (tRev.symm.trans ht)
  have hd' : DataW.trod (funcToken Tryd.prog) Tryd.prog W 0 (fun _ => true) true fuel 62 cs.toList = some (.slice [.agg [.lit (.bool false), .held (revB 0)], .agg [.lit (.bool false), .held (revB 1)], .agg [.lit (.bool false), .held (revB 2)], .agg [.lit (.bool false), .held (revB 3)], .agg [.lit (.bool true), .held (revB 4)], .agg [.lit (.bool true), .held (revB 5)]] [], p) := hd
  rcases DataW.trod_slice Tryd.underlying62 hd' with ⟨_, hx⟩ | ⟨a, len, cap, elems, rest, n, _, hcs, hx, _, hl, _, hlen, hel, _⟩
  · simp at hx
  simp only [Prod.mk.injEq, DataW.slice.injEq] at hx
  obtain ⟨⟨hes, _⟩, _⟩ := hx
  have hl6 : len = 6 := by rw [← hlen, ← List.length_map (f := (·.1)), ← hes]; rfl
  subst hl6
  have hcell := World.var?_cell hg hv 0
  rw [Array.eq_one_of_toList hcs] at hcell
  have one : ∀ i, i < 6 → ∀ b f0, (elems.map (·.1))[i]? = some (.agg [.lit (.bool b), .held (revB i)]) → ((List.range Tryd.prog.funcs.size).filter fun f => (Tryd.prog.funcs[f]?).any (·.name.toUTF8.data.toList == revB i)) = [f0] →
      W.cell? (a.add (i * 2)) = some (.bool b) ∧ W.cell? ((a.add (i * 2)).add 1) = some (.func (.func f0) #[] #[]) := by
    intro i hi b f0 he hf
    have hE := hel i hi
    rw [cellsRev] at hE
    rw [List.getElem?_map] at he
    cases hy : elems[i]? with
    | none => rw [hy] at he; simp at he
    | some y =>
      rw [hy] at hE he
      simp only [Option.map_some, Option.some.injEq] at he
      simp only [Option.bind_eq_some_iff] at hE
      obtain ⟨c2, hc2, hy2⟩ := hE
      obtain ⟨v0, v1, rfl, k0, k1⟩ := cells_two hc2
      obtain ⟨y0, y1, n', hxe, _, h0, h1⟩ := trod_struct2 Tryd.underlying88 hy2
      rw [hxe] at he
      simp only [DataW.agg.injEq, List.cons.injEq, and_true] at he
      obtain ⟨he0, he1⟩ := he
      have h0' : DataW.trod (funcToken Tryd.prog) Tryd.prog W 0 (fun _ => true) true n' 4 [v0] = some (.lit (.bool b), y0.2) := by rw [← he0]; exact h0
      have h1' : DataW.trod (funcToken Tryd.prog) Tryd.prog W 0 (fun _ => true) true n' 87 [v1] = some (.held (revB i), y1.2) := by rw [← he1]; exact h1
      obtain rfl := bool_of_trod Tryd.underlying4 h0'
      obtain rfl := func_of_trod (f0 := f0) Tryd.underlying87 hf h1'
      exact ⟨k0, k1⟩
  have o0 := one 0 (by decide) false 90 (by rw [← hes]; rfl) (by kernel_rfl)
  have o1 := one 1 (by decide) false 91 (by rw [← hes]; rfl) (by kernel_rfl)
  have o2 := one 2 (by decide) false 92 (by rw [← hes]; rfl) (by kernel_rfl)
  have o3 := one 3 (by decide) false 93 (by rw [← hes]; rfl) (by kernel_rfl)
  have o4 := one 4 (by decide) true 94 (by rw [← hes]; rfl) (by kernel_rfl)
  have o5 := one 5 (by decide) true 95 (by rw [← hes]; rfl) (by kernel_rfl)
  obtain ⟨b, off, spot⟩ := a
  have hspot : spot = none := by simpa [Addr.add] using World.cell?_spot o0.1
  subst hspot
  have hb : b < W.heap.size := by
    have := World.block_lt_of_cell? W _ o0.1
    simpa [Addr.add] using this
  have hc0 : W.cell? ⟨0, 0, none⟩ = some (.slice (some ⟨b, off, none⟩) 6 cap) := by simpa using hcell
  refine ⟨⟨b, off, none⟩, cap, hc0, hl, World.block_lt_of_cell? W _ hc0, hb, fun i hi => ?_⟩
  have h' : i = 0 ∨ i = 1 ∨ i = 2 ∨ i = 3 ∨ i = 4 ∨ i = 5 := by omega
  rcases h' with rfl | rfl | rfl | rfl | rfl | rfl
  · exact ⟨o0.1, by simpa [Addr.add, pfn] using o0.2⟩
  · exact ⟨o1.1, by simpa [Addr.add, pfn] using o1.2⟩
  · exact ⟨o2.1, by simpa [Addr.add, pfn] using o2.2⟩
  · exact ⟨o3.1, by simpa [Addr.add, pfn] using o3.2⟩
  · exact ⟨o4.1, by simpa [Addr.add, pfn] using o4.2⟩
  · exact ⟨o5.1, by simpa [Addr.add, pfn] using o5.2⟩

end Go.Proofs.YtdlhfihddipjaacDoor
