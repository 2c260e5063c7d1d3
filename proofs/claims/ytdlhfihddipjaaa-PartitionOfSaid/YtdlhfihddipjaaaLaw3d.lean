/-
  The law PartitionOf of the package wittinglaw03.
-/
import Derived.Test.YtdlhfihddipjaaaPart7
import Derived.OpenShut
import Derived.Test.YtdlhfihddipjaaaAwake3
namespace Go.Proofs.Ytdlhfihddipjaaa
open Go.RowKit

/-- What a law's frame hands over of an argument that is a slice of sets. -/
theorem isRow_sets {w : World} {a : Option Addr} {len cap : Nat} {zs : List Int} (h : (a = none ∧ len = 0 ∧ cap = 0 ∧ zs = []) ∨
    ∃ x, a = some x ∧ len ≤ cap ∧ cap ≤ maxLen ∧ zs.length = cap ∧ (∀ i, i < zs.length → w.cell? (x.add i) = some (.int .u64 (zs.getD i 0))) ∧ ∀ n ∈ zs, (Lit.int .u64 n).wf = true) :
    Sets w (.slice a len cap) ((zs.take len).map Int.toNat) := by
  have hi := isRow_ints h
  obtain ⟨A, c, e, hs, hf⟩ := hi
  have key : ∀ i, i < (zs.take len).length → nth (zs.take len) i = ((nthN ((zs.take len).map Int.toNat) i : Nat) : Int) ∧ nthN ((zs.take len).map Int.toNat) i < 18446744073709551616 := fun i hi => by
    have h1 := hf i hi
    have hb := _root_.Go.bounds_u64 h1
    rw [nthN_eq (by simpa using hi)]
    rw [nth_eq hi] at hb ⊢
    simp only [List.getElem_map]
    omega
  refine ⟨A, c, by rw [e, List.length_map], ?_, fun i hi => (key i (by simpa using hi)).2⟩
  rw [List.length_map]
  exact hs.congr fun i hi => by rw [(key i hi).1]

set_option maxRecDepth 100000 in
set_option maxHeartbeats 8000000 in
theorem of_law (w : World) (v : Value) (r : List Nat) (n : Int) (h : Sets w v r) :
    Calls Try.prog 7 #[v, .int .i64 n] w fun e w' => e = .returned (.bool true) ∧ Ext w w' := by
  have Hs := Lib.hid h
  obtain ⟨A, c, rfl, hs, hf⟩ := h
  have hle := hs.le
  have hcap := hs.cap
  clear hs hf
  by_cases hbig : 70 < r.length
  · go_enter Try.func7, Try.ntmps7
    go_wp2_with fail
    refine (awake3 _).mono ?_
    rintro e w1 ⟨rfl, hX⟩
    go_wp2_with fail
    go_ret
    exact ⟨rfl, hX⟩
  · go_enter Try.func7, Try.ntmps7
    go_wp2_with fail
    refine (pof_any _ _ r Hs.out).mono ?_
    rintro e w1 ⟨v1, rfl, h1, hX⟩
    have hs := Hs.out.ext hX
    go_wp2_with fail
    refine (rof_any _ _ r hs).mono ?_
    rintro e w2 ⟨v2, rfl, h2, hy⟩
    have hX := hX.trans hy
    have h1 := h1.ext hy
    clear hs hy
    obtain ⟨ce, hce⟩ : ∃ ce, ce = ofErr r := ⟨_, rfl⟩
    rw [← hce]
    have Hce := Lib.hid hce
    clear hce
    go_wp2_with fail
    refine (pdiscrete_any _ n).mono ?_
    rintro e w3 ⟨v3, rfl, h3, hy⟩
    have hX := hX.trans hy
    have h1 := h1.ext hy
    have h2 := h2.ext hy
    obtain ⟨cd, hcd⟩ : ∃ cd, cd = sizedErr n := ⟨_, rfl⟩
    rw [← hcd]
    have Hcd := Lib.hid hcd
    clear hy
    go_wp2_with fail
    refine (rdiscrete_any _ n).mono ?_
    rintro e w4 ⟨v4, rfl, h4, hy⟩
    have hX := hX.trans hy
    have h1 := h1.ext hy
    have h2 := h2.ext hy
    have h3 := h3.ext hy
    rw [← hcd]
    clear hy
    go_wp2_with fail
    refine (ptrivial_any _ n).mono ?_
    rintro e w5 ⟨v5, rfl, h5, hy⟩
    have hX := hX.trans hy
    have h1 := h1.ext hy
    have h2 := h2.ext hy
    have h3 := h3.ext hy
    have h4 := h4.ext hy
    rw [← hcd]
    clear hy
    go_wp2_with fail
    refine (rtrivial_any _ n).mono ?_
    rintro e w6 ⟨v6, rfl, h6, hy⟩
    have hX := hX.trans hy
    have h1 := h1.ext hy
    have h2 := h2.ext hy
    have h3 := h3.ext hy
    have h4 := h4.ext hy
    have h5 := h5.ext hy
    rw [← hcd]
    clear hy hcd
    go_wp2_with fail
    refine (equal_yes _ _ _ _ h1 h2).mono ?_
    rintro e w7 ⟨rfl, hy⟩
    have hX := hX.trans hy
    have h3 := h3.ext hy
    have h4 := h4.ext hy
    have h5 := h5.ext hy
    have h6 := h6.ext hy
    clear hy h1 h2
    go_wp2_with fail
    refine (equal_yes _ _ _ _ h3 h4).mono ?_
    rintro e w8 ⟨rfl, hy⟩
    have hX := hX.trans hy
    have h5 := h5.ext hy
    have h6 := h6.ext hy
    clear hy h3 h4
    go_wp2_with fail
    refine (equal_yes _ _ _ _ h5 h6).mono ?_
    rintro e w9 ⟨rfl, hy⟩
    have hX := hX.trans hy
    clear hy h5 h6
    go_wp2_with fail
    refine (awake3 _).mono ?_
    rintro e w10 ⟨rfl, hy⟩
    have hX := hX.trans hy
    go_wp2_with fail
    go_ret
    exact ⟨rfl, hX⟩

end Go.Proofs.Ytdlhfihddipjaaa
