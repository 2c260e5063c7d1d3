/-
  Contracts of the package partition: Relation, Blocks, Block, Count.
-/
import Derived.Test.YtdlhfihddipjaacDoorPart3
import Derived.Test.YtdlhfihddipjaacDoorBits
namespace Go.Proofs.YtdlhfihddipjaacDoor
open Go.RowKit

/-- The block of a point. -/
def blockOf (p : List Int) (i : Nat) : Nat := maskTo (fun j => nth p j == nth p i) p.length
/-- What Relation answers for a valid list. -/
def relOf (p : List Int) : List Nat := (List.range p.length).map (blockOf p)
theorem relOf_len (p : List Int) : (relOf p).length = p.length := by simp [relOf]
theorem relOf_nth {p : List Int} {i : Nat} (h : i < p.length) : nthN (relOf p) i = blockOf p i := nthN_ofFn _ _ _ h
theorem blockOf_lt (p : List Int) (i : Nat) (h : p.length ≤ 64) : blockOf p i < 18446744073709551616 := maskTo_lt64 _ h
theorem blockOf_bit (p : List Int) (i j : Nat) : (blockOf p i).testBit j = (decide (j < p.length) && (nth p j == nth p i)) := maskTo_bit _ _ _

theorem Tryd.infoU64 : (Tryd.prog.info? 22).map (fun i => (i.zero, i.size, i.bytes)) = some (some (.int .u64 0), 1, 8) := by kernel_rfl

set_option maxRecDepth 100000 in
set_option maxHeartbeats 2000000 in
theorem relation_ok (w : World) (v : Value) (p : List Int) (h : Ints .i64 w v p) (h64 : p.length ≤ 64) (hp : pOk p) :
    Calls Tryd.prog 33 #[v] w fun e w' => ∃ v', e = .returned v' ∧ Sets w' v' (relOf p) ∧ Ext w w' := by
  have C1 := Lib.hid (pcheck_ok w v p h h64 hp)
  obtain ⟨A, c, rfl, hs, hf⟩ := h
  have hle := hs.le
  have hcap := hs.cap
  have hmk := run_make_row' (P := Tryd.prog) 25 22 (.int .u64 0) 8 Tryd.underlying25 Tryd.infoU64 rfl .i64 .i64 p.length (by omega) (by omega)
  have hx0 := Ext.refl w
  go_enter Tryd.func33, Tryd.ntmps33
  go_wp2_with fail
  refine C1.out.mono ?_
  rintro e w1 ⟨rfl, rfl⟩
  go_wp2
  go_loopw [17] (fun i wr => ∃ k : Nat, k ≤ p.length ∧ i = .int .i64 k ∧ wr.rowIs w.heap.size 22 p.length (fun l => .int .u64 (maskTo (fun j => nth p j == (l : Int)) k : Nat)) ∧ Ext w wr) (fun i _ => p.length - (intOf i).toNat)
  case atStart => exact ⟨0, Nat.zero_le _, rfl, (made_row w _ _ _).congr (fun i hi => rfl), hx0.alloc _⟩
  case round =>
    obtain ⟨k, hk, rfl, hrow, hx⟩ := hrel
    by_cases hlt : k < p.length
    · have hpk := pOk_le hp hlt
      obtain ⟨ad, rfl, hb2, hc⟩ := (hs.ext hx).get hlt
      obtain ⟨l, hl⟩ : ∃ l : Nat, nth p k = (l : Int) := ⟨(nth p k).toNat, by omega⟩
      rw [hl] at hc
      have hlk : l ≤ k := by omega
      have Hl := Lib.hid hl
      clear hl hpk
      have hcr := hrow.cell (i := l) (by omega)
      have hfz := hrow.frozen l
      have hor := u64_or_pow (maskTo (fun j => nth p j == (l : Int)) k) k (maskTo_lt64 _ (by omega)) (by omega)
      go_wp2
      go_region
      go_wp2
      go_roundw
      case rel =>
        refine ⟨k + 1, by omega, by go_num, (hrow.set l _).drew.congr (fun i hi => ?_), (hx.setCell (Nat.le_refl _) _).drew⟩
        by_cases e : i = l
        · subst e
          simp [maskTo_succ, Hl.out]
        · simp only [e, if_false]
          rw [maskTo_succ, if_neg (by rw [Hl.out]; simp; omega), Nat.or_zero]
      case measure => simp [intOf]; omega
    · obtain rfl : k = p.length := by omega
      obtain ⟨wo, rfl⟩ : ∃ wo : World, wo = wr := ⟨_, rfl⟩
      obtain ⟨g2, hg2⟩ : ∃ g2, g2 = wo.heap.size := ⟨_, rfl⟩
      have hg12 : w.heap.size < g2 := by rw [hg2]; exact hrow.lt
      have H2 := Lib.hid hg2
      have hm2 := made_row wo p.length 22 (.int .u64 0)
      rw [← hg2] at hm2
      clear hg2
      go_wp2
      rw [← H2.out]
      go_loopw [36] (fun i w2 => ∃ k : Nat, k ≤ p.length ∧ i = .int .i64 k ∧ w2.rowIs g2 22 p.length (fun l => .int .u64 ((if l < k then blockOf p l else 0 : Nat) : Int)) ∧
        w2.rowIs w.heap.size 22 p.length (fun l => .int .u64 (maskTo (fun j => nth p j == (l : Int)) p.length : Nat)) ∧ Ext w w2) (fun i _ => p.length - (intOf i).toNat)
      case atStart => exact ⟨0, Nat.zero_le _, rfl, hm2.congr (fun i hi => by simp), hrow.alloc _, hx.alloc _⟩
      case round =>
        obtain ⟨k, hk2, rfl, hr2, hr1, hx2⟩ := hrel
        by_cases hlt : k < p.length
        · have hpk := pOk_le hp hlt
          obtain ⟨ad, rfl, hb2, hc⟩ := (hs.ext hx2).get hlt
          obtain ⟨l, hl⟩ : ∃ l : Nat, nth p k = (l : Int) := ⟨(nth p k).toNat, by omega⟩
          rw [hl] at hc
          have hlk : l ≤ k := by omega
          have Hl := Lib.hid hl
          clear hl hpk
          have hcr := hr1.cell (i := l) (by omega)
          have hc2 := hr2.cell hlt
          rw [if_neg (Nat.lt_irrefl k)] at hc2
          have hfz := hr2.frozen k
          go_wp2
          go_roundw
          case rel =>
            refine ⟨k + 1, by omega, by go_num, (hr2.set k _).congr (fun i hi => ?_), hr1.setOther (by show w.heap.size ≠ g2; omega) _, hx2.setCell (by show w.heap.size ≤ g2; omega) _⟩
            by_cases e : i = k
            · subst e
              simp only [if_true, Nat.lt_succ_self]
              unfold blockOf
              rw [Hl.out]
            · simp only [e, if_false, Nat.lt_succ_iff_lt_or_eq, or_false]
          case measure => simp [intOf]; omega
        · obtain rfl : k = p.length := by omega
          go_wp2
          go_ret
          refine ⟨_, rfl, Sets.of_row (hr2.congr fun i hi => ?_) (relOf_len p) (by omega) (fun i hi => ?_), hx2⟩
          · rw [relOf_nth hi, if_pos hi]
          · rw [relOf_len] at hi
            rw [relOf_nth hi]; exact blockOf_lt p i h64

set_option maxHeartbeats 1000000 in
theorem block_ok (w : World) (v : Value) (p : List Int) (i : Nat) (h : Ints .i64 w v p) (h64 : p.length ≤ 64) (hp : pOk p) (hi : i < p.length) :
    Calls Tryd.prog 32 #[v, .int .i64 i] w fun e w' => e = .returned (.int .u64 (blockOf p i : Nat)) ∧ Ext w w' := by
  have C1 := Lib.hid (relation_ok w v p h h64 hp)
  go_enter Tryd.func32, Tryd.ntmps32
  go_wp2_with fail
  refine C1.out.mono ?_
  rintro e w1 ⟨v', rfl, hv, hx⟩
  obtain ⟨A, c, rfl, hs, hf⟩ := hv
  obtain ⟨ad, rfl, hb, hc⟩ := hs.get (i := i) (by rw [relOf_len]; exact hi)
  rw [relOf_nth hi] at hc
  have hcap := hs.cap
  have hle := hs.le
  clear hs hf
  rw [relOf_len] at *
  go_wp2
  go_ret
  exact ⟨rfl, hx⟩

/-- What Blocks answers for a valid list. -/
def blocksTo (p : List Int) (k : Nat) : List Nat := ((List.range k).filter fun i => nth p i == (i : Int)).map (blockOf p)
theorem blocksTo_yes {p : List Int} {k : Nat} (h : nth p k = (k : Int)) : blocksTo p (k + 1) = blocksTo p k ++ [blockOf p k] := by
  simp [blocksTo, List.range_succ, List.filter_append, h]
theorem blocksTo_no {p : List Int} {k : Nat} (h : nth p k ≠ (k : Int)) : blocksTo p (k + 1) = blocksTo p k := by
  simp [blocksTo, List.range_succ, List.filter_append, h]
theorem blocksTo_len (p : List Int) (k : Nat) : (blocksTo p k).length ≤ k := by
  have := List.length_filter_le (fun i : Nat => nth p i == (i : Int)) (List.range k)
  simp [blocksTo] at this ⊢
  exact this
theorem blocksTo_mem {p : List Int} {k s : Nat} : s ∈ blocksTo p k ↔ ∃ i, i < k ∧ nth p i = (i : Int) ∧ s = blockOf p i := by
  simp only [blocksTo, List.mem_map, List.mem_filter, List.mem_range, beq_iff_eq]
  constructor
  · rintro ⟨i, ⟨h1, h2⟩, e⟩; exact ⟨i, h1, h2, e.symm⟩
  · rintro ⟨i, h1, h2, e⟩; exact ⟨i, ⟨h1, h2⟩, e.symm⟩

end Go.Proofs.YtdlhfihddipjaacDoor
