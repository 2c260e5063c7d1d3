/-
  The agreement texts: Split of the program, its result a row that begins where its block begins.
-/
import Derived.Test.YtdlhfihddipjaacDoorAg11
import Derived.Test.YtdlhfihddipjaacDoorPart3
namespace Go.Proofs.YtdlhfihddipjaacDoor
open Go.RowKit

set_option maxRecDepth 100000 in
set_option maxHeartbeats 2000000 in
theorem divide0_any (w : World) (v1 v2 : Value) (a b : List Int) (h : Ints .i64 w v1 a) (h' : Ints .i64 w v2 b) (hl : a.length = b.length) (h64 : a.length ≤ 64) :
    Calls Tryd.prog 72 #[v1, v2] w fun e w' => ∃ v, e = .returned v ∧ Ints .i64 w' v (pDiv a.length a b) ∧ Zero v ∧ Ext w w' := by
  obtain ⟨A, c, rfl, hs, hf⟩ := h
  obtain ⟨A', c', rfl, hs', hf'⟩ := h'
  have hle := hs.le
  have hcap := hs.cap
  have hle' := hs'.le
  have hcap' := hs'.cap
  have hx0 := Ext.refl w
  have Hl := Lib.hid hl
  clear hl
  have hmk := run_make_row' (P := Tryd.prog) 30 3 (.int .i64 0) 8 Tryd.underlying30 Tryd.infoInt rfl .i64 .i64 a.length (by omega) (by omega)
  have hmm := @run_makeMap Tryd.prog
  go_enter Tryd.func72, Tryd.ntmps72
  go_wp2
  go_loopw [17] (fun i wr => ∃ k : Nat, k ≤ a.length ∧ i = .int .i64 k ∧ PMap wr w.heap.size (firsts a b k) ∧ wr.rowIs (w.heap.size + 1) 3 a.length (fun j => .int .i64 (if j < k then (lowOf a b j : Int) else 0)) ∧ Ext w wr) (fun i _ => a.length - (intOf i).toNat)
  case atStart =>
    refine ⟨0, Nat.zero_le _, rfl, (PMap.made w).alloc _, ?_, ((Ext.refl w).alloc _).alloc _⟩
    have := (made_row (w.alloc (.map #[] 0)) a.length 3 (.int .i64 0)).congr (g := fun j => .int .i64 (if j < 0 then (lowOf a b j : Int) else 0)) (fun i hi => by simp)
    simpa using this
  case round =>
    obtain ⟨k, hk, rfl, hm, hrow, hx⟩ := hrel
    by_cases hlt : k < a.length
    · have hkb : k < b.length := by have := Hl.out; omega
      obtain ⟨ad, rfl, hb, hc⟩ := (hs.ext hx).get hlt
      obtain ⟨ad', rfl, hb', hc'⟩ := (hs'.ext hx).get hkb
      have hcA : ∀ o, (wr.alloc o).cell? (ad.add k) = some (.int .i64 (nth a k)) := fun o => ((Ext.refl wr).alloc o).cell (by rw [addBlock]; exact hb) |>.trans hc
      have hcB : ∀ o, (wr.alloc o).cell? (ad'.add k) = some (.int .i64 (nth b k)) := fun o => ((Ext.refl wr).alloc o).cell (by rw [addBlock]; exact hb') |>.trans hc'
      have K := WideMaps.ArrKey.law Tryd.arr2
      have hfa := hf k hlt
      have hfb := hf' k hkb
      obtain ⟨W, hW⟩ : ∃ W, W = (wr.alloc (.cells #[.int .i64 (nth a k), .int .i64 (nth b k)] 110)).drew := ⟨_, rfl⟩
      have hxW : Ext wr W := by rw [hW]; exact ((Ext.refl wr).alloc _).drew
      have hmW : PMap W w.heap.size (firsts a b k) := hm.ext hxW
      have hrW := hrow.of_block (hxW.block (w.heap.size + 1) hrow.lt)
      have HW := Lib.hid hW
      clear hW
      by_cases hfst : lowOf a b k = k
      · have hno := firsts_none hfst
        have l1 := hmW.miss K Tryd.arr2 Tryd.underlying3 Tryd.hsz Tryd.underlying109 (Tryd.zeroInt W) hfa hfb hno true
        obtain ⟨w1, l2, hm1, hb1, hz1, ho1⟩ := hmW.store K Tryd.arr2 Tryd.underlying3 Tryd.hsz Tryd.underlying109 (v := (k : Int)) hfa hfb hno
        have l3 := hm1.hit K Tryd.arr2 Tryd.underlying3 Tryd.hsz Tryd.underlying109 (v := (k : Int)) hfa hfb ⟨(nth a k, nth b k, (k : Int)), by simp, rfl, rfl⟩ (fun u hu h1 h2 => by
          rcases List.mem_append.1 hu with hu | hu
          · exact absurd ⟨h1, h2⟩ (hno u hu)
          · simp at hu; rw [hu]) false
        simp only [if_true, Bool.false_eq_true, if_false] at l1 l3
        rw [HW.out] at l1 l2
        have hr1 := hrW.of_block (ho1 (w.heap.size + 1) (by omega))
        have hc1 := hr1.cell hlt
        have hfz1 := hr1.frozen k
        have hnew : wr.heap.size ≠ w.heap.size := by have := hm.lt; omega
        have e0 : w1.cell? ⟨wr.heap.size, 0, none⟩ = some (.int .i64 (nth a k)) := by
          rw [World.cell?_of_block (w := W) (ho1 _ hnew), HW.out]; exact cell_of_row _ _ _ _ _ _ (heap_alloc_new wr _)
        have e1 : w1.cell? ⟨wr.heap.size, 1, none⟩ = some (.int .i64 (nth b k)) := by
          rw [World.cell?_of_block (w := W) (ho1 _ hnew), HW.out]; exact cell_of_row _ _ _ _ _ _ (heap_alloc_new wr _)
        clear hmW hrW hxW
        have hxA : Ext w w1 := (hx.trans ((Ext.refl wr).alloc (.cells #[.int .i64 (nth a k), .int .i64 (nth b k)] 110)).drew).belowAt (by rw [← HW.out]; exact hb1) (Nat.le_refl _)
        go_wp2
        go_region
        go_wp2
        go_roundw
        case rel =>
          refine ⟨k + 1, by omega, by go_num, ?_, (hr1.set k _).congr (fun j hj => ?_), hxA.setCell (by show w.heap.size ≤ w.heap.size + 1; omega) _⟩
          · rw [firsts_succ_first hfst]
            exact hm1.setCell (by show w.heap.size ≠ w.heap.size + 1; omega) _
          · by_cases e : j = k
            · subst e; simp [hfst]
            · simp [e]; congr 1; simp only [Nat.lt_succ_iff_lt_or_eq, e, or_false]
        case measure => simp [intOf]; omega
      · have hhas := firsts_has (a := a) (b := b) (k := k) (m := k) (by have := lowOf_le a b k; omega)
        have hv := firsts_val (a := a) (b := b) (k := k) (m := k)
        have l1 := hmW.hit K Tryd.arr2 Tryd.underlying3 Tryd.hsz Tryd.underlying109 hfa hfb hhas hv true
        have l3 := hmW.hit K Tryd.arr2 Tryd.underlying3 Tryd.hsz Tryd.underlying109 hfa hfb hhas hv false
        simp only [if_true, Bool.false_eq_true, if_false] at l1 l3
        rw [HW.out] at l1 l3
        have hrX := hrow.alloc (.cells #[.int .i64 (nth a k), .int .i64 (nth b k)] 110)
        have hc1 := hrX.cell hlt
        have hfz1 := hrX.frozen k
        rw [HW.out] at hrW hmW
        have hxA : Ext w ((wr.alloc (.cells #[.int .i64 (nth a k), .int .i64 (nth b k)] 110)).drew) := hx.trans ((Ext.refl wr).alloc (.cells #[.int .i64 (nth a k), .int .i64 (nth b k)] 110)).drew
        clear hv hhas hxW
        go_wp2
        go_region
        go_wp2
        go_roundw
        case rel =>
          refine ⟨k + 1, by omega, by go_num, ?_, ?_, ?_⟩
          · rw [firsts_succ_other hfst]
            exact hmW.setCell (by show w.heap.size ≠ w.heap.size + 1; omega) _
          · refine (hrW.set k _).congr (fun j hj => ?_)
            by_cases e : j = k
            · subst e; simp
            · simp [e]; congr 1; simp only [Nat.lt_succ_iff_lt_or_eq, e, or_false]
          · exact hxA.setCell (by show w.heap.size ≤ w.heap.size + 1; omega) _
        case measure => simp [intOf]; omega
    · have hkl : k = a.length := by omega
      subst hkl
      go_wp2
      go_ret
      refine ⟨_, rfl, Ints.of_row (hrow.congr fun i hi => ?_) (pDiv_len _ _ _) (by omega) (fun i hi => ?_), ⟨_, _, _, rfl⟩, hx⟩
      · rw [pDiv_nth hi, if_pos hi]
      · rw [pDiv_len] at hi
        have := lowOf_le a b i
        rw [pDiv_nth hi]; exact fits_small (by omega) (by omega)

set_option maxHeartbeats 1000000 in
theorem split0_ok (w : World) (v1 v2 : Value) (a b : List Int) (h : Ints .i64 w v1 a) (h' : Ints .i64 w v2 b) (hl : a.length = b.length) (h64 : a.length ≤ 64) (ha : pOk a) :
    Calls Tryd.prog 62 #[v1, v2] w fun e w' => ∃ v, e = .returned (.tuple #[v, .int .i64 0]) ∧ Ints .i64 w' v (pDiv a.length a b) ∧ Zero v ∧ Ext w w' := by
  have C1 := Lib.hid (pcheck_ok w v1 a h h64 ha)
  have C2 := Lib.hid (divide0_any w v1 v2 a b h h' hl h64)
  obtain ⟨A, c, rfl, hs, hf⟩ := h
  obtain ⟨A', c', rfl, hs', hf'⟩ := h'
  have hle := hs.le
  have hcap := hs.cap
  have hle' := hs'.le
  have hcap' := hs'.cap
  have t1 : ((a.length : Int) != (b.length : Int)) = false := by simp [hl]
  clear hl ha
  go_enter Tryd.func62, Tryd.ntmps62
  go_wp2_with fail
  refine C1.out.mono ?_
  rintro e w1 ⟨rfl, rfl⟩
  go_wp2_with fail
  refine C2.out.mono ?_
  rintro e w1 ⟨v, rfl, hv, hZ, hx⟩
  have HZ := Lib.hid hZ
  have HV := Lib.hid hv
  clear hZ hv
  go_wp2
  go_ret2
  exact ⟨_, rfl, HV.out, HZ.out, hx⟩

end Go.Proofs.YtdlhfihddipjaacDoor
