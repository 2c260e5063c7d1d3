/-
  Contracts: slices.Equal and slices.Clone at []int; both, divide, Meet, Refines, Split of the package partition.
-/
import Derived.Test.YtdlhfihddipjaacDoorPart1
import Derived.Deep.RegionLaw
import Derived.Test.YtdlhfihddipjaacDoorMap
namespace Go.Proofs.YtdlhfihddipjaacDoor
open Go.RowKit

set_option maxHeartbeats 1000000 in
theorem equal_yes (w : World) (v1 v2 : Value) (p : List Int) (h : Ints .i64 w v1 p) (h' : Ints .i64 w v2 p) :
    Calls Tryd.prog 41 #[v1, v2] w fun e w' => e = .returned (.bool true) ∧ Ext w w' := by
  obtain ⟨A, c, rfl, hs, hf⟩ := h
  obtain ⟨A', c', rfl, hs', hf'⟩ := h'
  have hle := hs.le
  have hcap := hs.cap
  have hx0 := Ext.refl w
  go_enter Tryd.func41, Tryd.ntmps41
  go_wp2
  go_loopw [13] (fun i wr => ∃ k : Nat, k ≤ p.length ∧ i = .int .i64 k ∧ Ext w wr) (fun i _ => p.length - (intOf i).toNat)
  case atStart => exact ⟨0, Nat.zero_le _, rfl, hx0⟩
  case round =>
    obtain ⟨k, hk, rfl, hx⟩ := hrel
    by_cases hlt : k < p.length
    · obtain ⟨ad, rfl, hb, hc⟩ := (hs.ext hx).get hlt
      obtain ⟨ad', rfl, hb', hc'⟩ := (hs'.ext hx).get hlt
      go_wp2
      go_quiet (fail)
      go_wp2
      go_roundw
      case rel => exact ⟨k + 1, by omega, by go_num, hx.drewN _⟩
      case measure => simp [intOf]; omega
    · go_wp2
      go_ret
      exact ⟨rfl, hx⟩

set_option maxHeartbeats 1000000 in
theorem equal_no (w : World) (v1 v2 : Value) (p q : List Int) (h : Ints .i64 w v1 p) (h' : Ints .i64 w v2 q) (hne : p ≠ q) :
    Calls Tryd.prog 41 #[v1, v2] w fun e w' => e = .returned (.bool false) ∧ Ext w w' := by
  obtain ⟨A, c, rfl, hs, hf⟩ := h
  obtain ⟨A', c', rfl, hs', hf'⟩ := h'
  have hle := hs.le
  have hcap := hs.cap
  have hle' := hs'.le
  have hcap' := hs'.cap
  have hx0 := Ext.refl w
  by_cases hl : p.length = q.length
  · have Hl := Lib.hid hl
    clear hl
    have Hne := Lib.hid hne
    clear hne
    have t1 : ((p.length : Int) != (q.length : Int)) = false := by have := Hl.out; simp [this]
    go_enter Tryd.func41, Tryd.ntmps41
    go_wp2
    go_loopw [13] (fun i wr => ∃ k : Nat, k ≤ p.length ∧ i = .int .i64 k ∧ Ext w wr ∧ Hid (∀ j, j < k → nth p j = nth q j)) (fun i _ => p.length - (intOf i).toNat)
    case atStart => exact ⟨0, Nat.zero_le _, rfl, hx0, fun j h => absurd h (by omega)⟩
    case round =>
      obtain ⟨k, hk, rfl, hx, hsame⟩ := hrel
      by_cases hlt : k < p.length
      · obtain ⟨ad, rfl, hb, hc⟩ := (hs.ext hx).get hlt
        obtain ⟨ad', rfl, hb', hc'⟩ := (hs'.ext hx).get (i := k) (by have := Hl.out; omega)
        have hkq : k < q.length := by have := Hl.out; omega
        by_cases he : nth p k = nth q k
        · have t2 : (nth p k != nth q k) = false := by simp [he]
          have He := Lib.hid he
          clear he
          go_wp2
          go_quiet (fail)
          go_wp2
          go_roundw
          case rel => exact ⟨k + 1, by omega, by go_num, hx.drewN _, fun j hj => by
            by_cases e : j = k
            · rw [e]; exact He.out
            · exact hsame.out j (by omega)⟩
          case measure => simp [intOf]; omega
        · have t2 : (nth p k != nth q k) = true := by rw [bne_iff_ne]; exact he
          clear he
          go_wp2
          go_quiet (fail)
          go_wp2
          go_ret
          exact ⟨rfl, hx.drewN _⟩
      · exact absurd (ext_nth Hl.out fun j hj => hsame.out j (by omega)) Hne.out
  · have t1 : ((p.length : Int) != (q.length : Int)) = true := by rw [bne_iff_ne]; omega
    clear hl
    go_enter Tryd.func41, Tryd.ntmps41
    go_wp2
    go_ret
    exact ⟨rfl, hx0⟩

theorem run_buildSlice_zero {P : Program} (t e : TypeId) (i : TypeInfo) (ht : P.underlying t = some (.slice e)) (hi : P.info? e = some i) (w : World) :
    (Instr.buildSlice t 0 #[]).run P w = .ok (.slice (some ⟨w.heap.size, 0, none⟩) 0 0) (w.alloc (.cells #[] e)) := by
  simp [Instr.buildSlice, run_underlying ht, sizeOf, typeInfo, hi, Instr.fill, newRow]
  have : Array.map (fun _ : Nat => (default : Value)) (Array.range 0) = #[] := by simp
  rw [this]

set_option maxRecDepth 100000 in
set_option maxHeartbeats 1000000 in
theorem clone_own (w : World) (v : Value) (p : List Int) (h : Ints .i64 w v p) (hl : p.length ≤ 1000) :
    Calls Tryd.prog 56 #[v] w fun e w' => ∃ v', e = .returned v' ∧ w'.ownsRow w.heap.size 3 1 v' p.length (p.map (Value.int .i64)) ∧ Ext w w' := by
  obtain ⟨A, c, rfl, hs, hf⟩ := h
  have hle := hs.le
  have hcap := hs.cap
  have hx0 := Ext.refl w
  have q1 := Lib.run_eql_slice_nil (P := Tryd.prog) w 30 3 A p.length c 0 0 Tryd.underlying30
  obtain ⟨i, hi, hz0, hz1, hz2⟩ := info_parts Tryd.infoInt
  have q2 := run_buildSlice_zero (P := Tryd.prog) 30 3 i Tryd.underlying30 hi
  rcases A with _ | ad
  · have hp : p = [] := by
      by_cases h0 : 0 < p.length
      · obtain ⟨ad, e, _⟩ := hs.at_ h0
        cases e
      · exact List.eq_nil_of_length_eq_zero (by omega)
    subst hp
    have q3 := Lib.run_eql_slice_nil (P := Tryd.prog) w 30 3 none 0 c 0 0 Tryd.underlying30
    clear q1
    go_enter Tryd.func56, Tryd.ntmps56
    go_wp2
    go_ret
    exact ⟨_, rfl, World.ownsRow_nil _ _ _ _, hx0⟩
  · have ho : (w.alloc (.cells #[] 3)).ownsRow w.heap.size 3 1 (.slice (some ⟨w.heap.size, 0, none⟩) 0 0) 0 [] := World.ownsRow_lit w #[] 0 (Nat.le_refl _) (by unfold maxLen; omega) rfl
    have hs1 := hs.ext (hx0.alloc (.cells #[] 3))
    have hc := ints_cells hs1
    have h1 := ints_one .i64 p
    have hlen : (p.map (Value.int .i64)).length = p.length * 1 := by simp
    go_enter Tryd.func56, Tryd.ntmps56
    go_wp2_with (at_builtin; refine wpList_append_own _ rfl (.tmp 5) (.tmp 6) _ rfl w.heap.size 3 i (.int .i64 0) 1 8 Tryd.underlying30 hi hz0 hz1 hz2 rfl (by omega) (.slice (some ⟨w.heap.size, 0, none⟩) 0 0) 0 [] rfl ho ad p.length c (p.map (Value.int .i64)) rfl hlen hc h1 (by unfold maxLen; omega) (by omega) (by simp) ?_; intro v' w1 hown hg _)
    go_ret
    exact ⟨_, rfl, by simpa using hown, Below.grown (hx0.alloc _) hg (by simp) (fun k hk => by simp [Value.ownBlock] at hk; omega)⟩

theorem clone_any (w : World) (v : Value) (p : List Int) (h : Ints .i64 w v p) (hl : p.length ≤ 1000) :
    Calls Tryd.prog 56 #[v] w fun e w' => ∃ v', e = .returned v' ∧ Ints .i64 w' v' p ∧ Ext w w' :=
  (clone_own w v p h hl).mono fun _ _ ⟨v', he, ho, hx⟩ => ⟨v', he, Ints.of_own ho (by omega) (by obtain ⟨_, _, _, _, hf⟩ := h; exact hf), hx⟩

theorem Tryd.arr2 : WideMaps.ArrKey Tryd.prog 110 3 2 := ⟨Tryd.underlying110, by kernel_rfl, by kernel_rfl, by kernel_rfl⟩
theorem Tryd.typesPos : decide (0 < Tryd.prog.types.size) = true := by kernel_rfl
theorem Tryd.hsz : ∃ m, Tryd.prog.types.size = m + 1 := ⟨Tryd.prog.types.size - 1, by
  have := of_decide_eq_true Tryd.typesPos
  omega⟩
theorem Tryd.zeroInt (w : World) : (zeroValue 3).run Tryd.prog w = .ok (.int .i64 0) w := by kernel_rfl

set_option maxRecDepth 100000 in
set_option maxHeartbeats 2000000 in
theorem divide_any (w : World) (v1 v2 : Value) (a b : List Int) (h : Ints .i64 w v1 a) (h' : Ints .i64 w v2 b) (hl : a.length = b.length) (h64 : a.length ≤ 64) :
    Calls Tryd.prog 72 #[v1, v2] w fun e w' => ∃ v, e = .returned v ∧ Ints .i64 w' v (pDiv a.length a b) ∧ Ext w w' := by
  obtain ⟨A, c, rfl, hs, hf⟩ := h
  obtain ⟨A', c', rfl, hs', hf'⟩ := h'
  have hle := hs.le
  have hcap := hs.cap
  have hle' := hs'.le
  have hcap' := hs'.cap
  have hx0 := Ext.refl w
  have Hl := Lib.hid hl
  clear hl
  have hmk := run_make_row' (P := Tryd.prog) 30 3 (.int .i64 0) 8 Tryd.underlying30 Tryd.infoInt rfl .i64 .i64 a.length (by omega) (by omega)
  have hmm := @run_makeMap Tryd.prog
  go_enter Tryd.func72, Tryd.ntmps72
  go_wp2
  go_loopw [17] (fun i wr => ∃ k : Nat, k ≤ a.length ∧ i = .int .i64 k ∧ PMap wr w.heap.size (firsts a b k) ∧ wr.rowIs (w.heap.size + 1) 3 a.length (fun j => .int .i64 (if j < k then (lowOf a b j : Int) else 0)) ∧ Ext w wr) (fun i _ => a.length - (intOf i).toNat)
  case atStart =>
    refine ⟨0, Nat.zero_le _, rfl, (PMap.made w).alloc _, ?_, ((Ext.refl w).alloc _).alloc _⟩
    have := (made_row (w.alloc (.map #[] 0)) a.length 3 (.int .i64 0)).congr (g := fun j => .int .i64 (if j < 0 then (lowOf a b j : Int) else 0)) (fun i hi => by simp)
    simpa using this
  case round =>
    obtain ⟨k, hk, rfl, hm, hrow, hx⟩ := hrel
    by_cases hlt : k < a.length
    · have hkb : k < b.length := by have := Hl.out; omega
      obtain ⟨ad, rfl, hb, hc⟩ := (hs.ext hx).get hlt
      obtain ⟨ad', rfl, hb', hc'⟩ := (hs'.ext hx).get hkb
      have hcA : ∀ o, (wr.alloc o).cell? (ad.add k) = some (.int .i64 (nth a k)) := fun o => ((Ext.refl wr).alloc o).cell (by rw [addBlock]; exact hb) |>.trans hc
      have hcB : ∀ o, (wr.alloc o).cell? (ad'.add k) = some (.int .i64 (nth b k)) := fun o => ((Ext.refl wr).alloc o).cell (by rw [addBlock]; exact hb') |>.trans hc'
      have K := WideMaps.ArrKey.law Tryd.arr2
      have hfa := hf k hlt
      have hfb := hf' k hkb
      obtain ⟨W, hW⟩ : ∃ W, W = (wr.alloc (.cells #[.int .i64 (nth a k), .int .i64 (nth b k)] 110)).drew := ⟨_, rfl⟩
      have hxW : Ext wr W := by rw [hW]; exact ((Ext.refl wr).alloc _).drew
      have hmW : PMap W w.heap.size (firsts a b k) := hm.ext hxW
      have hrW := hrow.of_block (hxW.block (w.heap.size + 1) hrow.lt)
      have HW := Lib.hid hW
      clear hW
      by_cases hfst : lowOf a b k = k
      · have hno := firsts_none hfst
        have l1 := hmW.miss K Tryd.arr2 Tryd.underlying3 Tryd.hsz Tryd.underlying109 (Tryd.zeroInt W) hfa hfb hno true
        obtain ⟨w1, l2, hm1, hb1, hz1, ho1⟩ := hmW.store K Tryd.arr2 Tryd.underlying3 Tryd.hsz Tryd.underlying109 (v := (k : Int)) hfa hfb hno
        have l3 := hm1.hit K Tryd.arr2 Tryd.underlying3 Tryd.hsz Tryd.underlying109 (v := (k : Int)) hfa hfb ⟨(nth a k, nth b k, (k : Int)), by simp, rfl, rfl⟩ (fun u hu h1 h2 => by
          rcases List.mem_append.1 hu with hu | hu
          · exact absurd ⟨h1, h2⟩ (hno u hu)
          · simp at hu; rw [hu]) false
        simp only [if_true, Bool.false_eq_true, if_false] at l1 l3
        rw [HW.out] at l1 l2
        have hr1 := hrW.of_block (ho1 (w.heap.size + 1) (by omega))
        have hc1 := hr1.cell hlt
        have hfz1 := hr1.frozen k
        have hnew : wr.heap.size ≠ w.heap.size := by have := hm.lt; omega
        have e0 : w1.cell? ⟨wr.heap.size, 0, none⟩ = some (.int .i64 (nth a k)) := by
          rw [World.cell?_of_block (w := W) (ho1 _ hnew), HW.out]; exact cell_of_row _ _ _ _ _ _ (heap_alloc_new wr _)
        have e1 : w1.cell? ⟨wr.heap.size, 1, none⟩ = some (.int .i64 (nth b k)) := by
          rw [World.cell?_of_block (w := W) (ho1 _ hnew), HW.out]; exact cell_of_row _ _ _ _ _ _ (heap_alloc_new wr _)
        clear hmW hrW hxW
        have hxA : Ext w w1 := (hx.trans ((Ext.refl wr).alloc (.cells #[.int .i64 (nth a k), .int .i64 (nth b k)] 110)).drew).belowAt (by rw [← HW.out]; exact hb1) (Nat.le_refl _)
        go_wp2
        go_region
        go_wp2
        go_roundw
        case rel =>
          refine ⟨k + 1, by omega, by go_num, ?_, (hr1.set k _).congr (fun j hj => ?_), hxA.setCell (by show w.heap.size ≤ w.heap.size + 1; omega) _⟩
          · rw [firsts_succ_first hfst]
            exact hm1.setCell (by show w.heap.size ≠ w.heap.size + 1; omega) _
          · by_cases e : j = k
            · subst e; simp [hfst]
            · simp [e]; congr 1; simp only [Nat.lt_succ_iff_lt_or_eq, e, or_false]
        case measure => simp [intOf]; omega
      · have hhas := firsts_has (a := a) (b := b) (k := k) (m := k) (by have := lowOf_le a b k; omega)
        have hv := firsts_val (a := a) (b := b) (k := k) (m := k)
        have l1 := hmW.hit K Tryd.arr2 Tryd.underlying3 Tryd.hsz Tryd.underlying109 hfa hfb hhas hv true
        have l3 := hmW.hit K Tryd.arr2 Tryd.underlying3 Tryd.hsz Tryd.underlying109 hfa hfb hhas hv false
        simp only [if_true, Bool.false_eq_true, if_false] at l1 l3
        rw [HW.out] at l1 l3
        have hrX := hrow.alloc (.cells #[.int .i64 (nth a k), .int .i64 (nth b k)] 110)
        have hc1 := hrX.cell hlt
        have hfz1 := hrX.frozen k
        rw [HW.out] at hrW hmW
        have hxA : Ext w ((wr.alloc (.cells #[.int .i64 (nth a k), .int .i64 (nth b k)] 110)).drew) := hx.trans ((Ext.refl wr).alloc (.cells #[.int .i64 (nth a k), .int .i64 (nth b k)] 110)).drew
        clear hv hhas hxW
        go_wp2
        go_region
        go_wp2
        go_roundw
        case rel =>
          refine ⟨k + 1, by omega, by go_num, ?_, ?_, ?_⟩
          · rw [firsts_succ_other hfst]
            exact hmW.setCell (by show w.heap.size ≠ w.heap.size + 1; omega) _
          · refine (hrW.set k _).congr (fun j hj => ?_)
            by_cases e : j = k
            · subst e; simp
            · simp [e]; congr 1; simp only [Nat.lt_succ_iff_lt_or_eq, e, or_false]
          · exact hxA.setCell (by show w.heap.size ≤ w.heap.size + 1; omega) _
        case measure => simp [intOf]; omega
    · have hkl : k = a.length := by omega
      subst hkl
      go_wp2
      go_ret
      refine ⟨_, rfl, Ints.of_row (hrow.congr fun i hi => ?_) (pDiv_len _ _ _) (by omega) (fun i hi => ?_), hx⟩
      · rw [pDiv_nth hi, if_pos hi]
      · rw [pDiv_len] at hi
        have := lowOf_le a b i
        rw [pDiv_nth hi]; exact fits_small (by omega) (by omega)

end Go.Proofs.YtdlhfihddipjaacDoor
