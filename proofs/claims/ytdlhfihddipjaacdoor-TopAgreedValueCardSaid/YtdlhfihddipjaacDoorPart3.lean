/-
  Contracts of the package partition: both, Meet, Split, Refines, Join.
-/
import Derived.Test.YtdlhfihddipjaacDoorPart2
import Derived.Test.YtdlhfihddipjaacDoorPlain3c
import Derived.Deep.RegionWith
namespace Go.Proofs.YtdlhfihddipjaacDoor
open Go.RowKit

set_option maxHeartbeats 1000000 in
theorem both_ok (w : World) (v1 v2 : Value) (a b : List Int) (h : Ints .i64 w v1 a) (h' : Ints .i64 w v2 b) (hl : a.length = b.length) (h64 : a.length ≤ 64) (ha : pOk a) (hb : pOk b) :
    Calls Tryd.prog 55 #[v1, v2] w fun e w' => e = .returned (.int .i64 0) ∧ w = w' := by
  have c1 := pcheck_ok w v1 a h h64 ha
  have c2 := pcheck_ok w v2 b h' (by omega) hb
  obtain ⟨A, c, rfl, hs, hf⟩ := h
  obtain ⟨A', c', rfl, hs', hf'⟩ := h'
  have hle := hs.le
  have hcap := hs.cap
  have hle' := hs'.le
  have hcap' := hs'.cap
  have Hl := Lib.hid hl
  clear hl
  have C1 := Lib.hid c1
  have C2 := Lib.hid c2
  clear c1 c2
  have t1 : ((a.length : Int) != (b.length : Int)) = false := by have := Hl.out; simp [this]
  go_enter Tryd.func55, Tryd.ntmps55
  go_wp2_with fail
  refine C1.out.mono ?_
  rintro e w1 ⟨rfl, rfl⟩
  go_wp2_with fail
  refine C2.out.mono ?_
  rintro e w1 ⟨rfl, rfl⟩
  go_wp2
  go_ret
  exact ⟨rfl, rfl⟩

set_option maxHeartbeats 1000000 in
theorem split_ok (w : World) (v1 v2 : Value) (a b : List Int) (h : Ints .i64 w v1 a) (h' : Ints .i64 w v2 b) (hl : a.length = b.length) (h64 : a.length ≤ 64) (ha : pOk a) :
    Calls Tryd.prog 62 #[v1, v2] w fun e w' => ∃ v, e = .returned (.tuple #[v, .int .i64 0]) ∧ Ints .i64 w' v (pDiv a.length a b) ∧ Ext w w' := by
  have C1 := Lib.hid (pcheck_ok w v1 a h h64 ha)
  have C2 := Lib.hid (divide_any w v1 v2 a b h h' hl h64)
  obtain ⟨A, c, rfl, hs, hf⟩ := h
  obtain ⟨A', c', rfl, hs', hf'⟩ := h'
  have hle := hs.le
  have hcap := hs.cap
  have hle' := hs'.le
  have hcap' := hs'.cap
  have t1 : ((a.length : Int) != (b.length : Int)) = false := by simp [hl]
  clear hl ha
  go_enter Tryd.func62, Tryd.ntmps62
  go_wp2_with fail
  refine C1.out.mono ?_
  rintro e w1 ⟨rfl, rfl⟩
  go_wp2_with fail
  refine C2.out.mono ?_
  rintro e w1 ⟨v, rfl, hv, hx⟩
  go_wp2
  go_ret2
  exact ⟨_, rfl, hv, hx⟩

set_option maxHeartbeats 1000000 in
/-- The closure that follows the links. -/
theorem lowest_any (w : World) (A : Option Addr) (c n cg i : Nat) (P : Nat → Nat) (hcell : w.cell? ⟨cg, 0, none⟩ = some (.slice A n c)) (hs : SlcAt w A c n (fun j => .int .i64 (P j : Nat))) (hP : ∀ j, P j ≤ j) (hi : i < n) :
    Calls Tryd.prog 57 #[.int .i64 i, .pointer (some ⟨cg, 0, none⟩)] w fun e w' => e = .returned (.int .i64 (root P i : Nat)) ∧ w = w' := by
  have hle := hs.le
  have hcap := hs.cap
  go_enter Tryd.func57, Tryd.ntmps57
  go_wp2
  go_loop [0] (fun v => ∃ m : Nat, m ≤ i ∧ v = .int .i64 m ∧ Hid (root P m = root P i)) (fun v => (intOf v).toNat)
  case atStart => exact ⟨i, Nat.le_refl _, rfl, rfl⟩
  case round =>
    obtain ⟨m, hm, rfl, hroot⟩ := hrel
    have hmn : m < n := by omega
    obtain ⟨ad, rfl, hb, hc⟩ := hs.get hmn
    have hPm := hP m
    by_cases e : P m = m
    · have t : ((P m : Int) != (m : Int)) = false := by rw [e]; simp
      have He := Lib.hid e
      clear e
      go_wp2
      go_ret
      exact ⟨by rw [← hroot.out, root_of_fix He.out]; rfl, rfl⟩
    · have t : ((P m : Int) != (m : Int)) = true := by rw [bne_iff_ne]; omega
      have hlt : P m < m := by omega
      clear e
      go_wp2
      go_round
      case rel => exact ⟨P m, by omega, rfl, by show root P (P m) = _; rw [← root_step hPm]; exact hroot.out⟩
      case measure => simp [intOf]; omega

/-- What the loops of Join keep: the copy of the first list holds the links 'P', and the captured variable holds the copy. -/
def JoinRel (w wr : World) (g cg cap n : Nat) (t : TypeId) (P : Nat → Nat) : Prop :=
  ∃ F, wr.rowIs g t cap F ∧ (∀ i, i < n → F i = .int .i64 (P i : Nat)) ∧ wr.cell? ⟨cg, 0, none⟩ = some (.slice (some ⟨g, 0, none⟩) n cap) ∧ Ext w wr ∧ g < cg

set_option maxRecDepth 100000 in
set_option maxHeartbeats 2000000 in
theorem join_ok (w : World) (v1 v2 : Value) (a b : List Int) (h : Ints .i64 w v1 a) (h' : Ints .i64 w v2 b) (hl : a.length = b.length) (h64 : a.length ≤ 64) (h0 : 0 < a.length) (ha : pOk a) (hb : pOk b) :
    Calls Tryd.prog 31 #[v1, v2] w fun e w' => ∃ v q, e = .returned (.tuple #[v, .int .i64 0]) ∧ Ints .i64 w' v q ∧ JoinSpec a b q ∧ Ext w w' := by
  have hmf : ∀ (fn : Fn) (first cap : Array Value) (w : World), (Instr.makeFunc fn first cap).run Tryd.prog w = .ok (.func fn first cap) w := fun _ _ _ _ => rfl
  have C1 := Lib.hid (both_ok w v1 v2 a b h h' hl h64 ha hb)
  have C2 := Lib.hid (clone_own w v1 a h (by omega))
  obtain ⟨A, c, rfl, hs, hf⟩ := h
  obtain ⟨A', c', rfl, hs', hf'⟩ := h'
  have hle := hs.le
  have hcap := hs.cap
  have hle' := hs'.le
  have hcap' := hs'.cap
  have Hl := Lib.hid hl
  clear hl
  go_enter Tryd.func31, Tryd.ntmps31
  go_wp2_with fail
  refine C1.out.mono ?_
  rintro e w1 ⟨rfl, rfl⟩
  go_wp2_with fail
  refine C2.out.mono ?_
  rintro e w1 ⟨v, rfl, hown, hx1⟩
  obtain ⟨g, cap, F, rfl, hg, hrow, hcn, hcm, hF⟩ := own_row hown h0
  have hgl := hrow.lt
  obtain ⟨cg, hcg⟩ : ∃ cg, cg = w1.heap.size := ⟨_, rfl⟩
  have Hcg := Lib.hid hcg
  clear hcg
  go_wp2
  rw [← Hcg.out]
  go_loopw [25] (fun i wr => ∃ k : Nat, k ≤ a.length ∧ i = .int .i64 k ∧ ∃ P : Nat → Nat, JoinTo a.length (fn a) (fn b) k P ∧ JoinRel w wr g cg cap a.length 3 P) (fun i _ => a.length - (intOf i).toNat)
  case atStart =>
    refine ⟨0, Nat.zero_le _, rfl, fn a, JoinTo.start (fn_le ha) (fun i hi => fn_idem ha hi), F, hrow.alloc _, fun i hi => ?_, ?_, hx1.alloc _, ?_⟩
    · rw [hF i hi, getD_map_int _ _ _ hi, fn_at hi]
      have := pOk_le ha hi
      congr 1; omega
    · rw [Hcg.out]; exact cell_of_row _ _ _ _ _ _ (heap_alloc_new w1 _)
    · rw [Hcg.out]; omega
  case round =>
    obtain ⟨k, hk, rfl, P, hJ, F, hrow, hF, hcell, hx, hcgg⟩ := hrel
    by_cases hlt : k < a.length
    · have hH := Hl.out
      have hpb := pOk_le hb (i := k) (by omega)
      obtain ⟨ad', rfl, hb2, hc'⟩ := (hs'.ext hx).get (i := k) (by omega)
      have hkb : k < b.length := by omega
      obtain ⟨j, hj⟩ : ∃ j : Nat, nth b k = (j : Int) := ⟨(nth b k).toNat, by omega⟩
      have hjk : j ≤ k := by omega
      have hjb : fn b k = j := by rw [fn_at hkb, hj]; rfl
      rw [hj] at hc'
      clear hj hpb hH
      have hsl := SlcAt.of_row_at hrow hcn hcm hF
      have c1 := lowest_any wr (some ⟨g, 0, none⟩) cap a.length cg k P hcell hsl hJ.le hlt
      have c2 := lowest_any wr (some ⟨g, 0, none⟩) cap a.length cg j P hcell hsl hJ.le (by omega)
      have C1 := Lib.hid c1
      have C2 := Lib.hid c2
      clear c1 c2
      have r1 := root_le P k
      have r2 := root_le P j
      have hstep := hJ.step hlt (fn_le hb k)
      rw [hjb] at hstep
      have Hs := Lib.hid hstep
      clear hstep hjb
      generalize hx1 : root P k = x at *
      generalize hy1 : root P j = y at *
      clear hx1 hy1
      go_wp2_with fail
      refine C1.out.mono ?_
      rintro e w2 ⟨rfl, rfl⟩
      go_wp2_with fail
      refine C2.out.mono ?_
      rintro e w2 ⟨rfl, rfl⟩
      have hgx := hx.setCell (p := ⟨g, max x y, none⟩) hg (.int .i64 ((min x y : Nat) : Int))
      have hrel : ∀ F', wr.rowIs g 3 cap F' → (∀ i, i < a.length → F' i = .int .i64 (P i : Nat)) → JoinRel w (wr.setCell ⟨g, max x y, none⟩ (.int .i64 ((min x y : Nat) : Int))) g cg cap a.length 3 (link P x y) := fun F' h1 h2 =>
        ⟨_, h1.set _ _, fun i hi => by
          unfold link
          by_cases e : i = max x y
          · simp only [e, if_true]
          · simp only [e, if_false]; exact h2 i hi, (World.cell?_setCell_other _ _ _ _ (by intro e; injection e with e1 e2; omega)).trans hcell, hgx, hcgg⟩
      have Hrel := Lib.hid (hrel F hrow hF)
      clear hrel hgx
      have hcx := hrow.cell (i := x) (by omega)
      have hcy := hrow.cell (i := y) (by omega)
      rw [hF x (by omega)] at hcx
      rw [hF y (by omega)] at hcy
      have hfx := hrow.frozen x
      have hfy := hrow.frozen y
      clear hF hJ
      rcases Nat.lt_trichotomy x y with l | l | l
      · have R := Hrel.out
        rw [Nat.max_eq_right (by omega), Nat.min_eq_left (by omega)] at R
        clear Hrel
        have Hrel := Lib.hid R
        clear R
        go_wp2
        go_roundw
        case rel => exact ⟨k + 1, by omega, by go_num, _, Hs.out, Hrel.out⟩
        case measure => simp [intOf]; omega
      · subst l
        have R := Hrel.out
        rw [Nat.max_self, Nat.min_self] at R
        clear Hrel
        have Hrel := Lib.hid R
        clear R
        go_wp2
        go_roundw
        case rel => exact ⟨k + 1, by omega, by go_num, _, Hs.out, Hrel.out⟩
        case measure => simp [intOf]; omega
      · have R := Hrel.out
        rw [Nat.max_eq_left (by omega), Nat.min_eq_right (by omega)] at R
        clear Hrel
        have Hrel := Lib.hid R
        clear R
        go_wp2
        go_roundw
        case rel => exact ⟨k + 1, by omega, by go_num, _, Hs.out, Hrel.out⟩
        case measure => simp [intOf]; omega
    · have hkl : k = a.length := by have := Hl.out; omega
      have HJ := Lib.hid hJ
      clear hJ
      subst hkl
      have hkb : ¬ a.length < b.length := by have := Hl.out; omega
      have hPle := HJ.out.le
      have hstart : JoinRel w wr g cg cap a.length 3 (short P 0) := ⟨F, hrow, fun i hi => by rw [hF i hi]; rfl, hcell, hx, hcgg⟩
      have Hst := Lib.hid hstart
      clear hstart hF hrow hown hx
      go_wp2
      go_loopw [47] (fun i wr2 => ∃ m : Nat, m ≤ a.length ∧ i = .int .i64 m ∧ JoinRel w wr2 g cg cap a.length 3 (short P m)) (fun i _ => a.length - (intOf i).toNat)
      case atStart => exact ⟨0, Nat.zero_le _, rfl, Hst.out⟩
      case round =>
        obtain ⟨m, hm, rfl, F2, hrow2, hF2, hcell2, hx2, _⟩ := hrel
        by_cases hlt2 : m < a.length
        · have hsl := SlcAt.of_row_at hrow2 hcn hcm hF2
          have c1 := lowest_any wr.drew (some ⟨g, 0, none⟩) cap a.length cg m (short P m) hcell2 (hsl.ext (Ext.refl wr).drew) (short_le hPle m) hlt2
          rw [short_root hPle] at c1
          have C1 := Lib.hid c1
          clear c1
          have hc1 := hrow2.cell (i := m) (by omega)
          rw [hF2 m hlt2] at hc1
          have hfz := hrow2.frozen m
          have hx2s := hx2.drew.setCell (p := ⟨g, m, none⟩) hg (.int .i64 ((root P m : Nat) : Int))
          have hrel : JoinRel w (wr.drew.setCell ⟨g, m, none⟩ (.int .i64 ((root P m : Nat) : Int))) g cg cap a.length 3 (short P (m + 1)) :=
            ⟨_, hrow2.drew.set _ _, fun i hi => by
              unfold short
              by_cases e : i = m
              · subst e; simp
              · simp only [e, if_false]
                rw [hF2 i hi]
                unfold short
                congr 2
                simp only [Nat.lt_succ_iff_lt_or_eq, e, or_false], (World.cell?_setCell_other _ _ _ _ (by intro e; injection e with e1 e2; omega)).trans hcell2, hx2s, hcgg⟩
          have Hrel := Lib.hid hrel
          clear hrel hx2s hF2 hsl
          go_wp2
          go_region_with (go_at_call 57; refine C1.out.mono ?_; rintro e w2 ⟨rfl, rfl⟩)
          all_goals
            go_wp2
            go_roundw
            case rel => exact ⟨m + 1, by omega, by go_num, Hrel.out⟩
            case measure => simp [intOf]; omega
        · have hml : m = a.length := by omega
          have hFin : ∀ i, i < a.length → F2 i = .int .i64 (nth (rootList a.length P) i) := fun i hi => by
            rw [hF2 i hi, rootList, upTo_nth hi]
            unfold short
            rw [if_pos (by omega)]
          have hsl : SlcAt wr (some ⟨g, 0, none⟩) cap a.length (fun i => .int .i64 (nth (rootList a.length P) i)) := SlcAt.of_row_at hrow2 hcn hcm hFin
          have hints : Ints .i64 wr (.slice (some ⟨g, 0, none⟩) a.length cap) (rootList a.length P) := by
            have e : (rootList a.length P).length = a.length := upTo_len _ _
            refine ⟨_, cap, by rw [e], by rw [e]; exact hsl, fun i hi => ?_⟩
            rw [e] at hi
            have := root_le P i
            rw [rootList, upTo_nth hi]
            exact fits_small (by omega) (by omega)
          have Hints := Lib.hid hints
          clear hF2 hFin hsl hints
          subst hml
          go_wp2
          go_ret2
          exact ⟨_, _, rfl, Hints.out, join_done ha hb Hl.out HJ.out, hx2⟩

set_option maxRecDepth 100000 in
set_option maxHeartbeats 2000000 in
theorem join_zero (w : World) (v1 v2 : Value) (h : Ints .i64 w v1 []) (h' : Ints .i64 w v2 []) :
    Calls Tryd.prog 31 #[v1, v2] w fun e w' => ∃ v q, e = .returned (.tuple #[v, .int .i64 0]) ∧ Ints .i64 w' v q ∧ JoinSpec [] [] q ∧ Ext w w' := by
  have hmf : ∀ (fn : Fn) (first cap : Array Value) (w : World), (Instr.makeFunc fn first cap).run Tryd.prog w = .ok (.func fn first cap) w := fun _ _ _ _ => rfl
  have hok : pOk [] := fun i hi => absurd hi (by simp)
  have C1 := Lib.hid (both_ok w v1 v2 [] [] h h' rfl (by simp) hok hok)
  have C2 := Lib.hid (clone_own w v1 [] h (by simp))
  obtain ⟨A, c, rfl, hs, hf⟩ := h
  obtain ⟨A', c', rfl, hs', hf'⟩ := h'
  have hspec : JoinSpec [] [] [] := ⟨rfl, hok, fun i hi => absurd hi (by simp), fun i hi => absurd hi (by simp), fun _ _ _ i hi => absurd hi (by simp)⟩
  clear hs hs' hf hf'
  simp only [List.length_nil] at C1 C2
  go_enter Tryd.func31, Tryd.ntmps31
  go_wp2_with fail
  refine C1.out.mono ?_
  rintro e w1 ⟨rfl, rfl⟩
  go_wp2_with fail
  refine C2.out.mono ?_
  rintro e w1 ⟨v, rfl, hown, hx1⟩
  obtain ⟨B, d, rfl, hsl, _⟩ := own_slice hown (by omega)
  have hi : Ints .i64 (w1.alloc (.cells #[.slice B 0 d] 30)) (.slice B 0 d) [] := ⟨B, d, rfl, (hsl.ext ((Ext.refl w1).alloc _)).congr (fun i h => absurd h (by omega)), fun i h => absurd h (by simp)⟩
  have hx2 := hx1.alloc (.cells #[.slice B 0 d] 30)
  clear hown hsl hx1
  go_wp2
  refine wp_loop_rounds 1 ?_
  rw [rounds_succ]
  go_wp2
  refine wp_loop_rounds 1 ?_
  rw [rounds_succ]
  go_wp2
  go_ret2
  exact ⟨_, _, rfl, hi, hspec, hx2⟩

theorem join_any (w : World) (v1 v2 : Value) (a b : List Int) (h : Ints .i64 w v1 a) (h' : Ints .i64 w v2 b) (hl : a.length = b.length) (h64 : a.length ≤ 64) (ha : pOk a) (hb : pOk b) :
    Calls Tryd.prog 31 #[v1, v2] w fun e w' => ∃ v q, e = .returned (.tuple #[v, .int .i64 0]) ∧ Ints .i64 w' v q ∧ JoinSpec a b q ∧ Ext w w' := by
  by_cases h0 : 0 < a.length
  · exact join_ok w v1 v2 a b h h' hl h64 h0 ha hb
  · obtain rfl : a = [] := List.eq_nil_of_length_eq_zero (by omega)
    obtain rfl : b = [] := List.eq_nil_of_length_eq_zero (by omega)
    exact join_zero w v1 v2 h h'

end Go.Proofs.YtdlhfihddipjaacDoor
