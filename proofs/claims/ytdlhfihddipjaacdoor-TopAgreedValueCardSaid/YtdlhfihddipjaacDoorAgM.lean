/-
  The agreement texts: relations of partitions, models under construction.
-/
import Derived.Test.YtdlhfihddipjaacDoorAgD
import Derived.Test.YtdlhfihddipjaacDoorPart4
import Derived.Test.YtdlhfihddipjaacDoorRef3
import Derived.Test.YtdlhfihddipjaacDoorAg1r
import Derived.OwnWalk
import Derived.Deep.RegionLaw
namespace Go.Proofs.YtdlhfihddipjaacDoor
open Go.RowKit

set_option maxHeartbeats 1000000 in
theorem relation0_ok (w : World) (v : Value) (p : List Int) (h : Ints .i64 w v p) (h64 : p.length ≤ 64) (hp : pOk p) :
    Calls Tryd.prog 33 #[v] w fun e w' => ∃ v', e = .returned v' ∧ Sets w' v' (relOf p) ∧ Zero v' ∧ Ext w w' := by
  have C1 := Lib.hid (pcheck_ok w v p h h64 hp)
  obtain ⟨A, c, rfl, hs, hf⟩ := h
  have hle := hs.le
  have hcap := hs.cap
  have hmk := run_make_row' (P := Tryd.prog) 25 22 (.int .u64 0) 8 Tryd.underlying25 Tryd.infoU64 rfl .i64 .i64 p.length (by omega) (by omega)
  have hx0 := Ext.refl w
  go_enter Tryd.func33, Tryd.ntmps33
  go_wp2_with fail
  refine C1.out.mono ?_
  rintro e w1 ⟨rfl, rfl⟩
  go_wp2
  go_loopw [17] (fun i wr => ∃ k : Nat, k ≤ p.length ∧ i = .int .i64 k ∧ wr.rowIs w.heap.size 22 p.length (fun l => .int .u64 (maskTo (fun j => nth p j == (l : Int)) k : Nat)) ∧ Ext w wr) (fun i _ => p.length - (intOf i).toNat)
  case atStart => exact ⟨0, Nat.zero_le _, rfl, (made_row w _ _ _).congr (fun i hi => rfl), hx0.alloc _⟩
  case round =>
    obtain ⟨k, hk, rfl, hrow, hx⟩ := hrel
    by_cases hlt : k < p.length
    · have hpk := pOk_le hp hlt
      obtain ⟨ad, rfl, hb2, hc⟩ := (hs.ext hx).get hlt
      obtain ⟨l, hl⟩ : ∃ l : Nat, nth p k = (l : Int) := ⟨(nth p k).toNat, by omega⟩
      rw [hl] at hc
      have hlk : l ≤ k := by omega
      have Hl := Lib.hid hl
      clear hl hpk
      have hcr := hrow.cell (i := l) (by omega)
      have hfz := hrow.frozen l
      have hor := u64_or_pow (maskTo (fun j => nth p j == (l : Int)) k) k (maskTo_lt64 _ (by omega)) (by omega)
      go_wp2
      go_region
      go_wp2
      go_roundw
      case rel =>
        refine ⟨k + 1, by omega, by go_num, (hrow.set l _).drew.congr (fun i hi => ?_), (hx.setCell (Nat.le_refl _) _).drew⟩
        by_cases e : i = l
        · subst e
          simp [maskTo_succ, Hl.out]
        · simp only [e, if_false]
          rw [maskTo_succ, if_neg (by rw [Hl.out]; simp; omega), Nat.or_zero]
      case measure => simp [intOf]; omega
    · obtain rfl : k = p.length := by omega
      obtain ⟨wo, rfl⟩ : ∃ wo : World, wo = wr := ⟨_, rfl⟩
      obtain ⟨g2, hg2⟩ : ∃ g2, g2 = wo.heap.size := ⟨_, rfl⟩
      have hg12 : w.heap.size < g2 := by rw [hg2]; exact hrow.lt
      have H2 := Lib.hid hg2
      have hm2 := made_row wo p.length 22 (.int .u64 0)
      rw [← hg2] at hm2
      clear hg2
      go_wp2
      rw [← H2.out]
      go_loopw [36] (fun i w2 => ∃ k : Nat, k ≤ p.length ∧ i = .int .i64 k ∧ w2.rowIs g2 22 p.length (fun l => .int .u64 ((if l < k then blockOf p l else 0 : Nat) : Int)) ∧
        w2.rowIs w.heap.size 22 p.length (fun l => .int .u64 (maskTo (fun j => nth p j == (l : Int)) p.length : Nat)) ∧ Ext w w2) (fun i _ => p.length - (intOf i).toNat)
      case atStart => exact ⟨0, Nat.zero_le _, rfl, hm2.congr (fun i hi => by simp), hrow.alloc _, hx.alloc _⟩
      case round =>
        obtain ⟨k, hk2, rfl, hr2, hr1, hx2⟩ := hrel
        by_cases hlt : k < p.length
        · have hpk := pOk_le hp hlt
          obtain ⟨ad, rfl, hb2, hc⟩ := (hs.ext hx2).get hlt
          obtain ⟨l, hl⟩ : ∃ l : Nat, nth p k = (l : Int) := ⟨(nth p k).toNat, by omega⟩
          rw [hl] at hc
          have hlk : l ≤ k := by omega
          have Hl := Lib.hid hl
          clear hl hpk
          have hcr := hr1.cell (i := l) (by omega)
          have hc2 := hr2.cell hlt
          rw [if_neg (Nat.lt_irrefl k)] at hc2
          have hfz := hr2.frozen k
          go_wp2
          go_roundw
          case rel =>
            refine ⟨k + 1, by omega, by go_num, (hr2.set k _).congr (fun i hi => ?_), hr1.setOther (by show w.heap.size ≠ g2; omega) _, hx2.setCell (by show w.heap.size ≤ g2; omega) _⟩
            by_cases e : i = k
            · subst e
              simp only [if_true, Nat.lt_succ_self]
              unfold blockOf
              rw [Hl.out]
            · simp only [e, if_false, Nat.lt_succ_iff_lt_or_eq, or_false]
          case measure => simp [intOf]; omega
        · obtain rfl : k = p.length := by omega
          go_wp2
          go_ret
          refine ⟨_, rfl, Sets.of_row (hr2.congr fun i hi => ?_) (relOf_len p) (by omega) (fun i hi => ?_), ⟨_, _, _, rfl⟩, hx2⟩
          · rw [relOf_nth hi, if_pos hi]
          · rw [relOf_len] at hi
            rw [relOf_nth hi]; exact blockOf_lt p i h64

/-- The sets of the blocks of the first points. -/
def relTo (p : List Int) (k : Nat) : List Nat := (List.range k).map (blockOf p)
theorem relTo_len (p : List Int) (k : Nat) : (relTo p k).length = k := by simp [relTo]
theorem relTo_succ (p : List Int) (k : Nat) : relTo p (k + 1) = relTo p k ++ [blockOf p k] := by simp [relTo, List.range_succ]
theorem relTo_all (p : List Int) : relTo p p.length = relOf p := rfl

def MBlk (w : World) (g : Nat) (t : TypeId) (x y z : Value) : Prop := w.rowIs g t 3 (fun i => if i = 0 then x else if i = 1 then y else z)
theorem three {i : Nat} (h : i < 3) : i = 0 ∨ i = 1 ∨ i = 2 := by omega
theorem MBlk.made (w : World) (x y z : Value) (t : TypeId) : MBlk (w.alloc (.cells #[x, y, z] t)) w.heap.size t x y z :=
  World.rowIs_alloc w #[x, y, z] t (fun i => if i = 0 then x else if i = 1 then y else z) (fun i hi => by
    rcases three (show i < 3 by simpa using hi) with rfl | rfl | rfl <;> rfl)
theorem MBlk.ext {w w1 : World} {g : Nat} {t : TypeId} {x y z : Value} (h : MBlk w g t x y z) (k : Ext w w1) : MBlk w1 g t x y z := World.rowIs.of_block h (k.block g (World.rowIs.lt h))
theorem MBlk.c0 {w : World} {g : Nat} {t : TypeId} {x y z : Value} (h : MBlk w g t x y z) : w.cell? ⟨g, 0, none⟩ = some x := World.rowIs.cell h (by decide : 0 < 3)
theorem MBlk.c1 {w : World} {g : Nat} {t : TypeId} {x y z : Value} (h : MBlk w g t x y z) : w.cell? ⟨g, 1, none⟩ = some y := World.rowIs.cell h (by decide : 1 < 3)
theorem MBlk.c2 {w : World} {g : Nat} {t : TypeId} {x y z : Value} (h : MBlk w g t x y z) : w.cell? ⟨g, 2, none⟩ = some z := World.rowIs.cell h (by decide : 2 < 3)
theorem MBlk.s0 {w : World} {g : Nat} {t : TypeId} {x y z : Value} (h : MBlk w g t x y z) (u : Value) : MBlk (w.setCell ⟨g, 0, none⟩ u) g t u y z :=
  (World.rowIs.set h 0 u).congr fun i hi => by rcases three hi with rfl | rfl | rfl <;> rfl
theorem MBlk.s1 {w : World} {g : Nat} {t : TypeId} {x y z : Value} (h : MBlk w g t x y z) (u : Value) : MBlk (w.setCell ⟨g, 1, none⟩ u) g t x u z :=
  (World.rowIs.set h 1 u).congr fun i hi => by rcases three hi with rfl | rfl | rfl <;> rfl
theorem MBlk.s2 {w : World} {g : Nat} {t : TypeId} {x y z : Value} (h : MBlk w g t x y z) (u : Value) : MBlk (w.setCell ⟨g, 2, none⟩ u) g t x y u :=
  (World.rowIs.set h 2 u).congr fun i hi => by rcases three hi with rfl | rfl | rfl <;> rfl
theorem MBlk.grown {w w' : World} {base : Nat} {e : TypeId} {o : Value} {n : Nat} {vals : List Value} {g : Nat} {t : TypeId} {x y z : Value} (h : MBlk w g t x y z) (hown : w.ownsRow base e 1 o n vals) (hb : g < base) (hg : w.grownBy w' o.ownBlock) : MBlk w' g t x y z :=
  World.rowIs.of_block h (hg.block g (World.rowIs.lt h) fun q => by have := (hown.lt g q.symm).1; omega)
/-- A slice of sets outlives a store into a block whose first cell is an 'int'. -/
theorem Sets.setM {w : World} {g : Nat} {t : TypeId} {n : Int} {y z v : Value} {xs : List Nat} (h : Sets w v xs) (hz : Zero v) (hr : MBlk w g t (.int .i64 n) y z) (o : Nat) (u : Value) : Sets (w.setCell ⟨g, o, none⟩ u) v xs := by
  obtain ⟨A, c, e, hs, hf⟩ := h
  refine ⟨A, c, e, ⟨hs.le, hs.cap, fun h0 => ?_⟩, hf⟩
  obtain ⟨ad, e1, hbk, hc⟩ := hs.at_ h0
  obtain ⟨g', m, cap, e3⟩ := hz
  rw [e, e1] at e3
  injection e3 with e3
  injection e3 with e3
  subst e3
  have hc0 := hc 0 h0
  rw [add_zeroOff] at hc0
  have hne : g ≠ g' := fun q => by
    subst q
    rw [hr.c0] at hc0
    injection hc0 with hc0
    injection hc0 with hc0 _
    cases hc0
  refine ⟨_, e1, by rw [World.size_setCell]; exact hbk, fun i hi => ?_⟩
  rw [World.cell?_setCell_far _ _ _ _ (by rw [addBlock]; exact hne)]
  exact hc i hi
theorem Sets.grown {w w' : World} {base : Nat} {e : TypeId} {o : Value} {n : Nat} {vals : List Value} {v : Value} {xs : List Nat} (h : Sets w v xs) (hz : Zero v) (hown : w.ownsRow base e 1 o n vals) (hn : n = 0 → o = .slice none 0 0) (hv : ∀ i, i < n → IsSl (vals.getD i undef)) (hg : w.grownBy w' o.ownBlock) : Sets w' v xs := by
  obtain ⟨A, c, e1, hs, hf⟩ := h
  refine ⟨A, c, e1, ⟨hs.le, hs.cap, fun h0 => ?_⟩, hf⟩
  obtain ⟨ad, e2, hb, hc⟩ := hs.at_ h0
  obtain ⟨g, m, cap, e3⟩ := hz
  rw [e1, e2] at e3
  injection e3 with e3
  injection e3 with e3
  subst e3
  have hc0 := hc 0 h0
  rw [add_zeroOff] at hc0
  have hne := own_block_ne hown hn hv hc0
  refine ⟨_, e2, Nat.lt_of_lt_of_le hb hg.size, fun i hi => ?_⟩
  rw [World.cell?_of_block (w := w) (by rw [addBlock]; exact hg.block g hb hne)]
  exact hc i hi

/-! ### slices of slices of sets; models -/
def nthR (rs : List (List Nat)) (k : Nat) : List Nat := rs.getD k []
theorem nthR_eq {rs : List (List Nat)} {k : Nat} (h : k < rs.length) : nthR rs k = rs[k] := by unfold nthR; simp [h]
theorem nthR_snoc (R : List (List Nat)) (r : List Nat) : nthR (R ++ [r]) R.length = r := by unfold nthR; simp
theorem nthR_pre (R : List (List Nat)) (r : List Nat) {j : Nat} (h : j < R.length) : nthR (R ++ [r]) j = nthR R j := by unfold nthR; simp [List.getElem?_append_left h]
theorem ext_nthR {p q : List (List Nat)} (hl : p.length = q.length) (h : ∀ k, k < p.length → nthR p k = nthR q k) : p = q := by
  refine List.ext_getElem hl fun k h1 h2 => ?_
  have := h k h1
  rwa [nthR_eq h1, nthR_eq h2] at this
def SRows (w : World) (v : Value) (rs : List (List Nat)) : Prop :=
  ∃ A c vs, v = .slice A rs.length c ∧ SlcAt w A c rs.length vs ∧ ∀ i, i < rs.length → Sets w (vs i) (nthR rs i)
theorem SRows.ext {w w1 : World} {v : Value} {rs : List (List Nat)} (h : SRows w v rs) (k : Ext w w1) : SRows w1 v rs := by
  obtain ⟨A, c, vs, e, hs, hi⟩ := h
  exact ⟨A, c, vs, e, hs.ext k, fun i hi' => (hi i hi').ext k⟩
theorem SRows.nil (w : World) : SRows w (.slice none 0 0) [] := ⟨none, 0, fun _ => undef, rfl, SlcAt.nil _ _, fun i h => absurd h (by simp)⟩
theorem SRows.get {w : World} {A : Option Addr} {n c : Nat} {rs : List (List Nat)} (h : SRows w (.slice A n c) rs) {i : Nat} (hi : i < rs.length) :
    ∃ ad A' c', A = some ad ∧ ad.block < w.heap.size ∧ w.cell? (ad.add i) = some (.slice A' (nthR rs i).length c') ∧ (nthR rs i).length ≤ c' ∧ c' ≤ 9223372036854775807 ∧ Sets w (.slice A' (nthR rs i).length c') (nthR rs i) := by
  obtain ⟨A0, c0, vs, e, hs, hI⟩ := h
  injection e with e1 e2 e3
  subst e1
  obtain ⟨ad, e, hb, hc⟩ := hs.get hi
  have h1 := hI i hi
  have h2 := h1
  obtain ⟨A', c', e', hs', _⟩ := h1
  rw [e'] at hc h2
  exact ⟨ad, A', c', e, hb, hc, hs'.le, hs'.cap, h2⟩
/-- A model in memory. -/
def Mdl (w : World) (x y z : Value) (n : Int) (V : List Nat) (R : List (List Nat)) : Prop := x = .int .i64 n ∧ Sets w y V ∧ SRows w z R
theorem Mdl.ext {w w1 : World} {x y z : Value} {n : Int} {V : List Nat} {R : List (List Nat)} (h : Mdl w x y z n V R) (k : Ext w w1) : Mdl w1 x y z n V R := ⟨h.1, h.2.1.ext k, h.2.2.ext k⟩
theorem Tryd.infoSlU : (Tryd.prog.info? 25).map (fun i => (i.zero, i.size, i.bytes)) = some (some (.slice none 0 0), 1, 24) := by kernel_rfl
/-- A model under construction. -/
structure MRel (w : World) (g : Nat) (n : Int) (o : Value) (R : List (List Nat)) (vals : List Value) : Prop where
  blk : MBlk w g 42 (.int .i64 n) (.slice none 0 0) o
  own : w.ownsRow (g + 1) 25 1 o R.length vals
  nil : R.length = 0 → o = .slice none 0 0
  els : ∀ j, j < R.length → Zero (vals.getD j undef) ∧ Sets w (vals.getD j undef) (nthR R j)
theorem MRel.ext {w w1 : World} {g : Nat} {n : Int} {o : Value} {R : List (List Nat)} {vals : List Value} (h : MRel w g n o R vals) (k : Ext w w1) : MRel w1 g n o R vals :=
  ⟨h.blk.ext k, own_ext24 h.own k, h.nil, fun j hj => ⟨(h.els j hj).1, (h.els j hj).2.ext k⟩⟩
theorem MRel.isSl {w : World} {g : Nat} {n : Int} {o : Value} {R : List (List Nat)} {vals : List Value} (h : MRel w g n o R vals) : IsSl o := by
  rcases h.own.2 with ⟨e, _⟩ | ⟨g, cap, cur, e, _⟩
  · exact ⟨_, _, _, e⟩
  · exact ⟨_, _, _, e⟩
theorem MRel.start (w : World) (n : Int) : MRel (w.alloc (.cells #[.int .i64 n, .slice none 0 0, .slice none 0 0] 42)) w.heap.size n (.slice none 0 0) [] [] :=
  ⟨MBlk.made _ _ _ _ _, World.ownsRow_nil _ _ _ _, fun _ => rfl, fun j hj => absurd hj (by simp)⟩
theorem MRel.push {w w5 : World} {g : Nat} {n : Int} {o o5 v : Value} {r : List Nat} {R : List (List Nat)} {vals : List Value} {ob : Obj} (h : MRel w g n o R vals) (hz : Zero v) (hI : Sets w v r)
    (hg : (w.alloc ob).grownBy w5 o.ownBlock) (hown : w5.ownsRow (g + 1) 25 1 o5 (R.length + 1) (vals ++ [v])) : MRel (w5.setCell ⟨g, 2, none⟩ o5) g n o5 (R ++ [r]) (vals ++ [v]) := by
  have hl : vals.length = R.length := by have := h.own.1; omega
  have hx : Ext w (w.alloc ob) := (Ext.refl w).alloc ob
  have hv : ∀ i, i < R.length → IsSl (vals.getD i undef) := fun i hi => (h.els i hi).1.isSl
  have hb5 := (h.blk.ext hx).grown (h.own.alloc ob) (by omega) hg
  have keep : ∀ u xs, Zero u → Sets w u xs → Sets (w5.setCell ⟨g, 2, none⟩ o5) u xs := fun u xs hu hi =>
    Sets.setM ((hi.ext hx).grown hu (h.own.alloc ob) h.nil hv hg) hu hb5 2 o5
  refine ⟨hb5.s2 o5, ?_, fun e => by simp at e, fun j hj => ?_⟩
  · have := own_setBlk hown (show g < g + 1 by omega) 2 o5
    simpa using this
  · by_cases e : j = R.length
    · subst e
      rw [getD_snoc _ _ _ hl, nthR_snoc]
      exact ⟨hz, keep _ _ hz hI⟩
    · have hj : j < R.length := by simp at hj; omega
      rw [getD_pre _ _ _ (by omega), nthR_pre _ _ hj]
      exact ⟨(h.els j hj).1, keep _ _ (h.els j hj).1 (h.els j hj).2⟩
/-- The model that was built, behind the stores into the result's cell. -/
theorem MRel.done {w : World} {g q : Nat} {n m : Int} {o y z : Value} {R : List (List Nat)} {vals : List Value} {t : TypeId} (h : MRel w g n o R vals) (hr : MBlk w q t (.int .i64 m) y z) (hq : q < g) (hR : R.length ≤ 1000) :
    SRows (((w.setCell ⟨q, 0, none⟩ (.int .i64 n)).setCell ⟨q, 1, none⟩ (.slice none 0 0)).setCell ⟨q, 2, none⟩ o) o R := by
  have h1 := hr.s0 (.int .i64 n)
  have h2 := h1.s1 (.slice none 0 0)
  have hown := own_setBlk (own_setBlk (own_setBlk h.own (show q < g + 1 by omega) 0 (.int .i64 n)) (show q < g + 1 by omega) 1 (.slice none 0 0)) (show q < g + 1 by omega) 2 o
  obtain ⟨A, c, e, hs, _⟩ := own_slice hown (by omega)
  exact ⟨A, c, _, e, hs, fun i hi => (((h.els i hi).2.setM (h.els i hi).1 hr 0 _).setM (h.els i hi).1 h1 1 _).setM (h.els i hi).1 h2 2 _⟩
theorem MBlk.full {w : World} {q : Nat} {a b c x y z : Value} {t : TypeId} (h : MBlk w q t a b c) : MBlk (((w.setCell ⟨q, 0, none⟩ x).setCell ⟨q, 1, none⟩ y).setCell ⟨q, 2, none⟩ z) q t x y z := ((h.s0 x).s1 y).s2 z

end Go.Proofs.YtdlhfihddipjaacDoor
