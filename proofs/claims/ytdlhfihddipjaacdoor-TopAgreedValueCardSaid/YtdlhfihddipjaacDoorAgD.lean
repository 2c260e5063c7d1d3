/-
  The agreement texts: a prior in memory of the call's own; rows of different types lie in different blocks; what outlives an append.
-/
import Derived.Test.YtdlhfihddipjaacDoorAgC
namespace Go.Proofs.YtdlhfihddipjaacDoor
open Go.RowKit

theorem own_apart {w : World} {B B' e e' s s' n n' : Nat} {v v' : Value} {xs xs' : List Value} (h : w.ownsRow B e s v n xs) (h' : w.ownsRow B' e' s' v' n' xs') (he : e ≠ e') : v.ownBlock = none ∨ v.ownBlock ≠ v'.ownBlock := by
  rcases h.2 with ⟨rfl, _⟩ | ⟨g, cap, cur, rfl, _, hg, _⟩
  · exact .inl rfl
  refine .inr fun q => ?_
  rcases h'.2 with ⟨rfl, _⟩ | ⟨g', cap', cur', rfl, _, hg', _⟩
  · simp [Value.ownBlock] at q
  · simp [Value.ownBlock] at q
    subst q
    rw [hg] at hg'
    injection hg' with hg'
    injection hg' with _ h2
    exact he h2
theorem Zero.isSl {v : Value} (h : Zero v) : IsSl v := by
  obtain ⟨g, n, c, e⟩ := h
  exact ⟨_, _, _, e⟩
/-- A block that holds an integer in its first cell is not the block of a row that holds a slice there. -/
theorem own_block_ne2 {w : World} {base : Nat} {e : TypeId} {s : Nat} {o : Value} {n : Nat} {vals : List Value} (hown : w.ownsRow base e s o n vals) (h0 : 0 < n * s) (hv : IsSl (vals.getD 0 undef)) {g : Nat} {k : IntKind} {x : Int} (hc : w.cell? ⟨g, 0, none⟩ = some (.int k x)) : some g ≠ o.ownBlock := by
  intro q
  have hl : 0 < vals.length := by rw [hown.1]; exact h0
  have := hown.cells q.symm 0 (vals.getD 0 undef) (by simp [hl])
  rw [add_zeroOff, hc] at this
  injection this with this
  obtain ⟨A, m, c, hs⟩ := hv
  rw [hs] at this
  cases this
theorem Ints.grown2 {w w' : World} {base : Nat} {e : TypeId} {s : Nat} {o : Value} {n : Nat} {vals : List Value} {v : Value} {xs : List Int} (h : Ints .i64 w v xs) (hz : Zero v) (hown : w.ownsRow base e s o n vals) (h0 : 0 < n * s) (hv : IsSl (vals.getD 0 undef)) (hg : w.grownBy w' o.ownBlock) : Ints .i64 w' v xs := by
  obtain ⟨A, c, e1, hs, hf⟩ := h
  refine ⟨A, c, e1, ⟨hs.le, hs.cap, fun h1 => ?_⟩, hf⟩
  obtain ⟨ad, e2, hb, hc⟩ := hs.at_ h1
  obtain ⟨g, m, cap, e3⟩ := hz
  rw [e1, e2] at e3
  injection e3 with e3
  injection e3 with e3
  subst e3
  have hc0 := hc 0 h1
  rw [add_zeroOff] at hc0
  have hne := own_block_ne2 hown h0 hv hc0
  refine ⟨_, e2, Nat.lt_of_lt_of_le hb hg.size, fun i hi => ?_⟩
  rw [World.cell?_of_block (w := w) (by rw [addBlock]; exact hg.block g hb hne)]
  exact hc i hi

/-- A row of slices of the call's own that reads as a list of lists; each begins where its block begins. -/
def ORows (w : World) (base : Nat) (v : Value) (C : List (List Int)) : Prop :=
  ∃ vals, w.ownsRow base 30 1 v C.length vals ∧ ∀ j, j < C.length → Zero (vals.getD j undef) ∧ Ints .i64 w (vals.getD j undef) (nthL C j)
theorem ORows.ext {w w1 : World} {base : Nat} {v : Value} {C : List (List Int)} (h : ORows w base v C) (k : Ext w w1) : ORows w1 base v C := by
  obtain ⟨vals, h1, h2⟩ := h
  exact ⟨vals, own_ext24 h1 k, fun j hj => ⟨(h2 j hj).1, (h2 j hj).2.ext k⟩⟩
theorem ORows.rows {w : World} {base : Nat} {v : Value} {C : List (List Int)} (h : ORows w base v C) (hl : C.length ≤ 4) : Rows w v C := by
  obtain ⟨vals, h1, h2⟩ := h
  exact Rows.of_own h1 (by omega) rfl fun i hi => (h2 i hi).2
theorem ORows.isSl {w : World} {base : Nat} {v : Value} {C : List (List Int)} (h : ORows w base v C) : IsSl v := by
  obtain ⟨vals, h1, _⟩ := h
  rcases h1.2 with ⟨rfl, _⟩ | ⟨g, cap, cur, rfl, _⟩
  · exact ⟨_, _, _, rfl⟩
  · exact ⟨_, _, _, rfl⟩
/-- A prior in memory of the call's own. -/
structure OPr (w : World) (base : Nat) (v1 v2 : Value) (W : List Int) (C : List (List Int)) : Prop where
  wt : Ints .i64 w v1 W
  wz : Zero v1
  rows : ORows w base v2 C
theorem OPr.ext {w w1 : World} {base : Nat} {v1 v2 : Value} {W : List Int} {C : List (List Int)} (h : OPr w base v1 v2 W C) (k : Ext w w1) : OPr w1 base v1 v2 W C := ⟨h.wt.ext k, h.wz, h.rows.ext k⟩
theorem OPr.prior {w : World} {base : Nat} {v1 v2 : Value} {W : List Int} {C : List (List Int)} (h : OPr w base v1 v2 W C) (hl : C.length ≤ 4) : Prior w v1 v2 W C := ⟨h.wt, h.rows.rows hl⟩
/-- It outlives an append onto a row of priors. -/
theorem OPr.grown {w w' : World} {base : Nat} {v1 v2 : Value} {W : List Int} {C : List (List Int)} {b s n : Nat} {e : TypeId} {o : Value} {vals : List Value} (h : OPr w base v1 v2 W C) (hown : w.ownsRow b e s o n vals) (he : 30 ≠ e) (h0 : 0 < n * s) (hv : IsSl (vals.getD 0 undef)) (hg : w.grownBy w' o.ownBlock) : OPr w' base v1 v2 W C := by
  obtain ⟨vs, h1, h2⟩ := h.rows
  exact ⟨h.wt.grown2 h.wz hown h0 hv hg, h.wz, vs, h1.kept hg (own_apart h1 hown he), fun j hj => ⟨(h2 j hj).1, (h2 j hj).2.grown2 (h2 j hj).1 hown h0 hv hg⟩⟩

/-! ### a prior under construction -/
theorem Tryd.infoSl : (Tryd.prog.info? 30).map (fun i => (i.zero, i.size, i.bytes)) = some (some (.slice none 0 0), 1, 24) := by kernel_rfl

structure DRel (w : World) (g : Nat) (vW o : Value) (Q : List Int) (R : List (List Int)) (vals : List Value) : Prop where
  blk : SBlk w g 37 vW o
  own : w.ownsRow (g + 1) 30 1 o R.length vals
  nil : R.length = 0 → o = .slice none 0 0
  els : ∀ j, j < R.length → Zero (vals.getD j undef) ∧ Ints .i64 w (vals.getD j undef) (nthL R j)
  wt : Ints .i64 w vW Q
  wz : Zero vW
theorem DRel.ext {w w1 : World} {g : Nat} {vW o : Value} {Q : List Int} {R : List (List Int)} {vals : List Value} (h : DRel w g vW o Q R vals) (k : Ext w w1) : DRel w1 g vW o Q R vals :=
  ⟨h.blk.ext k, own_ext24 h.own k, h.nil, fun j hj => ⟨(h.els j hj).1, (h.els j hj).2.ext k⟩, h.wt.ext k, h.wz⟩
theorem DRel.isSl {w : World} {g : Nat} {vW o : Value} {Q : List Int} {R : List (List Int)} {vals : List Value} (h : DRel w g vW o Q R vals) : IsSl o := by
  rcases h.own.2 with ⟨e, _⟩ | ⟨g, cap, cur, e, _⟩
  · exact ⟨_, _, _, e⟩
  · exact ⟨_, _, _, e⟩
theorem DRel.start (w : World) (vW : Value) (Q : List Int) (hI : Ints .i64 w vW Q) (hz : Zero vW) : DRel (w.alloc (.cells #[vW, .slice none 0 0] 37)) w.heap.size vW (.slice none 0 0) Q [] [] :=
  ⟨SBlk.made _ _ _ _, World.ownsRow_nil _ _ _ _, fun _ => rfl, fun j hj => absurd hj (by simp), hI.ext ((Ext.refl w).alloc _), hz⟩
theorem getD_snoc (vals : List Value) (v : Value) (n : Nat) (h : vals.length = n) : (vals ++ [v]).getD n undef = v := by subst h; simp
theorem getD_pre (vals : List Value) (v : Value) (j : Nat) (h : j < vals.length) : (vals ++ [v]).getD j undef = vals.getD j undef := by simp [List.getElem?_append_left h]
theorem nthL_snoc (R : List (List Int)) (r : List Int) : nthL (R ++ [r]) R.length = r := by unfold nthL; simp
theorem nthL_pre (R : List (List Int)) (r : List Int) {j : Nat} (h : j < R.length) : nthL (R ++ [r]) j = nthL R j := by unfold nthL; simp [List.getElem?_append_left h]
theorem DRel.push {w w5 : World} {g : Nat} {vW o o5 v : Value} {Q r : List Int} {R : List (List Int)} {vals : List Value} {ob : Obj} (h : DRel w g vW o Q R vals) (hz : Zero v) (hI : Ints .i64 w v r)
    (hg : (w.alloc ob).grownBy w5 o.ownBlock) (hown : w5.ownsRow (g + 1) 30 1 o5 (R.length + 1) (vals ++ [v])) : DRel (w5.setCell ⟨g, 1, none⟩ o5) g vW o5 Q (R ++ [r]) (vals ++ [v]) := by
  have hl : vals.length = R.length := by have := h.own.1; omega
  have hx : Ext w (w.alloc ob) := (Ext.refl w).alloc ob
  have hv : ∀ i, i < R.length → IsSl (vals.getD i undef) := fun i hi => (h.els i hi).1.isSl
  have keep : ∀ u xs, Zero u → Ints .i64 w u xs → Ints .i64 (w5.setCell ⟨g, 1, none⟩ o5) u xs := fun u xs hu hi =>
    Ints.setBlk ((hi.ext hx).grown (fun _ => hu) (h.own.alloc ob) h.nil hv hg) ((h.blk.ext hx).grown (h.own.alloc ob) (by omega) hg) h.wz.isSl h.isSl 1 o5
  refine ⟨((h.blk.ext hx).grown (h.own.alloc ob) (by omega) hg).set1 o5, ?_, fun e => by simp at e, fun j hj => ?_, keep _ _ h.wz h.wt, h.wz⟩
  · have := own_setBlk hown (show g < g + 1 by omega) 1 o5
    simpa using this
  · by_cases e : j = R.length
    · subst e
      rw [getD_snoc _ _ _ hl, nthL_snoc]
      exact ⟨hz, keep _ _ hz hI⟩
    · have hj : j < R.length := by simp at hj; omega
      rw [getD_pre _ _ _ (by omega), nthL_pre _ _ hj]
      exact ⟨(h.els j hj).1, keep _ _ (h.els j hj).1 (h.els j hj).2⟩
theorem SBlk.set0 {w : World} {g : Nat} {t : TypeId} {a b : Value} (h : SBlk w g t a b) (u : Value) : SBlk (w.setCell ⟨g, 0, none⟩ u) g t u b :=
  (World.rowIs.set h 0 u).congr fun i hi => by
    have : i = 0 ∨ i = 1 := by omega
    rcases this with rfl | rfl <;> rfl
theorem OPr.setBlk {w : World} {base g : Nat} {a b v1 v2 : Value} {t : TypeId} {W : List Int} {C : List (List Int)} (h : OPr w base v1 v2 W C) (hr : SBlk w g t a b) (ha : IsSl a) (hb : IsSl b) (hg : g < base) (o : Nat) (u : Value) : OPr (w.setCell ⟨g, o, none⟩ u) base v1 v2 W C := by
  obtain ⟨vs, h1, h2⟩ := h.rows
  exact ⟨h.wt.setBlk hr ha hb o u, h.wz, vs, own_setBlk h1 hg o u, fun j hj => ⟨(h2 j hj).1, (h2 j hj).2.setBlk hr ha hb o u⟩⟩
theorem own_mono24 {w : World} {base base' : Nat} {e : TypeId} {size : Nat} {v : Value} {n : Nat} {xs : List Value} (h : w.ownsRow base e size v n xs) (hb : base' ≤ base) : w.ownsRow base' e size v n xs := by
  obtain ⟨h1, h2⟩ := h
  refine ⟨h1, ?_⟩
  rcases h2 with h2 | ⟨g, cap, cur, hv, hg, r⟩
  · exact .inl h2
  · exact .inr ⟨g, cap, cur, hv, Nat.le_trans hb hg, r⟩
theorem OPr.low {w : World} {base : Nat} {v1 v2 : Value} {W : List Int} {C : List (List Int)} (h : OPr w base v1 v2 W C) : OPr w 0 v1 v2 W C := by
  obtain ⟨vs, h1, h2⟩ := h.rows
  exact ⟨h.wt, h.wz, vs, own_mono24 h1 (Nat.zero_le _), h2⟩
/-- The prior that was built, behind the stores into the result's cell. -/
theorem DRel.done {w : World} {g q : Nat} {vW o a b : Value} {Q : List Int} {R : List (List Int)} {vals : List Value} {t : TypeId} (h : DRel w g vW o Q R vals) (hr : SBlk w q t a b) (ha : IsSl a) (hb : IsSl b) (hq : q < g) : OPr ((w.setCell ⟨q, 0, none⟩ vW).setCell ⟨q, 1, none⟩ o) 0 vW o Q R := by
  have h0 : OPr w (g + 1) vW o Q R := ⟨h.wt, h.wz, vals, h.own, h.els⟩
  exact ((h0.setBlk hr ha hb (by omega) 0 vW).setBlk (hr.set0 vW) h.wz.isSl hb (by omega) 1 o).low
/-- A prior of the call's own outlives the stores into a struct of slices. -/
theorem own_setTy {w : World} {base g : Nat} {e : TypeId} {size : Nat} {v : Value} {n : Nat} {xs : List Value} {t : TypeId} {a b : Value} (h : w.ownsRow base e size v n xs) (hr : SBlk w g t a b) (he : e ≠ t) (o : Nat) (u : Value) : (w.setCell ⟨g, o, none⟩ u).ownsRow base e size v n xs := by
  obtain ⟨h1, h2⟩ := h
  refine ⟨h1, ?_⟩
  rcases h2 with h2 | ⟨g', cap, cur, hv, hg', hh, r⟩
  · exact .inl h2
  · have hne : g' ≠ g := fun q => by
      subst q
      obtain ⟨cs, hk, _⟩ := hr
      rw [hh] at hk
      injection hk with hk
      injection hk with _ h3
      exact he h3
    exact .inr ⟨g', cap, cur, hv, hg', (Below.heap_setCell _ _ _ _ hne).trans hh, r⟩
theorem OPr.setTy {w : World} {base g : Nat} {a b v1 v2 : Value} {W : List Int} {C : List (List Int)} (h : OPr w base v1 v2 W C) (hr : SBlk w g 37 a b) (ha : IsSl a) (hb : IsSl b) (o : Nat) (u : Value) : OPr (w.setCell ⟨g, o, none⟩ u) base v1 v2 W C := by
  obtain ⟨vs, h1, h2⟩ := h.rows
  exact ⟨h.wt.setBlk hr ha hb o u, h.wz, vs, own_setTy h1 hr (by decide) o u, fun j hj => ⟨(h2 j hj).1, (h2 j hj).2.setBlk hr ha hb o u⟩⟩
theorem OPr.store {w : World} {base q : Nat} {a b v1 v2 : Value} {W : List Int} {C : List (List Int)} (h : OPr w base v1 v2 W C) (hr : SBlk w q 37 a b) (ha : IsSl a) (hb : IsSl b) : OPr ((w.setCell ⟨q, 0, none⟩ v1).setCell ⟨q, 1, none⟩ v2) base v1 v2 W C :=
  (h.setTy hr ha hb 0 v1).setTy (hr.set0 v1) h.wz.isSl hb 1 v2
/-- What the result's cell holds then. -/
theorem SBlk.full {w : World} {q : Nat} {a b x y : Value} {t : TypeId} (h : SBlk w q t a b) : SBlk ((w.setCell ⟨q, 0, none⟩ x).setCell ⟨q, 1, none⟩ y) q t x y := (h.set0 x).set1 y

/-! ### slices of priors with one list of weights -/
def nthC (css : List (List (List Int))) (k : Nat) : List (List Int) := css.getD k []
theorem nthC_eq {css : List (List (List Int))} {k : Nat} (h : k < css.length) : nthC css k = css[k] := by unfold nthC; simp [h]
def Pris (w : World) (v : Value) (W : List Int) (css : List (List (List Int))) : Prop :=
  ∃ A c, v = .slice A css.length c ∧ css.length ≤ c ∧ c ≤ 9223372036854775807 ∧
    (0 < css.length → ∃ ad, A = some ad ∧ ad.block < w.heap.size ∧ ∀ i, i < css.length → ∃ v1 v2, w.cell? (ad.add (i * 2)) = some v1 ∧ w.cell? ((ad.add (i * 2)).add 1) = some v2 ∧ w.cell? ⟨(ad.add (i * 2)).block, (ad.add (i * 2)).off + 1, none⟩ = some v2 ∧ Prior w v1 v2 W (nthC css i))
theorem Pris.ext {w w1 : World} {v : Value} {W : List Int} {css : List (List (List Int))} (h : Pris w v W css) (k : Ext w w1) : Pris w1 v W css := by
  obtain ⟨A, c, e, h1, h2, h3⟩ := h
  refine ⟨A, c, e, h1, h2, fun h0 => ?_⟩
  obtain ⟨ad, e1, hb, hc⟩ := h3 h0
  refine ⟨ad, e1, Nat.lt_of_lt_of_le hb k.size, fun i hi => ?_⟩
  obtain ⟨v1, v2, c1, c2, c3, hp⟩ := hc i hi
  exact ⟨v1, v2, (k.cell (by rw [addBlock]; exact hb)).trans c1, (k.cell (by rw [addBlock, addBlock]; exact hb)).trans c2, (k.cell (by show (ad.add (i * 2)).block < _; rw [addBlock]; exact hb)).trans c3, hp.ext k⟩
theorem Pris.nil (w : World) (W : List Int) : Pris w (.slice none 0 0) W [] := ⟨none, 0, rfl, Nat.le_refl _, by omega, fun h => absurd h (by simp)⟩
theorem Pris.get {w : World} {A : Option Addr} {n c : Nat} {W : List Int} {css : List (List (List Int))} (h : Pris w (.slice A n c) W css) {i : Nat} (hi : i < css.length) :
    ∃ ad v1 v2, A = some ad ∧ ad.block < w.heap.size ∧ w.cell? (ad.add (i * 2)) = some v1 ∧ w.cell? ((ad.add (i * 2)).add 1) = some v2 ∧ w.cell? ⟨(ad.add (i * 2)).block, (ad.add (i * 2)).off + 1, none⟩ = some v2 ∧ Prior w v1 v2 W (nthC css i) := by
  obtain ⟨A', c', e, h1, h2, h3⟩ := h
  injection e with e1 e2 e3
  subst e1
  obtain ⟨ad, ea, hb, hc⟩ := h3 (by omega)
  obtain ⟨v1, v2, r⟩ := hc i hi
  exact ⟨ad, v1, v2, ea, hb, r⟩
/-- A row of priors of the call's own. -/
def priCells (ps : List (Value × Value)) : List Value := ps.flatMap fun p => [p.1, p.2]
theorem priCells_len (ps : List (Value × Value)) : (priCells ps).length = 2 * ps.length := by
  induction ps with
  | nil => rfl
  | cons p ps ih => simp [priCells] at ih ⊢; omega
theorem priCells_append (ps qs : List (Value × Value)) : priCells (ps ++ qs) = priCells ps ++ priCells qs := by simp [priCells]
theorem priCells_at (ps : List (Value × Value)) : ∀ i, i < ps.length → (priCells ps)[2 * i]? = some (ps.getD i (undef, undef)).1 ∧ (priCells ps)[2 * i + 1]? = some (ps.getD i (undef, undef)).2 := by
  induction ps with
  | nil => intro i hi; simp at hi
  | cons p ps ih =>
    intro i hi
    have e : priCells (p :: ps) = p.1 :: p.2 :: priCells ps := rfl
    cases i with
    | zero => rw [e]; simp
    | succ i =>
      have := ih i (by simpa using hi)
      rw [e, show 2 * (i + 1) = 2 * i + 1 + 1 from by omega]
      simpa using this
theorem Pris.of_own {w : World} {base : Nat} {e : TypeId} {v : Value} {W : List Int} {css : List (List (List Int))} {ps : List (Value × Value)} (h : w.ownsRow base e 2 v css.length (priCells ps)) (hn : css.length ≤ 9223372036854775807) (hp : ∀ i, i < css.length → Prior w (ps.getD i (undef, undef)).1 (ps.getD i (undef, undef)).2 W (nthC css i)) : Pris w v W css := by
  have hl : ps.length = css.length := by
    have h1 := h.1
    rw [priCells_len] at h1; omega
  have hcells := fun g hg => h.cells (g := g) hg
  rcases h.2 with ⟨rfl, h0⟩ | ⟨g, cap, cur, rfl, hb, hh, hnc, hcm, hsz, htk⟩
  · refine ⟨none, 0, by rw [h0], by omega, by omega, fun h1 => by omega⟩
  · refine ⟨_, cap, rfl, hnc, by unfold maxLen at hcm; exact hcm, fun h0 => ⟨⟨g, 0, none⟩, rfl, (Array.getElem?_eq_some_iff.1 hh).1, fun i hi => ?_⟩⟩
    obtain ⟨k1, k2⟩ := priCells_at ps i (by omega)
    have c1 := hcells g rfl _ _ k1
    have c2 := hcells g rfl _ _ k2
    rw [add_zeroOff] at c1 c2
    have ea : (⟨g, 0, none⟩ : Addr).add (i * 2) = ⟨g, 2 * i, none⟩ := by rw [add_zeroOff, Nat.mul_comm]
    have eb : (⟨g, 2 * i, none⟩ : Addr).add 1 = ⟨g, 2 * i + 1, none⟩ := by simp [Addr.add]
    refine ⟨_, _, by rw [ea]; exact c1, by rw [ea, eb]; exact c2, by rw [ea]; exact c2, hp i hi⟩

end Go.Proofs.YtdlhfihddipjaacDoor
