/-
  Words for memory, over any program: slices that read as lists, rows of the call's own, how such readings are kept. No statement of the program is proved here.
-/
import Derived.WalkKit
import Derived.Lib.Hide
import Derived.WalkSmall
import Derived.WalkSpells
import Derived.WalkLawsBesides
import Derived.Deep.OwnRows
import Derived.Deep.Draws
import Derived.Laws.Rows
namespace Go.Proofs.YtdlhfihddipjaacDoor
open Go.RowKit

/-! ### lists -/
def nth (p : List Int) (k : Nat) : Int := p.getD k 0
def nthN (p : List Nat) (k : Nat) : Nat := p.getD k 0

theorem nth_eq {p : List Int} {k : Nat} (h : k < p.length) : nth p k = p[k] := by
  unfold nth; simp [h]
theorem nthN_eq {p : List Nat} {k : Nat} (h : k < p.length) : nthN p k = p[k] := by
  unfold nthN; simp [h]
theorem nth_mem {p : List Int} {k : Nat} (h : k < p.length) : nth p k ∈ p := by
  rw [nth_eq h]; exact List.getElem_mem h
theorem nthN_mem {p : List Nat} {k : Nat} (h : k < p.length) : nthN p k ∈ p := by
  rw [nthN_eq h]; exact List.getElem_mem h
theorem ext_nth {p q : List Int} (hl : p.length = q.length) (h : ∀ k, k < p.length → nth p k = nth q k) : p = q := by
  refine List.ext_getElem hl fun k h1 h2 => ?_
  have := h k h1
  rwa [nth_eq h1, nth_eq h2] at this
theorem ext_nthN {p q : List Nat} (hl : p.length = q.length) (h : ∀ k, k < p.length → nthN p k = nthN q k) : p = q := by
  refine List.ext_getElem hl fun k h1 h2 => ?_
  have := h k h1
  rwa [nthN_eq h1, nthN_eq h2] at this
theorem nth_ofFn (n : Nat) (f : Nat → Int) (k : Nat) (h : k < n) : nth ((List.range n).map f) k = f k := by
  rw [nth_eq (by simpa using h)]; simp
theorem nthN_ofFn (n : Nat) (f : Nat → Nat) (k : Nat) (h : k < n) : nthN ((List.range n).map f) k = f k := by
  rw [nthN_eq (by simpa using h)]; simp
theorem nth_append_left {p q : List Int} {k : Nat} (h : k < p.length) : nth (p ++ q) k = nth p k := by
  rw [nth_eq (by simp; omega), nth_eq h, List.getElem_append_left h]
theorem nth_append_last (p : List Int) (x : Int) : nth (p ++ [x]) p.length = x := by
  rw [nth_eq (by simp)]; simp
theorem nthN_append_left {p q : List Nat} {k : Nat} (h : k < p.length) : nthN (p ++ q) k = nthN p k := by
  rw [nthN_eq (by simp; omega), nthN_eq h, List.getElem_append_left h]
theorem nthN_append_last (p : List Nat) (x : Nat) : nthN (p ++ [x]) p.length = x := by
  rw [nthN_eq (by simp)]; simp
theorem nth_take {p : List Int} {n k : Nat} (h : k < n) (hp : k < p.length) : nth (p.take n) k = nth p k := by
  rw [nth_eq (by simp; omega), nth_eq hp, List.getElem_take]
theorem nth_replicate (n k : Nat) (x : Int) (h : k < n) : nth (List.replicate n x) k = x := by
  rw [nth_eq (by simpa using h)]; simp

/-- An integer that its kind holds. -/
def fits (k : IntKind) (x : Int) : Prop := (Lit.int k x).wf = true
theorem fits_i64 {x : Int} (h : -9223372036854775808 ≤ x ∧ x ≤ 9223372036854775807) : fits .i64 x := by
  unfold fits; exact WalkArith.wf_i64 (by omega)
theorem fits_small {x : Int} (h0 : -1000000 ≤ x) (h1 : x ≤ 1000000) : fits .i64 x := fits_i64 (by omega)

/-! ### worlds -/
/-- 'w1' is 'w' with more blocks; whatever 'w' held is as it was. -/
def Ext (w w1 : World) : Prop := Below w.heap.size w w1

theorem Ext.refl (w : World) : Ext w w := Below.refl _ _
theorem Ext.trans {a b c : World} (h : Ext a b) (k : Ext b c) : Ext a c := Below.trans h (Below.mono k h.size)
theorem Ext.drew {a b : World} (h : Ext a b) : Ext a b.drew := Below.drew h
theorem Ext.drewN {a b : World} (h : Ext a b) (n : Nat) : Ext a (b.drewN n) := below_drewN h n
theorem Ext.alloc {a b : World} (h : Ext a b) (o : Obj) : Ext a (b.alloc o) := Below.alloc h (Below.size h) o
theorem Ext.cell {a b : World} (h : Ext a b) {p : Addr} (hp : p.block < a.heap.size) : b.cell? p = a.cell? p := Below.cell h hp
theorem Ext.size {a b : World} (h : Ext a b) : a.heap.size ≤ b.heap.size := Below.size h
theorem Ext.setCell {a b : World} (h : Ext a b) {p : Addr} (hp : a.heap.size ≤ p.block) (u : Value) : Ext a (b.setCell p u) := Below.setCell h hp u
theorem Ext.below {a b c : World} (h : Ext a b) (k : Below b.heap.size b c) : Ext a c := Ext.trans h k
theorem Ext.belowAt {B : Nat} {a b c : World} (h : Ext a b) (k : Below B b c) (hB : a.heap.size ≤ B) : Ext a c := Below.trans h (Below.mono k hB)

theorem addBlock (a : Addr) (n : Nat) : (a.add n).block = a.block := by
  unfold Addr.add; split <;> rfl

/-! ### slices of elements of one cell -/
/-- The slice with head 'A', length 'n' and capacity 'c' holds 'f 0', 'f 1', .. -/
structure SlcAt (w : World) (A : Option Addr) (c n : Nat) (f : Nat → Value) : Prop where
  le : n ≤ c
  cap : c ≤ 9223372036854775807
  at_ : 0 < n → ∃ ad, A = some ad ∧ ad.block < w.heap.size ∧ ∀ i, i < n → w.cell? (ad.add i) = some (f i)

theorem SlcAt.ext {w w1 : World} {A : Option Addr} {c n : Nat} {f : Nat → Value} (h : SlcAt w A c n f) (k : Ext w w1) : SlcAt w1 A c n f :=
  ⟨h.le, h.cap, fun hn => by
    obtain ⟨ad, e, hb, hc⟩ := h.at_ hn
    exact ⟨ad, e, Nat.lt_of_lt_of_le hb k.size, fun i hi => (k.cell (by rw [addBlock]; exact hb)).trans (hc i hi)⟩⟩
theorem SlcAt.nil (w : World) (f : Nat → Value) : SlcAt w none 0 0 f := ⟨Nat.le_refl _, by omega, fun h => absurd h (by omega)⟩
theorem SlcAt.get {w : World} {A : Option Addr} {c n : Nat} {f : Nat → Value} (h : SlcAt w A c n f) {i : Nat} (hi : i < n) :
    ∃ ad, A = some ad ∧ ad.block < w.heap.size ∧ w.cell? (ad.add i) = some (f i) := by
  obtain ⟨ad, e, hb, hc⟩ := h.at_ (by omega)
  exact ⟨ad, e, hb, hc i hi⟩
theorem SlcAt.congr {w : World} {A : Option Addr} {c n : Nat} {f g : Nat → Value} (h : SlcAt w A c n f) (e : ∀ i, i < n → f i = g i) : SlcAt w A c n g :=
  ⟨h.le, h.cap, fun hn => by
    obtain ⟨ad, e1, hb, hc⟩ := h.at_ hn
    exact ⟨ad, e1, hb, fun i hi => by rw [hc i hi, e i hi]⟩⟩
theorem SlcAt.head {w : World} {A : Option Addr} {c n m : Nat} {f : Nat → Value} (h : SlcAt w A c n f) (hm : m ≤ n) : SlcAt w A c m f :=
  ⟨Nat.le_trans hm h.le, h.cap, fun h0 => by
    obtain ⟨ad, e1, hb, hc⟩ := h.at_ (by omega)
    exact ⟨ad, e1, hb, fun i hi => hc i (by omega)⟩⟩
theorem SlcAt.of_row {w : World} {g n : Nat} {t : TypeId} {f : Nat → Value} (h : w.rowIs g t n f) (hn : n ≤ 9223372036854775807) : SlcAt w (some ⟨g, 0, none⟩) n n f :=
  ⟨Nat.le_refl _, hn, fun h0 => ⟨⟨g, 0, none⟩, rfl, h.lt, fun i hi => by
    have := h.cell hi
    unfold Addr.add
    by_cases e : i = 0
    · subst e; simpa using this
    · simpa [e] using this⟩⟩

/-- A slice of integers of kind 'k' that reads as 'xs'. -/
def Ints (k : IntKind) (w : World) (v : Value) (xs : List Int) : Prop :=
  ∃ A c, v = .slice A xs.length c ∧ SlcAt w A c xs.length (fun i => .int k (nth xs i)) ∧ ∀ i, i < xs.length → fits k (nth xs i)
/-- A slice of sets that reads as 'xs'. -/
def Sets (w : World) (v : Value) (xs : List Nat) : Prop :=
  ∃ A c, v = .slice A xs.length c ∧ SlcAt w A c xs.length (fun i => .int .u64 (nthN xs i : Nat)) ∧ ∀ i, i < xs.length → nthN xs i < 18446744073709551616

theorem Ints.ext {k : IntKind} {w w1 : World} {v : Value} {xs : List Int} (h : Ints k w v xs) (e : Ext w w1) : Ints k w1 v xs := by
  obtain ⟨A, c, hv, hs, hf⟩ := h
  exact ⟨A, c, hv, hs.ext e, hf⟩
theorem Sets.ext {w w1 : World} {v : Value} {xs : List Nat} (h : Sets w v xs) (e : Ext w w1) : Sets w1 v xs := by
  obtain ⟨A, c, hv, hs, hf⟩ := h
  exact ⟨A, c, hv, hs.ext e, hf⟩
theorem Ints.nil (k : IntKind) (w : World) : Ints k w (.slice none 0 0) [] := ⟨none, 0, rfl, SlcAt.nil _ _, fun i h => absurd h (by simp)⟩
theorem Sets.nil (w : World) : Sets w (.slice none 0 0) [] := ⟨none, 0, rfl, SlcAt.nil _ _, fun i h => absurd h (by simp)⟩
theorem Ints.of_row {k : IntKind} {w : World} {g n : Nat} {t : TypeId} {xs : List Int} (h : w.rowIs g t n (fun i => .int k (nth xs i))) (hl : xs.length = n) (hn : n ≤ 9223372036854775807)
    (hf : ∀ i, i < xs.length → fits k (nth xs i)) : Ints k w (.slice (some ⟨g, 0, none⟩) n n) xs := by
  subst hl
  exact ⟨_, _, rfl, SlcAt.of_row h hn, hf⟩
theorem Sets.of_row {w : World} {g n : Nat} {t : TypeId} {xs : List Nat} (h : w.rowIs g t n (fun i => .int .u64 (nthN xs i : Nat))) (hl : xs.length = n) (hn : n ≤ 9223372036854775807)
    (hf : ∀ i, i < xs.length → nthN xs i < 18446744073709551616) : Sets w (.slice (some ⟨g, 0, none⟩) n n) xs := by
  subst hl
  exact ⟨_, _, rfl, SlcAt.of_row h hn, hf⟩
theorem Ints.len {k : IntKind} {w : World} {A : Option Addr} {n c : Nat} {xs : List Int} (h : Ints k w (.slice A n c) xs) : n = xs.length := by
  obtain ⟨A', c', hv, _⟩ := h
  injection hv
/-- The first 'm' elements of a slice. -/
theorem Ints.take {k : IntKind} {w : World} {A : Option Addr} {c : Nat} {xs : List Int} {m : Nat} (h : Ints k w (.slice A xs.length c) xs) (hm : m ≤ xs.length) : Ints k w (.slice A m c) (xs.take m) := by
  obtain ⟨A', c', hv, hs, hf⟩ := h
  injection hv with e1 _ e3
  subst e1; subst e3
  have hlen : (xs.take m).length = m := by simp; omega
  refine ⟨A, c, by rw [hlen], ?_, fun i hi => ?_⟩
  · rw [hlen]
    exact (hs.head hm).congr fun i hi => by rw [nth_take hi (by omega)]
  · rw [nth_take (by omega) (by omega)]
    exact hf i (by omega)

theorem add_zeroOff (g i : Nat) : (⟨g, 0, none⟩ : Addr).add i = ⟨g, i, none⟩ := by
  unfold Addr.add
  by_cases e : i = 0
  · subst e; simp
  · simp [e]

/-- A row of the call's own, as a slice. -/
theorem own_slice {w : World} {base : Nat} {e : TypeId} {v : Value} {n : Nat} {xs : List Value} (h : w.ownsRow base e 1 v n xs) (hn : n ≤ 9223372036854775807) :
    ∃ A c, v = .slice A n c ∧ SlcAt w A c n (fun i => xs.getD i undef) ∧ xs.length = n := by
  have hl : xs.length = n := by have := h.1; omega
  rcases h.2 with ⟨rfl, rfl⟩ | ⟨g, cap, cur, rfl, hb, hh, hnc, hcm, hsz, htk⟩
  · exact ⟨none, 0, rfl, SlcAt.nil _ _, hl⟩
  · refine ⟨_, cap, rfl, ⟨hnc, by unfold maxLen at hcm; exact hcm, fun h0 => ⟨⟨g, 0, none⟩, rfl, (Array.getElem?_eq_some_iff.1 hh).1, fun i hi => ?_⟩⟩, hl⟩
    rw [add_zeroOff, cell_of_row w g i cur e (0, 0) hh]
    have h1 : i < xs.length := by omega
    have : cur.toList[i]? = some (xs.getD i undef) := by
      have h2 : (cur.toList.take (n * 1))[i]? = xs[i]? := by rw [htk]
      rw [List.getElem?_take, if_pos (by omega)] at h2
      rw [h2]
      simp [h1]
    simpa using this

theorem getD_map_int (k : IntKind) (xs : List Int) (i : Nat) (h : i < xs.length) : (xs.map (Value.int k)).getD i undef = .int k (nth xs i) := by
  rw [nth_eq h]; simp [h]
theorem getD_map_set (xs : List Nat) (i : Nat) (h : i < xs.length) : (xs.map (fun x : Nat => Value.int .u64 x)).getD i undef = .int .u64 (nthN xs i : Nat) := by
  rw [nthN_eq h]; simp [h]
theorem Ints.of_own {k : IntKind} {w : World} {base : Nat} {e : TypeId} {v : Value} {n : Nat} {xs : List Int} (h : w.ownsRow base e 1 v n (xs.map (Value.int k))) (hn : n ≤ 9223372036854775807)
    (hf : ∀ i, i < xs.length → fits k (nth xs i)) : Ints k w v xs := by
  obtain ⟨A, c, rfl, hs, hl⟩ := own_slice h hn
  obtain rfl : xs.length = n := by simpa using hl
  exact ⟨A, c, rfl, hs.congr fun i hi => getD_map_int k xs i hi, hf⟩
theorem Sets.of_own {w : World} {base : Nat} {e : TypeId} {v : Value} {n : Nat} {xs : List Nat} (h : w.ownsRow base e 1 v n (xs.map fun x : Nat => Value.int .u64 x)) (hn : n ≤ 9223372036854775807)
    (hf : ∀ i, i < xs.length → nthN xs i < 18446744073709551616) : Sets w v xs := by
  obtain ⟨A, c, rfl, hs, hl⟩ := own_slice h hn
  obtain rfl : xs.length = n := by simpa using hl
  exact ⟨A, c, rfl, hs.congr fun i hi => getD_map_set xs i hi, hf⟩

theorem ints_cells {k : IntKind} {w : World} {ad : Addr} {c : Nat} {xs : List Int} (h : SlcAt w (some ad) c xs.length (fun i => .int k (nth xs i))) :
    ∀ j u, (xs.map (Value.int k))[j]? = some u → w.cell? (ad.add j) = some u := by
  intro j u hu
  have hj : j < xs.length := by
    have := (List.getElem?_eq_some_iff.1 hu).1
    simpa using this
  obtain ⟨ad', e, _, hc⟩ := h.get hj
  injection e with e
  subst e
  rw [hc, nth_eq hj]
  simp [hj] at hu
  rw [hu]
theorem ints_one (k : IntKind) (xs : List Int) : ∀ u ∈ xs.map (Value.int k), u.oneCell' = true := ints_oneCell k xs

/-- A row of the call's own that is not empty: its block. -/
theorem own_row {w : World} {base : Nat} {e : TypeId} {v : Value} {n : Nat} {xs : List Value} (h : w.ownsRow base e 1 v n xs) (hn : 0 < n) :
    ∃ g cap F, v = .slice (some ⟨g, 0, none⟩) n cap ∧ base ≤ g ∧ w.rowIs g e cap F ∧ n ≤ cap ∧ cap ≤ 9223372036854775807 ∧ ∀ i, i < n → F i = xs.getD i undef := by
  have hl : xs.length = n := by have := h.1; omega
  rcases h.2 with ⟨_, h0⟩ | ⟨g, cap, cur, rfl, hb, hh, hnc, hcm, hsz, htk⟩
  · omega
  · refine ⟨g, cap, fun i => cur.getD i undef, rfl, hb, ⟨cur, hh, by omega, fun i hi => by simp [Array.getD, show i < cur.size by omega]⟩, hnc, by unfold maxLen at hcm; exact hcm, fun i hi => ?_⟩
    have h1 : i < xs.length := by omega
    have h2 : (cur.toList.take (n * 1))[i]? = xs[i]? := by rw [htk]
    rw [List.getElem?_take, if_pos (by omega)] at h2
    have h3 : i < cur.size := by omega
    simp [h1, h3] at h2
    simp [Array.getD, h3, h1, h2]
theorem SlcAt.of_row_at {w : World} {g n cap : Nat} {t : TypeId} {f F : Nat → Value} (h : w.rowIs g t cap F) (hn : n ≤ cap) (hc : cap ≤ 9223372036854775807) (e : ∀ i, i < n → F i = f i) : SlcAt w (some ⟨g, 0, none⟩) cap n f :=
  ((SlcAt.of_row h hc).head hn).congr e

/-- Behind an append of one element onto a row of the call's own. -/
theorem Ext.append {w wr w1 : World} {B : Nat} {e : TypeId} {size n : Nat} {v : Value} {xs : List Value} {o : Obj} (hx : Ext w wr) (hown : wr.ownsRow B e size v n xs) (hB : w.heap.size ≤ B)
    (hg : (wr.alloc o).grownBy w1 v.ownBlock) : Ext w w1 :=
  Below.grown (hx.alloc o) hg (by have := hx.size; simp; omega) (fun k hk => Nat.le_trans hB (hown.lt k hk).1)

instance (k : IntKind) (x : Int) : Decidable (fits k x) := by unfold fits; infer_instance

/-- A slice literal of integers. -/
theorem Ints.lit {k : IntKind} (w : World) {g : Nat} (cs : List Int) (t : TypeId) (hg : g = w.heap.size) (hl : cs.length ≤ 1000) (hf : ∀ i, i < cs.length → fits k (nth cs i)) :
    Ints k (w.alloc (.cells (cs.map (Value.int k)).toArray t)) (.slice (some ⟨g, 0, none⟩) cs.length cs.length) cs := by
  subst hg
  refine Ints.of_row (t := t) ?_ rfl (by omega) hf
  have := World.rowIs_alloc w (cs.map (Value.int k)).toArray t (fun i => .int k (nth cs i)) (fun i hi => by
    have hi' : i < cs.length := by simpa using hi
    rw [nth_eq hi']
    simp [hi'])
  simpa using this
theorem Sets.lit (w : World) {g : Nat} (cs : List Nat) (t : TypeId) (hg : g = w.heap.size) (hl : cs.length ≤ 1000) (hf : ∀ i, i < cs.length → nthN cs i < 18446744073709551616) :
    Sets (w.alloc (.cells (cs.map (fun x : Nat => Value.int .u64 x)).toArray t)) (.slice (some ⟨g, 0, none⟩) cs.length cs.length) cs := by
  subst hg
  refine Sets.of_row (t := t) ?_ rfl (by omega) hf
  have := World.rowIs_alloc w (cs.map (fun x : Nat => Value.int .u64 x)).toArray t (fun i => .int .u64 (nthN cs i : Nat)) (fun i hi => by
    have hi' : i < cs.length := by simpa using hi
    rw [nthN_eq hi']
    simp [hi'])
  simpa using this

/-- What a law's frame hands over of an argument that is a slice of integers. -/
theorem isRow_ints {k : IntKind} {w : World} {a : Option Addr} {len cap : Nat} {zs : List Int} (h : (a = none ∧ len = 0 ∧ cap = 0 ∧ zs = []) ∨
    ∃ x, a = some x ∧ len ≤ cap ∧ cap ≤ maxLen ∧ zs.length = cap ∧ (∀ i, i < zs.length → w.cell? (x.add i) = some (.int k (zs.getD i 0))) ∧ ∀ n ∈ zs, (Lit.int k n).wf = true) :
    Ints k w (.slice a len cap) (zs.take len) := by
  rcases h with ⟨rfl, rfl, rfl, rfl⟩ | ⟨x, rfl, hl, hm, hz, hc, hw⟩
  · exact Ints.nil k w
  · have hlen : (zs.take len).length = len := by simp; omega
    refine ⟨some x, cap, by rw [hlen], ?_, fun i hi => ?_⟩
    · rw [hlen]
      refine ⟨hl, by unfold maxLen at hm; exact hm, fun h0 => ⟨x, rfl, ?_, fun i hi => ?_⟩⟩
      · have := World.block_lt_of_cell? w _ (hc 0 (by omega))
        rwa [addBlock] at this
      · rw [hc i (by omega), nth_take (by omega) (by omega)]
        rfl
    · rw [nth_take (by omega) (by omega)]
      exact hw _ (nth_mem (by omega))

end Go.Proofs.YtdlhfihddipjaacDoor
