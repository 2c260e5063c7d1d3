/-
  The agreement texts: lists of fractions; posteriors at all worlds.
-/
import Derived.Test.YtdlhfihddipjaacDoorAg5
namespace Go.Proofs.YtdlhfihddipjaacDoor
open Go.RowKit

theorem Tryd.infoFrac : (Tryd.prog.info? 52).map (fun i => (i.zero, i.size, i.bytes)) = some (some (.agg #[.int .i64 0, .int .i64 0]), 2, 16) := by kernel_rfl

def nthF (fs : List (Nat × Nat)) (k : Nat) : Nat × Nat := fs.getD k (0, 0)
theorem nthF_eq {fs : List (Nat × Nat)} {k : Nat} (h : k < fs.length) : nthF fs k = fs[k] := by unfold nthF; simp [h]
theorem ext_nthF {p q : List (Nat × Nat)} (hl : p.length = q.length) (h : ∀ k, k < p.length → nthF p k = nthF q k) : p = q := by
  refine List.ext_getElem hl fun k h1 h2 => ?_
  have := h k h1
  rwa [nthF_eq h1, nthF_eq h2] at this
def fracCells (fs : List (Nat × Nat)) : List Value := fs.flatMap fun f => [.int .i64 (f.1 : Nat), .int .i64 (f.2 : Nat)]
theorem fracCells_len (fs : List (Nat × Nat)) : (fracCells fs).length = 2 * fs.length := by
  unfold fracCells
  induction fs with
  | nil => rfl
  | cons f fs ih => rw [List.flatMap_cons, List.length_append, ih]; simp; omega
theorem fracCells_append (fs gs : List (Nat × Nat)) : fracCells (fs ++ gs) = fracCells fs ++ fracCells gs := by unfold fracCells; rw [List.flatMap_append]
theorem fracCells_at (fs : List (Nat × Nat)) : ∀ i, i < fs.length → (fracCells fs).getD (2 * i) undef = .int .i64 ((nthF fs i).1 : Nat) ∧ (fracCells fs).getD (2 * i + 1) undef = .int .i64 ((nthF fs i).2 : Nat) := by
  induction fs with
  | nil => intro i hi; simp at hi
  | cons f fs ih =>
    intro i hi
    cases i with
    | zero => exact ⟨rfl, rfl⟩
    | succ i =>
      have := ih i (by simp at hi; omega)
      exact this
/-- A slice of fractions that reads as 'fs'. -/
def Fracs (w : World) (v : Value) (fs : List (Nat × Nat)) : Prop :=
  ∃ A c, v = .slice A fs.length c ∧ fs.length ≤ c ∧ c ≤ 9223372036854775807 ∧
    (0 < fs.length → ∃ ad, A = some ad ∧ ad.block < w.heap.size ∧ ∀ i, i < fs.length → w.cell? (ad.add (2 * i)) = some (.int .i64 ((nthF fs i).1 : Nat)) ∧ w.cell? (ad.add (2 * i + 1)) = some (.int .i64 ((nthF fs i).2 : Nat)))
theorem Fracs.ext {w w1 : World} {v : Value} {fs : List (Nat × Nat)} (h : Fracs w v fs) (k : Ext w w1) : Fracs w1 v fs := by
  obtain ⟨A, c, e, h1, h2, h3⟩ := h
  refine ⟨A, c, e, h1, h2, fun h0 => ?_⟩
  obtain ⟨ad, e, hb, hc⟩ := h3 h0
  exact ⟨ad, e, Nat.lt_of_lt_of_le hb k.size, fun i hi => ⟨(k.cell (by rw [addBlock]; exact hb)).trans (hc i hi).1, (k.cell (by rw [addBlock]; exact hb)).trans (hc i hi).2⟩⟩
theorem Fracs.nil (w : World) : Fracs w (.slice none 0 0) [] := ⟨none, 0, rfl, Nat.le_refl _, by omega, fun h => absurd h (by simp)⟩
theorem Fracs.of_own {w : World} {base : Nat} {e : TypeId} {v : Value} {n : Nat} {fs : List (Nat × Nat)} (h : w.ownsRow base e 2 v n (fracCells fs)) (hn : n ≤ 9223372036854775807) : Fracs w v fs := by
  have hl : fs.length = n := by have := h.1; rw [fracCells_len] at this; omega
  subst hl
  rcases h.2 with ⟨rfl, h0⟩ | ⟨g, cap, cur, rfl, hb, hh, hnc, hcm, hsz, htk⟩
  · have : fs = [] := List.eq_nil_of_length_eq_zero (by simpa using h0)
    subst this
    exact Fracs.nil w
  · refine ⟨_, cap, rfl, hnc, by unfold maxLen at hcm; exact hcm, fun h0 => ⟨⟨g, 0, none⟩, rfl, (Array.getElem?_eq_some_iff.1 hh).1, fun i hi => ?_⟩⟩
    have key : ∀ j, j < 2 * fs.length → w.cell? ((⟨g, 0, none⟩ : Addr).add j) = some ((fracCells fs).getD j undef) := fun j hj => by
      rw [add_zeroOff, cell_of_row w g j cur e (0, 0) hh]
      have h1 : j < (fracCells fs).length := by rw [fracCells_len]; exact hj
      have : cur.toList[j]? = some ((fracCells fs).getD j undef) := by
        have h2 : (cur.toList.take (fs.length * 2))[j]? = (fracCells fs)[j]? := by rw [htk]
        rw [List.getElem?_take, if_pos (by omega)] at h2
        rw [h2]
        simp [h1]
      simpa using this
    have h2 := fracCells_at fs i hi
    exact ⟨by rw [key _ (by omega), h2.1], by rw [key _ (by omega), h2.2]⟩

/-- The posteriors of an agent at the worlds below 'n'. -/
def posts (W : List Int) (C : List (List Int)) (a e n : Nat) : List (Nat × Nat) := (List.range n).map fun k => post W C a k e
theorem posts_len (W : List Int) (C : List (List Int)) (a e n : Nat) : (posts W C a e n).length = n := by simp [posts]
theorem posts_nth {W : List Int} {C : List (List Int)} {a e n k : Nat} (h : k < n) : nthF (posts W C a e n) k = post W C a k e := by
  rw [nthF_eq (by rw [posts_len]; exact h)]; simp [posts]
theorem posts_succ (W : List Int) (C : List (List Int)) (a e n : Nat) : posts W C a e (n + 1) = posts W C a e n ++ [post W C a n e] := by simp [posts, List.range_succ]
theorem own_ext24 {w w1 : World} {base : Nat} {e : TypeId} {size : Nat} {v : Value} {n : Nat} {xs : List Value} (h : w.ownsRow base e size v n xs) (k : Ext w w1) : w1.ownsRow base e size v n xs := by
  obtain ⟨h1, h2⟩ := h
  refine ⟨h1, ?_⟩
  rcases h2 with h2 | ⟨g, cap, cur, hv, hg, hh, r⟩
  · exact .inl h2
  · exact .inr ⟨g, cap, cur, hv, hg, (k.block g (Array.getElem?_eq_some_iff.1 hh).1).trans hh, r⟩

theorem cell_two_new (w : World) (x y : Value) (t : TypeId) : ∀ j u, [x, y][j]? = some u → (w.alloc (.cells #[x, y] t)).cell? ((⟨w.heap.size, 0, none⟩ : Addr).add j) = some u := by
  intro j u hj
  have h := cellsP w x y t
  rw [add_zeroOff]
  have : j = 0 ∨ j = 1 := by
    have := (List.getElem?_eq_some_iff.1 hj).1
    simp at this; omega
  rcases this with rfl | rfl
  · injection hj with hj; subst hj; exact h.1
  · injection hj with hj; subst hj; exact h.2

/-- A slice that begins where its block begins. -/
def Zero (v : Value) : Prop := ∃ g n cap, v = .slice (some ⟨g, 0, none⟩) n cap
theorem own_zero {w : World} {base : Nat} {e : TypeId} {s : Nat} {v : Value} {n : Nat} {xs : List Value} (h : w.ownsRow base e s v n xs) (hn : 0 < n) : Zero v := by
  rcases h.2 with ⟨_, h0⟩ | ⟨g, cap, cur, hv, _⟩
  · omega
  · exact ⟨g, n, cap, hv⟩

set_option maxRecDepth 100000 in
set_option maxHeartbeats 4000000 in
theorem posteriors0_any (w : World) (v1 v2 : Value) (W : List Int) (C : List (List Int)) (h : Prior w v1 v2 W C) (hP : PrOk W C) (a e : Nat) (ha : a < C.length) (he : e < 18446744073709551616) :
    Calls Tryd.prog 63 #[.agg #[v1, v2], .int .i64 a, .int .u64 e] w fun x w' => ∃ v', x = .returned v' ∧ Fracs w' v' (posts W C a e W.length) ∧ Zero v' ∧ Ext w w' := by
  have n0 := hP.n0
  obtain ⟨i0, hi0, hz0, hz1, hz2⟩ := info_parts Tryd.infoFrac
  obtain ⟨h1, h2⟩ := h
  have HPo : Hid (∀ w1, Ext w w1 → ∀ k : Nat, k < W.length → Calls Tryd.prog 44 #[.agg #[v1, v2], .int .i64 a, .int .i64 (k : Nat), .int .u64 e] w1 fun x w' => x = .returned (fracV (post W C a k e)) ∧ Ext w1 w') := fun w1 hx k hk => posterior_any w1 _ _ W C ⟨h1.ext hx, h2.ext hx⟩ hP a k e ha hk he
  have n64 := hP.n64
  obtain ⟨A, c, rfl, hs, hf⟩ := id h1
  have hle := hs.le
  have hcap := hs.cap
  obtain ⟨A2, c2, vs, rfl, hs2, _⟩ := id h2
  clear hs hf hs2
  obtain ⟨q0, q1⟩ := cellsP w (.slice A W.length c) (.slice A2 C.length c2) 37
  have hx0 := (Ext.refl w).alloc (.cells #[.slice A W.length c, .slice A2 C.length c2] 37)
  clear h1 h2 hP
  go_enter Tryd.func63, Tryd.ntmps63
  go_wp2
  go_loopw [7, 12] (fun o i wr => ∃ k : Nat, k ≤ W.length ∧ i = .int .i64 k ∧ wr.ownsRow (w.heap.size + 1) 52 2 o k (fracCells (posts W C a e k)) ∧ Ext (w.alloc (.cells #[.slice A W.length c, .slice A2 C.length c2] 37)) wr) (fun _ i _ => W.length - (intOf i).toNat)
  case atStart => exact ⟨0, Nat.zero_le _, rfl, World.ownsRow_nil _ _ _ _, Ext.refl _⟩
  case round =>
    obtain ⟨k, hk, rfl, hown, hxr⟩ := hrel
    by_cases hlt : k < W.length
    · have Hown := Lib.hid hown
      have hxw := hx0.trans hxr
      have q0 := (hxr.cell (by simp)).trans q0
      have q1 := (hxr.cell (by simp)).trans q1
      have C1 := HPo.out wr hxw k hlt
      obtain ⟨F, hF⟩ : ∃ F, F = post W C a k e := ⟨_, rfl⟩
      rw [← hF] at C1
      have HF := Lib.hid hF
      obtain ⟨Fx, Fy⟩ := F
      have C2 : Hid (Calls Tryd.prog 44 #[.agg #[.slice A W.length c, .slice A2 C.length c2], .int .i64 a, .int .i64 (k : Nat), .int .u64 e] wr fun x w' => x = .returned (.agg #[.int .i64 (Fx : Nat), .int .i64 (Fy : Nat)]) ∧ Ext wr w') := C1
      clear hown C1 hF
      go_wp2_with fail
      refine C2.out.mono ?_
      rintro x w2 ⟨rfl, hy⟩
      have hown2 := own_ext24 Hown.out hy
      have hx2 := hxw.trans hy
      have hxr2 := hxr.trans hy
      clear C2
      go_wp2_with (at_builtin; refine wpList_append_own _ rfl (.tmp 15) (.tmp 21) _ rfl (w.heap.size + 1) 52 i0 (.agg #[.int .i64 0, .int .i64 0]) 2 16 Tryd.underlying100 hi0 hz0 hz1 hz2 rfl (by omega) u7 k (fracCells (posts W C a e k)) rfl (hown2.alloc _) ⟨w2.heap.size, 0, none⟩ 1 1 [.int .i64 (Fx : Nat), .int .i64 (Fy : Nat)] rfl rfl (cell_two_new _ _ _ _) (by simp [Value.oneCell']) (by unfold maxLen; omega) (by omega) (by have := hxr2.size; simp at this ⊢; omega) ?_; intro v2 w3 hown3 hg3 _)
      go_roundw
      case rel =>
        refine ⟨k + 1, by omega, by go_num, ?_, hxr2.append hown2 (by simp) hg3⟩
        rw [posts_succ, fracCells_append, ← HF.out]; exact hown3
      case measure => simp [intOf]; omega
    · obtain rfl : k = W.length := by omega
      have hI : Hid (Fracs wr u7 (posts W C a e W.length)) := Fracs.of_own hown (by omega)
      have hZ : Hid (Zero u7) := own_zero hown n0
      clear hown
      go_wp2
      go_ret
      exact ⟨_, rfl, hI.out, hZ.out, hx0.trans hxr⟩
theorem posteriors_any (w : World) (v1 v2 : Value) (W : List Int) (C : List (List Int)) (h : Prior w v1 v2 W C) (hP : PrOk W C) (a e : Nat) (ha : a < C.length) (he : e < 18446744073709551616) :
    Calls Tryd.prog 63 #[.agg #[v1, v2], .int .i64 a, .int .u64 e] w fun x w' => ∃ v', x = .returned v' ∧ Fracs w' v' (posts W C a e W.length) ∧ Ext w w' :=
  (posteriors0_any w v1 v2 W C h hP a e ha he).mono fun _ _ ⟨v, h1, h2, _, h3⟩ => ⟨v, h1, h2, h3⟩

end Go.Proofs.YtdlhfihddipjaacDoor
