/-
  The agreement texts: round, Round and Announce of the program.
-/
import Derived.Test.YtdlhfihddipjaacDoorAg15
namespace Go.Proofs.YtdlhfihddipjaacDoor
open Go.RowKit

theorem Tryd.infoSlF : (Tryd.prog.info? 100).map (fun i => (i.zero, i.size, i.bytes)) = some (some (.slice none 0 0), 1, 24) := by kernel_rfl

/-- A row of slices of fractions of the call's own. -/
structure FOwn (w : World) (base : Nat) (o : Value) (l : List (List (Nat × Nat))) (vals : List Value) : Prop where
  own : w.ownsRow base 100 1 o l.length vals
  nil : l.length = 0 → o = .slice none 0 0
  els : ∀ j, j < l.length → 0 < (nthS l j).length ∧ Zero (vals.getD j undef) ∧ Fracs w (vals.getD j undef) (nthS l j)
theorem FOwn.ext {w w1 : World} {base : Nat} {o : Value} {l : List (List (Nat × Nat))} {vals : List Value} (h : FOwn w base o l vals) (k : Ext w w1) : FOwn w1 base o l vals :=
  ⟨own_ext24 h.own k, h.nil, fun j hj => ⟨(h.els j hj).1, (h.els j hj).2.1, (h.els j hj).2.2.ext k⟩⟩
theorem Fracs.grown {w w' : World} {base : Nat} {e : TypeId} {o : Value} {n : Nat} {vals : List Value} {v : Value} {fs : List (Nat × Nat)} (h : Fracs w v fs) (hz : Zero v) (hown : w.ownsRow base e 1 o n vals) (hn : n = 0 → o = .slice none 0 0) (hv : ∀ i, i < n → IsSl (vals.getD i undef)) (hg : w.grownBy w' o.ownBlock) : Fracs w' v fs := by
  obtain ⟨A, c, e1, h1, h2, hs⟩ := h
  refine ⟨A, c, e1, h1, h2, fun h0 => ?_⟩
  obtain ⟨ad, e2, hb, hc⟩ := hs h0
  obtain ⟨g, m, cap, e3⟩ := hz
  rw [e1, e2] at e3
  injection e3 with e3
  injection e3 with e3
  subst e3
  have hc0 := (hc 0 h0).1
  rw [add_zeroOff] at hc0
  have hne := own_block_ne hown hn hv hc0
  refine ⟨_, e2, Nat.lt_of_lt_of_le hb hg.size, fun i hi => ?_⟩
  have hk : ∀ i : Nat, w'.cell? ((⟨g, 0, none⟩ : Addr).add i) = w.cell? ((⟨g, 0, none⟩ : Addr).add i) := fun i => World.cell?_of_block (w := w) (by rw [addBlock]; exact hg.block g hb hne)
  rw [hk, hk]
  exact hc i hi
theorem nthS_snoc (l : List (List (Nat × Nat))) (r : List (Nat × Nat)) : nthS (l ++ [r]) l.length = r := by unfold nthS; simp
theorem nthS_pre (l : List (List (Nat × Nat))) (r : List (Nat × Nat)) {j : Nat} (h : j < l.length) : nthS (l ++ [r]) j = nthS l j := by unfold nthS; simp [List.getElem?_append_left h]
theorem FOwn.push {w w5 : World} {base : Nat} {o o5 v : Value} {l : List (List (Nat × Nat))} {r : List (Nat × Nat)} {vals : List Value} {ob : Obj} (h : FOwn w base o l vals) (hr : 0 < r.length) (hz : Zero v) (hI : Fracs w v r)
    (hg : (w.alloc ob).grownBy w5 o.ownBlock) (hown : w5.ownsRow base 100 1 o5 (l.length + 1) (vals ++ [v])) : FOwn w5 base o5 (l ++ [r]) (vals ++ [v]) := by
  have hl : vals.length = l.length := by have := h.own.1; omega
  have hx : Ext w (w.alloc ob) := (Ext.refl w).alloc ob
  have hv : ∀ i, i < l.length → IsSl (vals.getD i undef) := fun i hi => (h.els i hi).2.1.isSl
  refine ⟨by simpa using hown, fun e => by simp at e, fun j hj => ?_⟩
  by_cases e : j = l.length
  · subst e
    rw [getD_snoc _ _ _ hl, nthS_snoc]
    exact ⟨hr, hz, (hI.ext hx).grown hz (h.own.alloc ob) h.nil hv hg⟩
  · have hj : j < l.length := by simp at hj; omega
    rw [getD_pre _ _ _ (by omega), nthS_pre _ _ hj]
    exact ⟨(h.els j hj).1, (h.els j hj).2.1, ((h.els j hj).2.2.ext hx).grown (h.els j hj).2.1 (h.own.alloc ob) h.nil hv hg⟩
theorem FOwn.rows {w : World} {base : Nat} {o : Value} {l : List (List (Nat × Nat))} {vals : List Value} (h : FOwn w base o l vals) (hl : l.length ≤ 1000) : FRows w o l := by
  obtain ⟨A, c, rfl, hs, _⟩ := own_slice h.own (by omega)
  exact ⟨A, c, _, rfl, hs, fun i hi => (h.els i hi).2.2⟩

set_option maxRecDepth 100000 in
set_option maxHeartbeats 4000000 in
theorem round24_any (w : World) (v1 v2 : Value) (W : List Int) (C : List (List Int)) (h : Prior w v1 v2 W C) (hP : PrOk W C) (e : Nat) (he : e < 18446744073709551616) :
    Calls Tryd.prog 39 #[.agg #[v1, v2], .int .u64 e] w fun x w' => ∃ o1 o2, x = .returned (.agg #[o1, o2]) ∧ OPr w' 0 o1 o2 W (rnd W C e) ∧ Ext w w' := by
  obtain ⟨i2, hi2, hj0, hj1, hj2⟩ := info_parts Tryd.infoSlF
  obtain ⟨h1, h2⟩ := h
  have n0 := hP.n0
  have n64 := hP.n64
  have c4 := hP.c4
  have HPo : Hid (∀ w1 (a : Nat), Ext w w1 → a < C.length → Calls Tryd.prog 63 #[.agg #[v1, v2], .int .i64 a, .int .u64 e] w1 fun x w' => ∃ v', x = .returned v' ∧ Fracs w' v' (posts W C a e W.length) ∧ Zero v' ∧ Ext w1 w') := fun w1 a hx ha => posteriors0_any w1 v1 v2 W C ⟨h1.ext hx, h2.ext hx⟩ hP a e ha he
  have HDi : Hid (∀ w1 v3 l, Ext w w1 → FRows w1 v3 l → (∀ j, j < l.length → (nthS l j).length = W.length) → Calls Tryd.prog 38 #[.agg #[v1, v2], v3] w1 fun x w' => ∃ o1 o2, x = .returned (.agg #[o1, o2]) ∧ OPr w' 0 o1 o2 W (C.map (divC W.length l)) ∧ Ext w1 w') := fun w1 v3 l hx hl hll => divide24_any w1 v1 v2 v3 W C l ⟨h1.ext hx, h2.ext hx⟩ hP hl hll
  obtain ⟨A, c, rfl, hs, _⟩ := h1
  have hle := hs.le
  have hcap := hs.cap
  obtain ⟨A2, c2, vs, rfl, hs2, _⟩ := h2
  have hle2 := hs2.le
  have hcap2 := hs2.cap
  clear hs hs2 hP
  obtain ⟨q0, q1⟩ := cellsP w (.slice A W.length c) (.slice A2 C.length c2) 37
  obtain ⟨W1, hW1⟩ : ∃ W1, W1 = (w.alloc (.cells #[.slice A W.length c, .slice A2 C.length c2] 37)).alloc (.cells #[.slice none 0 0, .slice none 0 0] 37) := ⟨_, rfl⟩
  have hx1 : Ext w W1 := by rw [hW1]; exact ((Ext.refl w).alloc _).alloc _
  have hsz : W1.heap.size = w.heap.size + 2 := by rw [hW1]; simp
  have rb := SBlk.made (w.alloc (.cells #[.slice A W.length c, .slice A2 C.length c2] 37)) (.slice none 0 0) (.slice none 0 0) 37
  have qb0 : W1.cell? ⟨w.heap.size, 0, none⟩ = some (.slice A W.length c) := by rw [hW1]; exact (((Ext.refl _).alloc _).cell (by simp)).trans q0
  have qb1 : W1.cell? ⟨w.heap.size, 1, none⟩ = some (.slice A2 C.length c2) := by rw [hW1]; exact (((Ext.refl _).alloc _).cell (by simp)).trans q1
  have rb : SBlk W1 (w.heap.size + 1) 37 (.slice none 0 0) (.slice none 0 0) := by rw [hW1]; simpa using rb
  have QB0 := Lib.hid qb0
  have QB1 := Lib.hid qb1
  have RB := Lib.hid rb
  have HX1 := Lib.hid hx1
  have HSZ := Lib.hid hsz
  have q1' := qb1
  rw [hW1] at q1'
  have E1 := Lib.hid (show Ext W1 ((w.alloc (.cells #[.slice A W.length c, .slice A2 C.length c2] 37)).alloc (.cells #[.slice none 0 0, .slice none 0 0] 37)) by rw [← hW1]; exact Ext.refl _)
  clear q0 q1 qb0 qb1 rb hx1 hsz hW1
  go_enter Tryd.func39, Tryd.ntmps39
  go_wp2
  go_loopw [5, 10] (fun o v wr => ∃ k : Nat, k ≤ C.length ∧ v = .int .i64 k ∧ (∃ vals, FOwn wr (w.heap.size + 2) o (saidTo W C e k) vals) ∧ Ext W1 wr) (fun _ v _ => C.length - (intOf v).toNat)
  case atStart => exact ⟨0, Nat.zero_le _, rfl, ⟨[], World.ownsRow_nil _ _ _ _, fun _ => rfl, fun j hj => absurd hj (by simp [saidTo])⟩, E1.out⟩
  case round =>
    obtain ⟨k, hk, rfl, ⟨vals, hF⟩, hxr⟩ := hrel
    have hS1 := HSZ.out
    have hxw := HX1.out.trans hxr
    have p0 := (hxr.cell (show w.heap.size < _ by omega)).trans QB0.out
    have p1 := (hxr.cell (show w.heap.size < _ by omega)).trans QB1.out
    have HF := Lib.hid hF
    clear hF
    by_cases hlt : k < C.length
    · have CP := Lib.hid (HPo.out wr k hxw hlt)
      go_wp2_with fail
      refine CP.out.mono ?_
      rintro x w3 ⟨vf, rfl, hIf, hZf, hy⟩
      have hx3 := hxr.trans hy
      obtain ⟨Af, nf, cf, hv⟩ := hZf.isSl
      subst hv
      have hF3 := HF.out.ext hy
      have hown3 := hF3.own
      have sl : (saidTo W C e k).length = k := by simp [saidTo]
      rw [sl] at hown3
      have HF3 := Lib.hid hF3
      have HIf := Lib.hid hIf
      have HZf := Lib.hid hZf
      have Hsl := Lib.hid sl
      clear hF3 hIf hZf CP sl
      go_wp2_with (at_builtin; refine wpList_append_own _ rfl (.tmp 13) (.tmp 18) _ rfl (w.heap.size + 2) 100 i2 (.slice none 0 0) 1 24 Tryd.underlying99 hi2 hj0 hj1 hj2 rfl (by omega) u5 k vals rfl (hown3.alloc _) ⟨w3.heap.size, 0, none⟩ 1 1 [.slice Af nf cf] rfl rfl (cell_one_new _ _ _) (by simp [Value.oneCell']) (by unfold maxLen; omega) (by omega) (by have := hx3.size; simp; omega) ?_; intro o5 w5 hown5 hg5 _)
      go_roundw
      case rel =>
        have hp := HF3.out.push (r := posts W C k e W.length) (by rw [posts_len]; exact n0) HZf.out HIf.out hg5 (by rw [Hsl.out]; exact hown5)
        rw [← saidTo_succ] at hp
        exact ⟨k + 1, by omega, by go_num, ⟨_, hp⟩, hx3.append hown3 (by omega) hg5⟩
      case measure => simp [intOf]; omega
    · obtain rfl : k = C.length := by omega
      have hFR := HF.out.rows (by simp [saidTo]; omega)
      have CD := Lib.hid (HDi.out wr _ _ hxw hFR (fun j hj => by
        rw [nthS_eq hj]; exact saidTo_len (W := W) (C := C) (e := e) _ (List.getElem_mem hj)))
      clear hFR
      go_wp2_with fail
      refine CD.out.mono ?_
      rintro x w3 ⟨o1, o2, rfl, hO, hy⟩
      obtain ⟨B1, m1, d1, e1⟩ := hO.wz.isSl
      obtain ⟨B2, m2, d2, e2⟩ := hO.rows.isSl
      subst e1 e2
      have hx3 := hxr.trans hy
      have hrb := RB.out.ext hx3
      have z0 := SBlk.cell0 hrb
      have z1 := SBlk.cell1 (hrb.set0 (.slice B1 m1 d1))
      have k0 := World.rowIs.frozen hrb 0
      have k1 := World.rowIs.frozen (hrb.set0 (.slice B1 m1 d1)) 1
      have hF := hO.store hrb ⟨_, _, _, rfl⟩ ⟨_, _, _, rfl⟩
      have hS := SBlk.full hrb (x := .slice B1 m1 d1) (y := .slice B2 m2 d2)
      have f0 := SBlk.cell0 hS
      have f1 := SBlk.cell1 hS
      have hxF := ((HX1.out.trans hx3).setCell (p := ⟨w.heap.size + 1, 0, none⟩) (show w.heap.size ≤ w.heap.size + 1 by omega) (.slice B1 m1 d1)).setCell (p := ⟨w.heap.size + 1, 1, none⟩) (show w.heap.size ≤ w.heap.size + 1 by omega) (.slice B2 m2 d2)
      have HF' := Lib.hid hF
      have HXF := Lib.hid hxF
      clear hO hrb hS CD hF hxF
      go_wp2
      exact bodyPost_ret (v := .agg #[.slice B1 m1 d1, .slice B2 m2 d2]) (by simp [results, Tryd.results39, go_sem, f0, f1]) rfl ⟨_, _, rfl, HF'.out, HXF.out⟩

end Go.Proofs.YtdlhfihddipjaacDoor
