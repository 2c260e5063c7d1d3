/-
  The agreement texts: divide of the program.
-/
import Derived.Test.YtdlhfihddipjaacDoorAgD
import Derived.Test.YtdlhfihddipjaacDoorAgR
namespace Go.Proofs.YtdlhfihddipjaacDoor
open Go.RowKit

def nthS (l : List (List (Nat × Nat))) (k : Nat) : List (Nat × Nat) := l.getD k []
theorem nthS_eq {l : List (List (Nat × Nat))} {k : Nat} (h : k < l.length) : nthS l k = l[k] := by unfold nthS; simp [h]
/-- A slice of slices of fractions. -/
def FRows (w : World) (v : Value) (l : List (List (Nat × Nat))) : Prop :=
  ∃ A c vs, v = .slice A l.length c ∧ SlcAt w A c l.length vs ∧ ∀ i, i < l.length → Fracs w (vs i) (nthS l i)
theorem FRows.ext {w w1 : World} {v : Value} {l : List (List (Nat × Nat))} (h : FRows w v l) (k : Ext w w1) : FRows w1 v l := by
  obtain ⟨A, c, vs, e, hs, hi⟩ := h
  exact ⟨A, c, vs, e, hs.ext k, fun i hi' => (hi i hi').ext k⟩
theorem FRows.nil (w : World) : FRows w (.slice none 0 0) [] := ⟨none, 0, fun _ => undef, rfl, SlcAt.nil _ _, fun i h => absurd h (by simp)⟩
theorem FRows.get {w : World} {A : Option Addr} {n c : Nat} {l : List (List (Nat × Nat))} (h : FRows w (.slice A n c) l) {i : Nat} (hi : i < l.length) :
    ∃ ad A' c', A = some ad ∧ ad.block < w.heap.size ∧ w.cell? (ad.add i) = some (.slice A' (nthS l i).length c') ∧ (nthS l i).length ≤ c' ∧ c' ≤ 9223372036854775807 ∧ Fracs w (.slice A' (nthS l i).length c') (nthS l i) := by
  obtain ⟨A0, c0, vs, e, hs, hI⟩ := h
  injection e with e1 e2 e3
  subst e1
  obtain ⟨ad, e, hb, hc⟩ := hs.get hi
  have h1 := hI i hi
  have h2 := h1
  obtain ⟨A', c', e', k1, k2, _⟩ := h1
  rw [e'] at hc h2
  exact ⟨ad, A', c', e, hb, hc, k1, k2, h2⟩
theorem take_snoc {l : List (List (Nat × Nat))} {j : Nat} (h : j < l.length) : l.take (j + 1) = l.take j ++ [nthS l j] := by
  rw [nthS_eq h]; exact (List.take_append_getElem h).symm ▸ rfl
theorem clone24_any (w : World) (v : Value) (p : List Int) (h : Ints .i64 w v p) (h0 : 0 < p.length) (hl : p.length ≤ 1000) :
    Calls Tryd.prog 56 #[v] w fun e w' => ∃ v', e = .returned v' ∧ Ints .i64 w' v' p ∧ Zero v' ∧ Ext w w' := by
  have hf : ∀ i, i < p.length → fits .i64 (nth p i) := by obtain ⟨_, _, _, _, hf⟩ := h; exact hf
  refine (clone_own w v p h hl).mono fun e w' ⟨v', he, hown, hx⟩ => ⟨v', he, Ints.of_own hown (by omega) hf, ?_, hx⟩
  obtain ⟨g, cap, _, e, _⟩ := own_row hown h0
  exact ⟨g, _, cap, e⟩

set_option maxRecDepth 100000 in
set_option maxHeartbeats 4000000 in
theorem divide24_any (w : World) (v1 v2 v3 : Value) (W : List Int) (C : List (List Int)) (l : List (List (Nat × Nat))) (h : Prior w v1 v2 W C) (hP : PrOk W C) (hl : FRows w v3 l) (hll : ∀ j, j < l.length → (nthS l j).length = W.length) :
    Calls Tryd.prog 38 #[.agg #[v1, v2], v3] w fun x w' => ∃ o1 o2, x = .returned (.agg #[o1, o2]) ∧ OPr w' 0 o1 o2 W (C.map (divC W.length l)) ∧ Ext w w' := by
  obtain ⟨h1, h2⟩ := h
  obtain ⟨i0, hi0, hz0, hz1, hz2⟩ := info_parts Tryd.infoInt
  obtain ⟨i2, hi2, hj0, hj1, hj2⟩ := info_parts Tryd.infoSl
  have n0 := hP.n0
  have n64 := hP.n64
  have c4 := hP.c4
  have HPr : Hid (∀ a, a < C.length → Prt W.length (nthL C a)) := fun a ha => hP.prt ha
  have HCl : Hid (∀ w1 v p, Ints .i64 w1 v p → 0 < p.length → p.length ≤ 1000 → Calls Tryd.prog 56 #[v] w1 fun e w' => ∃ v', e = .returned v' ∧ Ints .i64 w' v' p ∧ Zero v' ∧ Ext w1 w') := clone24_any
  have HIx : Hid (∀ w1 v fs (x1 x2 k : Nat), Fracs w1 v fs → k < fs.length → (x1, x2) = nthF fs k → Calls Tryd.prog 61 #[v, .agg #[.int .i64 x1, .int .i64 x2]] w1 fun e w' => e = .returned (.int .i64 (keyF fs k : Nat)) ∧ Ext w1 w') := fun w1 v fs x1 x2 k hf hk hx => fracIndex_any w1 v fs hf (x1, x2) k hk hx
  have HSp : Hid (∀ w1 va vb a b, Ints .i64 w1 va a → Ints .i64 w1 vb b → Prt W.length a → b.length = W.length → Calls Tryd.prog 62 #[va, vb] w1 fun x w' => ∃ v, x = .returned (.tuple #[v, .int .i64 0]) ∧ Ints .i64 w' v (pDiv W.length a b) ∧ Zero v ∧ Ext w1 w') := fun w1 va vb a b ha hb hp hbl => by
    have := split0_ok w1 va vb a b ha hb (by rw [hp.1, hbl]) (by rw [hp.1]; exact n64) hp.2
    rwa [hp.1] at this
  have Hll := Lib.hid hll
  have H1 := Lib.hid h1
  have H2 := Lib.hid h2
  have HL := Lib.hid hl
  clear hll hP
  obtain ⟨A, c, rfl, hs, _⟩ := h1
  have hle := hs.le
  have hcap := hs.cap
  obtain ⟨A2, c2, vs, rfl, hs2, _⟩ := h2
  have hle2 := hs2.le
  have hcap2 := hs2.cap
  obtain ⟨A3, c3, vs3, rfl, hs3, _⟩ := hl
  have hle3 := hs3.le
  have hcap3 := hs3.cap
  clear hs hs2 hs3
  obtain ⟨q0, q1⟩ := cellsP w (.slice A W.length c) (.slice A2 C.length c2) 37
  -- the boxes
  obtain ⟨W1, hW1⟩ : ∃ W1, W1 = (w.alloc (.cells #[.slice A W.length c, .slice A2 C.length c2] 37)).alloc (.cells #[.slice none 0 0, .slice none 0 0] 37) := ⟨_, rfl⟩
  have hx1 : Ext w W1 := by rw [hW1]; exact ((Ext.refl w).alloc _).alloc _
  have hsz : W1.heap.size = w.heap.size + 2 := by rw [hW1]; simp
  have rb := SBlk.made (w.alloc (.cells #[.slice A W.length c, .slice A2 C.length c2] 37)) (.slice none 0 0) (.slice none 0 0) 37
  have qb1 : W1.cell? ⟨w.heap.size, 1, none⟩ = some (.slice A2 C.length c2) := by rw [hW1]; exact (((Ext.refl _).alloc _).cell (by simp)).trans q1
  have rb : SBlk W1 (w.heap.size + 1) 37 (.slice none 0 0) (.slice none 0 0) := by rw [hW1]; simpa using rb
  have QB1 := Lib.hid qb1
  have RB := Lib.hid rb
  have HX1 := Lib.hid hx1
  have HSZ := Lib.hid hsz
  have HC0 := Lib.hid (HCl.out W1 _ _ (H1.out.ext hx1) n0 (by omega))
  rw [hW1] at HC0
  have HW1 := Lib.hid hW1
  clear q1 qb1 rb hx1 hsz hW1
  go_enter Tryd.func38, Tryd.ntmps38
  go_wp2_with fail
  refine HC0.out.mono ?_
  rintro x w2 ⟨vW, rfl, hIW, hZW, hy⟩
  rw [← HW1.out] at hy
  have hR := DRel.start w2 vW W hIW hZW
  have hx3 := hy.alloc (.cells #[vW, .slice none 0 0] 37)
  have hg2 : w.heap.size + 2 ≤ w2.heap.size := by rw [← HSZ.out]; exact hy.size
  have q1 : w2.cell? ⟨w.heap.size, 1, none⟩ = some (.slice A2 C.length c2) := (hy.cell (show w.heap.size < _ by rw [HSZ.out]; omega)).trans QB1.out
  obtain ⟨Aw, nw, cw, hvW⟩ := hZW.isSl
  subst hvW
  have q1 := ((Ext.refl w2).alloc (.cells #[.slice Aw nw cw, .slice none 0 0] 37)).cell (show w.heap.size < _ by omega) |>.trans q1
  clear hIW hy HC0 hZW
  have HR := Lib.hid hR
  clear hR
  go_wp2
  go_loopw [20] (fun v wr => ∃ i : Nat, i ≤ C.length ∧ v = .int .i64 i ∧ (∃ o vals R, Hid (R = (C.map (divC W.length l)).take i) ∧ R.length = i ∧ DRel wr w2.heap.size (.slice Aw nw cw) o W R vals) ∧ Ext W1 wr) (fun v _ => C.length - (intOf v).toNat)
  case atStart => exact ⟨0, Nat.zero_le _, rfl, ⟨.slice none 0 0, [], [], rfl, rfl, HR.out⟩, hx3⟩
  case round =>
    obtain ⟨i, hi, rfl, ⟨o, vals, R, hRl, hRn, hR⟩, hxr⟩ := hrel
    have hS1 := HSZ.out
    by_cases hlt : i < C.length
    · have hxw := HX1.out.trans hxr
      obtain ⟨ad, A', c', rfl, hb, hce, hle', hcap', hIc⟩ := (H2.out.ext hxw).get hlt
      have hprt := HPr.out i hlt
      have CC := Lib.hid (HCl.out wr _ _ hIc (by rw [hprt.1]; omega) (by rw [hprt.1]; omega))
      have HR := Lib.hid hR
      have HRn := Lib.hid hRn
      have Hprt := Lib.hid hprt
      clear hIc hR hRn hprt
      go_wp2_with fail
      refine CC.out.mono ?_
      rintro x w3 ⟨vc, rfl, hIc, hZc, hy3⟩
      have hx3 := hxr.trans hy3
      have hR3 := Lib.hid (HR.out.ext hy3)
      have HIc := Lib.hid hIc
      have HZc := Lib.hid hZc
      clear hIc hZc HR CC
      go_wp2
      go_loopw [7, 28] (fun vc v wq => ∃ j : Nat, j ≤ l.length ∧ v = .int .i64 j ∧ Hid (Ints .i64 wq vc (divC W.length (l.take j) (nthL C i))) ∧ Hid (Zero vc) ∧ Ext w3 wq) (fun _ v _ => l.length - (intOf v).toNat)
      case atStart => exact ⟨0, Nat.zero_le _, rfl, HIc.out, HZc.out, Ext.refl _⟩
      case round =>
        obtain ⟨j, hj, rfl, hIq, hZq, hxq⟩ := hrel
        obtain ⟨wq, rfl⟩ : ∃ wq : World, wq = wr := ⟨_, rfl⟩
        by_cases hlj : j < l.length
        · have hx4 := hx3.trans hxq
          obtain ⟨ad3, A4, c4', rfl, hb3, hc3, hle4, hcap4, hF⟩ := (HL.out.ext (HX1.out.trans hx4)).get hlj
          have hSl := Hll.out j hlj
          obtain ⟨fs, hfs⟩ : ∃ fs, fs = nthS l j := ⟨_, rfl⟩
          rw [← hfs] at hc3 hle4 hF hSl
          have Hfs := Lib.hid hfs
          have HF := Lib.hid hF
          have HSl := Lib.hid hSl
          clear hfs hF hSl
          go_wp2
          go_loopw [10, 34] (fun p v wk => ∃ k : Nat, k ≤ fs.length ∧ v = .int .i64 k ∧ wk.ownsRow wq.heap.size 3 1 p k ((upTo k fun i => (keyF fs i : Nat)).map (Value.int .i64)) ∧ Ext wq wk) (fun _ v _ => fs.length - (intOf v).toNat)
          case atStart => exact ⟨0, Nat.zero_le _, rfl, World.ownsRow_nil _ _ _ _, Ext.refl _⟩
          case round =>
            obtain ⟨k, hk, rfl, hown, hxk⟩ := hrel
            obtain ⟨wk, rfl⟩ : ∃ wk : World, wk = wr := ⟨_, rfl⟩
            by_cases hlk : k < fs.length
            · have Hown := Lib.hid hown
              obtain ⟨ad5, rfl, hb5, hc5, hc6, hc7⟩ := (HF.out.ext hxk).get hlk
              obtain ⟨fx, hfx⟩ : ∃ f, f = nthF fs k := ⟨_, rfl⟩
              rw [← hfx] at hc5 hc7 hc6
              obtain ⟨f1, f2⟩ := fx
              have CX := Lib.hid (HIx.out ((wk.alloc (.cells #[.int .i64 (f1 : Nat), .int .i64 (f2 : Nat)] 52))) _ fs f1 f2 k (HF.out.ext (hxk.alloc _)) hlk hfx)
              dsimp only at hc5 hc6 hc7
              clear hfx hown
              go_wp2_with fail
              refine CX.out.mono ?_
              rintro x w5 ⟨rfl, hy5⟩
              have hx5 := (hxk.alloc _).trans hy5
              have hy6 := ((Ext.refl wk).alloc _).trans hy5
              have hown5 := own_ext24 Hown.out hy6
              go_wp2_with (at_builtin; refine wpList_append_own _ rfl (.tmp 38) (.tmp 42) _ rfl wq.heap.size 3 i0 (.int .i64 0) 1 8 Tryd.underlying30 hi0 hz0 hz1 hz2 rfl (by omega) u10 k ((upTo k fun i => (keyF fs i : Nat)).map (Value.int .i64)) rfl (hown5.alloc _) ⟨w5.heap.size, 0, none⟩ 1 1 [.int .i64 (keyF fs k : Nat)] rfl rfl (cell_one_new _ _ _) (by simp [Value.oneCell']) (by unfold maxLen; omega) (by have := HSl.out; omega) (by have := hx5.size; simp; omega) ?_; intro v6 w6 hown6 hg6 _)
              go_roundw
              case rel =>
                refine ⟨k + 1, by omega, by go_num, ?_, hx5.append hown5 (Nat.le_refl _) hg6⟩
                rw [upTo_succ24]; simpa using hown6
              case measure => simp [intOf]; omega
            · obtain rfl : k = fs.length := by omega
              have hI : Hid (Ints .i64 wk u10 (keysF fs)) := by
                refine Ints.of_own (xs := keysF fs) hown (by have := HSl.out; omega) fun i hi => ?_
                rw [keysF_len] at hi
                have := keyF_le fs i
                have := HSl.out
                unfold keysF
                rw [upTo_nth hi]; exact fits_small (by omega) (by omega)
              have hxk4 := hx4.trans hxk
              have CS := Lib.hid (HSp.out wk _ _ _ _ (hIq.out.ext hxk) hI.out (divC_prt Hprt.out _) (by rw [keysF_len]; exact HSl.out))
              clear hown
              go_wp2_with fail
              refine CS.out.mono ?_
              rintro x w7 ⟨vs7, rfl, hIs, hZs, hy7⟩
              have HIs := Lib.hid hIs
              have HZs := Lib.hid hZs
              clear hIs hZs CS
              go_wp2
              go_roundw
              case rel =>
                refine ⟨j + 1, by omega, by go_num, ?_, HZs.out, (hxq.trans hxk).trans hy7⟩
                show Ints .i64 w7 vs7 (divC W.length (l.take (j + 1)) (nthL C i))
                rw [take_snoc hlj, divC_snoc, ← Hfs.out]; exact HIs.out
              case measure => simp [intOf]; omega
        · obtain rfl : j = l.length := by omega
          obtain ⟨Av, nv, cv, hv⟩ := hZq.out.isSl
          subst hv
          have hx4 := hx3.trans hxq
          have hR4 := hR3.out.ext hxq
          have hc1 := SBlk.cell1 hR4.blk
          have lt4 : w2.heap.size < wq.heap.size := World.rowIs.lt hR4.blk
          have HR4 := Lib.hid hR4
          have hown4 := hR4.own
          rw [HRn.out] at hown4
          clear hR4
          go_wp2_with (at_builtin; refine wpList_append_own _ rfl (.tmp 53) (.tmp 55) _ rfl (w2.heap.size + 1) 30 i2 (.slice none 0 0) 1 24 Tryd.underlying35 hi2 hj0 hj1 hj2 rfl (by omega) o i vals rfl (hown4.alloc _) ⟨wq.heap.size, 0, none⟩ 1 1 [.slice Av nv cv] rfl rfl (cell_one_new _ _ _) (by simp [Value.oneCell']) (by unfold maxLen; omega) (by omega) (by simp; omega) ?_; intro o5 w5 hown5 hg5 _; obtain ⟨A5, c5, hv5, _, _⟩ := own_slice hown5 (by omega); subst hv5; have S5 := SBlk.grown (HR4.out.blk.ext ((Ext.refl wq).alloc _)) (hown4.alloc _) (by omega) hg5; have k5 := SBlk.cell1 S5; have f5 := World.rowIs.frozen S5 1)
          go_roundw
          case rel =>
            have hp := HR4.out.push hZq.out hIq.out hg5 (by rw [HRn.out]; exact hown5)
            refine ⟨i + 1, by omega, by go_num, ⟨_, _, _, ?_, by simp [HRn.out], hp⟩, ?_⟩
            · show _ = _
              rw [hRl.out, List.take_add_one]
              simp [hlt, nthL_eq hlt]
            · exact (hx4.append hown4 (by omega) hg5).setCell (show W1.heap.size ≤ w2.heap.size by omega) _
          case measure => simp [intOf]; omega
    · obtain rfl : i = C.length := by omega
      obtain ⟨Ao, no, co, rfl⟩ := hR.isSl
      have e0 := SBlk.cell0 hR.blk
      have e1 := SBlk.cell1 hR.blk
      have hrb := RB.out.ext hxr
      have z0 := SBlk.cell0 hrb
      have z1 := SBlk.cell1 (hrb.set0 (.slice Aw nw cw))
      have k0 := World.rowIs.frozen hrb 0
      have k1 := World.rowIs.frozen (hrb.set0 (.slice Aw nw cw)) 1
      have hF := hR.done hrb ⟨_, _, _, rfl⟩ ⟨_, _, _, rfl⟩ (by omega)
      have hS := SBlk.full hrb (x := .slice Aw nw cw) (y := .slice Ao no co)
      have m0 := SBlk.cell0 hS
      have m1 := SBlk.cell1 hS
      have hxF := ((HX1.out.trans hxr).setCell (p := ⟨w.heap.size + 1, 0, none⟩) (show w.heap.size ≤ w.heap.size + 1 by omega) (.slice Aw nw cw)).setCell (p := ⟨w.heap.size + 1, 1, none⟩) (show w.heap.size ≤ w.heap.size + 1 by omega) (.slice Ao no co)
      have HF := Lib.hid hF
      have HXF := Lib.hid hxF
      have HR := Lib.hid hR
      have HRn := Lib.hid hRn
      clear hF hxF hR hrb hRn hS
      go_wp2
      refine bodyPost_ret (v := .agg #[.slice Aw nw cw, .slice Ao no co]) (by simp [results, Tryd.results38, go_sem, m0, m1]) rfl ⟨_, _, rfl, ?_, HXF.out⟩
      have := HF.out
      rw [hRl.out, List.take_of_length_le (by simp)] at this
      exact this

end Go.Proofs.YtdlhfihddipjaacDoor
