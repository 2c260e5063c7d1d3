/-
  The agreement texts: Copy of the reference.
-/
import Derived.Test.YtdlhfihddipjaabAg16
import Derived.OwnWalk
import Derived.Deep.RegionLaw
namespace Go.Proofs.Ytdlhfihddipjaab
open Go.RowKit

section
variable {P : Program} {ops : Array Oper} {o : Oper} {a : Act} {w : World} {K : Act → World → Prop} {Q : Exit → Act → World → Prop} {E : Prop}
/-- An append onto a row of the call's own, as one step of a region that draws its order. -/
theorem step_append_own24 (hg : o.guard = none) (s x : Operand) (t : TypeId) (hop : o.op = .call { callee := .builtin .append, args := #[s, x], argTypes := #[t, t] })
    (base : Nat) (e : TypeId) (i : TypeInfo) (z : Value) (size bytes : Nat) (ht : P.underlying t = some (.slice e)) (hi : P.info? e = some i) (hz : i.zero = some z)
    (hsize : i.size = size) (hby : i.bytes = bytes) (hzs : z.cells.size = size) (hsz : 0 < size)
    (v : Value) (n : Nat) (xs : List Value) (hs : a.eval s = v) (hown : w.ownsRow base e size v n xs)
    (ad : Addr) (m c : Nat) (news : List Value) (hx : a.eval x = .slice (some ad) m c) (hl : news.length = m * size) (hnews : ∀ j u, news[j]? = some u → w.cell? (ad.add j) = some u) (h1 : ∀ u ∈ news, u.oneCell' = true)
    (h63 : n + m ≤ maxLen) (hbytes : (n + m) * bytes ≤ 140737488355328) (hbase : base ≤ w.heap.size)
    (hK : ∀ v' w', w'.ownsRow base e size v' (n + m) (xs ++ news) → w.grownBy w' v.ownBlock → K (a.put o.dst v') w') :
    if Region.wanted o (yielded ops a.tmps) = true then Oper.wp P o a w K Q else E := by
  have hw : Region.wanted o (yielded ops a.tmps) = true := by simp [Region.wanted, hg]
  rw [if_pos hw]
  exact wp_append_own w s x t hop base e i z size bytes ht hi hz hsize hby hzs hsz v n xs hs hown ad m c news hx hl hnews h1 h63 hbytes hbase fun v' w' h2 h3 _ => hK v' w' h2 h3
end
theorem Ints.open {w : World} {v : Value} {xs : List Int} (h : Ints .i64 w v xs) (h0 : 0 < xs.length) : ∃ ad c, v = .slice (some ad) xs.length c ∧ xs.length ≤ c ∧ c ≤ 9223372036854775807 ∧ ad.block < w.heap.size ∧ (∀ j u, (xs.map (Value.int .i64))[j]? = some u → w.cell? (ad.add j) = some u) ∧ ∀ i, i < xs.length → fits .i64 (nth xs i) := by
  obtain ⟨A, c, rfl, hs, hf⟩ := h
  obtain ⟨ad, rfl, hb, _⟩ := hs.get h0
  exact ⟨ad, c, rfl, hs.le, hs.cap, hb, ints_cells hs, hf⟩

set_option maxRecDepth 100000 in
set_option maxHeartbeats 4000000 in
theorem refCopy_any (w : World) (v1 v2 : Value) (W : List Int) (C : List (List Int)) (h : Prior w v1 v2 W C) (hP : PrOk W C) :
    Calls Try.prog 77 #[.agg #[v1, v2]] w fun x w' => ∃ o1 o2, x = .returned (.agg #[o1, o2]) ∧ OPr w' 0 o1 o2 W C ∧ Ext w w' := by
  obtain ⟨h1, h2⟩ := h
  obtain ⟨i0, hi0, hz0, hz1, hz2⟩ := info_parts Try.infoInt
  obtain ⟨i2, hi2, hj0, hj1, hj2⟩ := info_parts Try.infoSl
  have q2 := run_buildSlice_zero (P := Try.prog) 22 3 i0 Try.underlying22 hi0
  have n0 := hP.n0
  have n64 := hP.n64
  have c4 := hP.c4
  have HPr : Hid (∀ a, a < C.length → (nthL C a).length = W.length) := fun a ha => hP.cl a ha
  have G2 := Lib.hid h2
  obtain ⟨ad, c, rfl, hle, hcap, hbW, hcW, hfW⟩ := h1.open n0
  have hWc : ∀ w1, Ext w w1 → ∀ j u, (W.map (Value.int .i64))[j]? = some u → w1.cell? (ad.add j) = some u := fun w1 hx j u hu => (hx.cell (by rw [addBlock]; exact hbW)).trans (hcW j u hu)
  obtain ⟨A2, c2, vs, rfl, hs2, _⟩ := h2
  have hle2 := hs2.le
  have hcap2 := hs2.cap
  clear hs2 hP
  obtain ⟨W1, hW1⟩ : ∃ W1, W1 = (w.alloc (.cells #[.slice (some ad) W.length c, .slice A2 C.length c2] 45)).alloc (.cells #[.slice none 0 0, .slice none 0 0] 45) := ⟨_, rfl⟩
  have hx1 : Ext w W1 := by rw [hW1]; exact ((Ext.refl w).alloc _).alloc _
  have hsz : W1.heap.size = w.heap.size + 2 := by rw [hW1]; simp
  have ho : (W1.alloc (.cells #[] 3)).ownsRow W1.heap.size 3 1 (.slice (some ⟨W1.heap.size, 0, none⟩) 0 0) 0 [] := World.ownsRow_lit W1 #[] 0 (Nat.le_refl _) (by unfold maxLen; omega) rfl
  have hc := hWc _ (hx1.trans ((Ext.refl W1).alloc (.cells #[] 3)))
  have h1c := ints_one .i64 W
  have hlen : (W.map (Value.int .i64)).length = W.length * 1 := by simp
  obtain ⟨qb0, qb1⟩ := cellsP w (.slice (some ad) W.length c) (.slice A2 C.length c2) 45
  have rb := SBlk.made (w.alloc (.cells #[.slice (some ad) W.length c, .slice A2 C.length c2] 45)) (.slice none 0 0) (.slice none 0 0) 45
  have qb0 : W1.cell? ⟨w.heap.size, 0, none⟩ = some (.slice (some ad) W.length c) := by rw [hW1]; exact (((Ext.refl _).alloc _).cell (by simp)).trans qb0
  have qb1 : W1.cell? ⟨w.heap.size, 1, none⟩ = some (.slice A2 C.length c2) := by rw [hW1]; exact (((Ext.refl _).alloc _).cell (by simp)).trans qb1
  have rb : SBlk W1 (w.heap.size + 1) 45 (.slice none 0 0) (.slice none 0 0) := by rw [hW1]; simpa using rb
  rw [hsz] at ho
  have QB1 := Lib.hid qb1
  have RB := Lib.hid rb
  have HX1 := Lib.hid hx1
  have HSZ := Lib.hid hsz
  rw [hW1] at ho hc qb0
  clear qb1 rb hx1 hsz
  have HW1 := Lib.hid hW1
  clear hW1 hWc hcW
  go_enter Try.func77, Try.ntmps77
  go_wp2_with (at_builtin; refine wpList_append_own _ rfl (.tmp 5) (.tmp 7) _ rfl (w.heap.size + 2) 3 i0 (.int .i64 0) 1 8 Try.underlying22 hi0 hz0 hz1 hz2 rfl (by omega) (.slice (some ⟨w.heap.size + 2, 0, none⟩) 0 0) 0 [] rfl ho ad W.length c (W.map (Value.int .i64)) rfl hlen hc h1c (by unfold maxLen; omega) (by omega) (by simp) ?_; intro vW w2 hown hg _; obtain ⟨AW, cW, hvW, hsW, _⟩ := own_slice hown (by omega); subst hvW)
  rw [← HW1.out] at hg
  have hx2 : Ext W1 w2 := Below.grown ((Ext.refl W1).alloc _) hg (by simp) (fun k hk => by have := HSZ.out; simp [Value.ownBlock] at hk; omega)
  have hIW : Ints .i64 w2 (.slice AW (0 + W.length) cW) W := Ints.of_own (by simpa using hown) (by omega) hfW
  have hZW : Zero (.slice AW (0 + W.length) cW) := own_zero hown (by omega)
  rw [Nat.zero_add] at hIW hZW
  have hR := DRel.start w2 _ W hIW hZW
  have hx3 := hx2.alloc (.cells #[.slice AW W.length cW, .slice none 0 0] 45)
  have hgw : W1.heap.size ≤ w2.heap.size := hx2.size
  clear hg hown hsW hx2 hIW ho hc hZW
  obtain ⟨vW, hvW⟩ : ∃ v, v = Value.slice AW W.length cW := ⟨_, rfl⟩
  have HslW : Hid (IsSl vW) := ⟨AW, W.length, cW, hvW⟩
  rw [← hvW] at hR hx3
  rw [← hvW]
  clear hvW
  go_loopw [4] (fun v wr => ∃ i : Nat, i ≤ C.length ∧ v = .int .i64 i ∧ (∃ o vals R, Hid (R = C.take i) ∧ R.length = i ∧ DRel wr w2.heap.size vW o W R vals) ∧ Ext W1 wr) (fun v _ => C.length - (intOf v).toNat)
  case atStart => exact ⟨0, Nat.zero_le _, rfl, ⟨.slice none 0 0, [], [], rfl, rfl, hR⟩, hx3⟩
  case round =>
    obtain ⟨i, hi, rfl, ⟨o, vals, R, hRl, hRn, hR⟩, hxr⟩ := hrel
    have hS1 := HSZ.out
    have QB1r := (hxr.cell (show w.heap.size < _ by omega)).trans QB1.out
    by_cases hlt : i < C.length
    · have hxw := HX1.out.trans hxr
      have lr : w2.heap.size < wr.heap.size := World.rowIs.lt hR.blk
      obtain ⟨ad4, A', c', rfl, hb, hce, hle', hcap', hIc⟩ := (G2.out.ext hxw).get hlt
      have hprt := HPr.out i hlt
      obtain ⟨ad5, c5, e5, hle5, hcap5, hb5, hc5, hf5⟩ := hIc.open (by rw [hprt]; exact n0)
      injection e5 with e5 _ e6
      subst e5
      subst e6
      obtain ⟨Li, hLi⟩ : ∃ L, L = nthL C i := ⟨_, rfl⟩
      rw [← hLi] at hce hle' hle5 hc5 hf5 hprt
      rw [hprt] at hce hle5
      have hc1 := SBlk.cell1 hR.blk
      have hq1 : (wr.alloc (.cells #[] 3)).cell? ⟨w.heap.size, 1, none⟩ = some (.slice (some ad4) C.length c2) := (((Ext.refl wr).alloc _).cell (show w.heap.size < _ by omega)).trans QB1r
      have hce1 : (wr.alloc (.cells #[] 3)).cell? (ad4.add i) = some (.slice (some ad5) W.length c') := (((Ext.refl wr).alloc _).cell (by rw [addBlock]; exact hb)).trans hce
      have hc11 : (wr.alloc (.cells #[] 3)).cell? ⟨w2.heap.size, 1, none⟩ = some o := (((Ext.refl wr).alloc _).cell (show w2.heap.size < _ by omega)).trans hc1
      have HLi := Lib.hid hLi
      have HR := Lib.hid hR
      have HRn := Lib.hid hRn
      have Hprt := Lib.hid hprt
      clear hLi hIc hR hRn hprt hle'
      have hown0 : Hid ((wr.alloc (.cells #[] 3)).ownsRow wr.heap.size 3 1 (.slice (some ⟨wr.heap.size, 0, none⟩) 0 0) 0 []) := World.ownsRow_lit wr #[] 0 (Nat.le_refl _) (by unfold maxLen; omega) rfl
      have hlc : (Li.map (Value.int .i64)).length = W.length * 1 := by simp [Hprt.out]
      have hone := ints_one .i64 Li
      have Hc5 := Lib.hid hc5
      clear hc5
      go_wp2
      go_region_law (first | (refine step_append_own24 rfl (.tmp 19) (.tmp 24) _ rfl wr.heap.size 3 i0 (.int .i64 0) 1 8 Try.underlying22 hi0 hz0 hz1 hz2 rfl (by omega) (.slice (some ⟨wr.heap.size, 0, none⟩) 0 0) 0 [] (by simp [Act.eval]) ?hown ad5 W.length c' (Li.map (Value.int .i64)) (by simp [Act.eval]) hlc ?hnews hone (by unfold maxLen; omega) (by omega) ?hbase ?_; (case hown => exact own_ext24 hown0.out (Ext.refl _).drew); (case hnews => (intro j u hu; exact (((((Ext.refl wr).alloc _).drew).cell (by rw [addBlock]; exact hb5)).trans (Hc5.out j u hu)))); (case hbase => simp); intro vC w3 hown3 hg3; obtain ⟨AC, cC, evC, _, _⟩ := own_slice hown3 (by omega); rw [Nat.zero_add] at evC; subst evC; have hy3 : Ext wr w3 := Below.grown (((Ext.refl wr).alloc _).drew) hg3 (by simp) (fun k hk => by simp [Value.ownBlock] at hk; omega); have lt3 : w2.heap.size < w3.heap.size := Nat.lt_of_lt_of_le lr hy3.size; have hc13 := (hy3.cell (show w2.heap.size < _ from lr)).trans hc1; have hc14 := (((Ext.refl w3).alloc (.cells #[.slice AC W.length cC] 22)).cell (show w2.heap.size < w3.heap.size from lt3)).trans hc13) | (refine step_append_own24 rfl (.tmp 18) (.tmp 26) _ rfl (w2.heap.size + 1) 22 i2 (.slice none 0 0) 1 24 Try.underlying43 hi2 hj0 hj1 hj2 rfl (by omega) o i vals (by simp [Act.eval]) ?hown ⟨w3.heap.size, 0, none⟩ 1 1 [.slice AC W.length cC] (by simp [Act.eval]) rfl ?hnews (by simp [Value.oneCell']) (by unfold maxLen; omega) (by omega) ?hbase ?_; (case hown => (have := (HR.out.ext hy3).own; rw [HRn.out] at this; exact this.alloc _)); (case hnews => exact cell_one_new _ _ _); (case hbase => (simp; omega)); intro o5 w5 hown5 hg5; obtain ⟨A5, c5', hv5, _, _⟩ := own_slice hown5 (by omega); subst hv5; have S5 := SBlk.grown (((HR.out.ext hy3).blk).ext ((Ext.refl w3).alloc _)) (((HR.out.ext hy3).own).alloc _) (by omega) hg5; have k5 := SBlk.cell1 S5; have f5 := World.rowIs.frozen S5 1))
      all_goals
        have hI3 : Ints .i64 w3 (.slice AC W.length cC) Li := Ints.of_own (by simpa using hown3) (by have := Hprt.out; omega) hf5
        have hZ3 : Zero (.slice AC W.length cC) := own_zero hown3 (by omega)
        have hp := Lib.hid ((HR.out.ext hy3).push hZ3 hI3 hg5 (by rw [HRn.out]; exact hown5))
        have hx5 := Lib.hid (((hxr.trans hy3).append (own_ext24 HR.out.own hy3) (by omega) hg5).setCell (p := ⟨w2.heap.size, 1, none⟩) (show W1.heap.size ≤ w2.heap.size from hgw) (.slice A5 (i + 1) c5'))
        clear hown3 hg3 hown5 hg5 hI3 hZ3
        go_wp2
        go_roundw
        case rel =>
          refine ⟨i + 1, by omega, by go_num, ⟨_, _, _, ?_, by simp [HRn.out], hp.out⟩, hx5.out⟩
          show _ = _
          rw [hRl.out, List.take_add_one, HLi.out]
          simp [hlt, nthL_eq hlt]
        case measure => simp [intOf]; omega
    · obtain rfl : i = C.length := by omega
      obtain ⟨Ao, no, co, rfl⟩ := hR.isSl
      obtain ⟨Aw, nw, cw, rfl⟩ := HslW.out
      have e0 := SBlk.cell0 hR.blk
      have e1 := SBlk.cell1 hR.blk
      have hrb := RB.out.ext hxr
      have z0 := SBlk.cell0 hrb
      have z1 := SBlk.cell1 (hrb.set0 (.slice Aw nw cw))
      have k0 := World.rowIs.frozen hrb 0
      have k1 := World.rowIs.frozen (hrb.set0 (.slice Aw nw cw)) 1
      have hF := hR.done hrb ⟨_, _, _, rfl⟩ ⟨_, _, _, rfl⟩ (by omega)
      have hS := SBlk.full hrb (x := .slice Aw nw cw) (y := .slice Ao no co)
      have m0 := SBlk.cell0 hS
      have m1 := SBlk.cell1 hS
      have hxF := ((HX1.out.trans hxr).setCell (p := ⟨w.heap.size + 1, 0, none⟩) (show w.heap.size ≤ w.heap.size + 1 by omega) (.slice Aw nw cw)).setCell (p := ⟨w.heap.size + 1, 1, none⟩) (show w.heap.size ≤ w.heap.size + 1 by omega) (.slice Ao no co)
      have HF := Lib.hid hF
      have HXF := Lib.hid hxF
      have HR := Lib.hid hR
      have HRn := Lib.hid hRn
      clear hF hxF hR hrb hRn hS
      go_wp2
      refine bodyPost_ret (v := .agg #[.slice Aw nw cw, .slice Ao no co]) (by simp [results, Try.results77, go_sem, m0, m1]) rfl ⟨_, _, rfl, ?_, HXF.out⟩
      have := HF.out
      rw [hRl.out, List.take_of_length_le (Nat.le_refl _)] at this
      exact this

end Go.Proofs.Ytdlhfihddipjaab
