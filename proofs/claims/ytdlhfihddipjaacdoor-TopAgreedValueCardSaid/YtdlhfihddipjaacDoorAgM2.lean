/-
  The agreement texts: Model of the program.
-/
import Derived.Test.YtdlhfihddipjaacDoorAgM
import Derived.Test.YtdlhfihddipjaacDoorAgR
namespace Go.Proofs.YtdlhfihddipjaacDoor
open Go.RowKit

/-- What Model gives. -/
def mdN (W : List Int) (C : List (List Int)) : Int := if agErr W C ≠ 0 then 0 else W.length
def mdR (W : List Int) (C : List (List Int)) : List (List Nat) := if agErr W C ≠ 0 then [] else C.map relOf

section
variable {P : Program} {ops : Array Oper} {o : Oper} {a : Act} {w : World} {K : Act → World → Prop} {Q : Exit → Act → World → Prop} {E : Prop}
/-- An append onto a row of the call's own, as one step of a region that draws its order. -/
theorem step_append_ownM (hg : o.guard = none) (s x : Operand) (t : TypeId) (hop : o.op = .call { callee := .builtin .append, args := #[s, x], argTypes := #[t, t] })
    (base : Nat) (e : TypeId) (i : TypeInfo) (z : Value) (size bytes : Nat) (ht : P.underlying t = some (.slice e)) (hi : P.info? e = some i) (hz : i.zero = some z)
    (hsize : i.size = size) (hby : i.bytes = bytes) (hzs : z.cells.size = size) (hsz : 0 < size)
    (v : Value) (n : Nat) (xs : List Value) (hs : a.eval s = v) (hown : w.ownsRow base e size v n xs)
    (ad : Addr) (m c : Nat) (news : List Value) (hx : a.eval x = .slice (some ad) m c) (hl : news.length = m * size) (hnews : ∀ j u, news[j]? = some u → w.cell? (ad.add j) = some u) (h1 : ∀ u ∈ news, u.oneCell' = true)
    (h63 : n + m ≤ maxLen) (hbytes : (n + m) * bytes ≤ 140737488355328) (hbase : base ≤ w.heap.size)
    (hK : ∀ v' w', w'.ownsRow base e size v' (n + m) (xs ++ news) → w.grownBy w' v.ownBlock → K (a.put o.dst v') w') :
    if Region.wanted o (yielded ops a.tmps) = true then Oper.wp P o a w K Q else E := by
  have hw : Region.wanted o (yielded ops a.tmps) = true := by simp [Region.wanted, hg]
  rw [if_pos hw]
  exact wp_append_own w s x t hop base e i z size bytes ht hi hz hsize hby hzs hsz v n xs hs hown ad m c news hx hl hnews h1 h63 hbytes hbase fun v' w' h2 h3 _ => hK v' w' h2 h3
end

set_option maxRecDepth 100000 in
set_option maxHeartbeats 4000000 in
theorem Model_any (w : World) (v1 v2 : Value) (W : List Int) (C : List (List Int)) (h : Prior w v1 v2 W C) :
    Calls Tryd.prog 14 #[.agg #[v1, v2]] w fun x w' => ∃ o1 o2 o3, x = .returned (.tuple #[.agg #[o1, o2, o3], .int .i64 (agErr W C)]) ∧ Mdl w' o1 o2 o3 (mdN W C) [] (mdR W C) ∧ Ext w w' := by
  have HCh : Hid (∀ w1, Ext w w1 → Calls Tryd.prog 16 #[.agg #[v1, v2]] w1 fun x w' => x = .returned (.int .i64 (agErr W C)) ∧ Ext w1 w') := fun w1 hx => agCheck_any w1 v1 v2 W C (h.ext hx)
  obtain ⟨h1, h2⟩ := h
  obtain ⟨i2, hi2, hj0, hj1, hj2⟩ := info_parts Tryd.infoSlU
  have HRe : Hid (∀ w1 v p, 0 < W.length → W.length ≤ 64 → Ints .i64 w1 v p → p.length = W.length → pOk p → Calls Tryd.prog 33 #[v] w1 fun e w' => ∃ v', e = .returned v' ∧ Sets w' v' (relOf p) ∧ Zero v' ∧ Ext w1 w') := fun w1 v p h0 h64 hI hl hp => relation0_ok w1 v p hI (by rw [hl]; exact h64) hp
  have H2 := Lib.hid h2
  obtain ⟨A, c, rfl, hs, _⟩ := h1
  have hle := hs.le
  have hcap := hs.cap
  obtain ⟨A2, c2, vs, rfl, hs2, _⟩ := h2
  have hle2 := hs2.le
  have hcap2 := hs2.cap
  clear hs hs2
  obtain ⟨q0, q1⟩ := cellsP w (.slice A W.length c) (.slice A2 C.length c2) 37
  obtain ⟨W1, hW1⟩ : ∃ W1, W1 = (w.alloc (.cells #[.slice A W.length c, .slice A2 C.length c2] 37)).alloc (.cells #[.int .i64 0, .slice none 0 0, .slice none 0 0] 42) := ⟨_, rfl⟩
  have hx1 : Ext w W1 := by rw [hW1]; exact ((Ext.refl w).alloc _).alloc _
  have hsz : W1.heap.size = w.heap.size + 2 := by rw [hW1]; simp
  have rb := MBlk.made (w.alloc (.cells #[.slice A W.length c, .slice A2 C.length c2] 37)) (.int .i64 0) (.slice none 0 0) (.slice none 0 0) 42
  have qb0 : W1.cell? ⟨w.heap.size, 0, none⟩ = some (.slice A W.length c) := by rw [hW1]; exact (((Ext.refl _).alloc _).cell (by simp)).trans q0
  have qb1 : W1.cell? ⟨w.heap.size, 1, none⟩ = some (.slice A2 C.length c2) := by rw [hW1]; exact (((Ext.refl _).alloc _).cell (by simp)).trans q1
  have rb : MBlk W1 (w.heap.size + 1) 42 (.int .i64 0) (.slice none 0 0) (.slice none 0 0) := by rw [hW1]; simpa using rb
  have q0' := qb0
  have q1' := qb1
  rw [hW1] at q0' q1'
  have CA := Lib.hid (HCh.out W1 hx1)
  rw [hW1] at CA
  obtain ⟨z, hz⟩ : ∃ z, z = agErr W C := ⟨_, rfl⟩
  rw [← hz] at CA ⊢
  have HZ := Lib.hid hz
  have HW1 := Lib.hid hW1
  have QB0 := Lib.hid qb0
  have QB1 := Lib.hid qb1
  have RB := Lib.hid rb
  have HX1 := Lib.hid hx1
  have HSZ := Lib.hid hsz
  clear q0 q1 qb0 qb1 rb hx1 hsz hW1 hz
  go_enter Tryd.func14, Tryd.ntmps14
  go_wp2_with fail
  refine CA.out.mono ?_
  rintro x w2 ⟨rfl, hy⟩
  rw [← HW1.out] at hy
  have hx2 := HX1.out.trans hy
  have hS1 := HSZ.out
  have p0 := (hy.cell (show w.heap.size < _ by omega)).trans QB0.out
  have p1 := (hy.cell (show w.heap.size < _ by omega)).trans QB1.out
  have hrb := RB.out.ext hy
  clear q0' q1'
  by_cases e0 : z = 0
  · have t : (z != 0) = false := by rw [e0]; rfl
    have hP := agErr_zero (HZ.out.symm.trans e0)
    have n0 := hP.n0
    have n64 := hP.n64
    have c4 := hP.c4
    have HP := Lib.hid hP
    have HRb := Lib.hid hrb
    have E0 := Lib.hid e0
    have hM := MRel.start w2 (W.length : Int)
    have hX := hy.alloc (.cells #[.int .i64 (W.length : Int), .slice none 0 0, .slice none 0 0] 42)
    have hl2 : w.heap.size + 1 < w2.heap.size := by have := hy.size; omega
    have p1' := (((Ext.refl w2).alloc (.cells #[.int .i64 (W.length : Int), .slice none 0 0, .slice none 0 0] 42)).cell (show w.heap.size < _ by omega)).trans p1
    have HM := Lib.hid hM
    clear e0 hrb hP hM
    go_wp2
    go_loopw [21] (fun v wr => ∃ i : Nat, i ≤ C.length ∧ v = .int .i64 i ∧ (∃ o vals R, Hid (R = (C.map relOf).take i) ∧ R.length = i ∧ MRel wr w2.heap.size W.length o R vals) ∧ Ext W1 wr) (fun v _ => C.length - (intOf v).toNat)
    case atStart => exact ⟨0, Nat.zero_le _, rfl, ⟨.slice none 0 0, [], [], rfl, rfl, HM.out⟩, hX⟩
    case round =>
      obtain ⟨i, hi, rfl, ⟨o, vals, R, hRl, hRn, hR⟩, hxr⟩ := hrel
      have hxw := HX1.out.trans hxr
      have p0 := (hxr.cell (show w.heap.size < _ by omega)).trans QB0.out
      have p1 := (hxr.cell (show w.heap.size < _ by omega)).trans QB1.out
      have lr : w2.heap.size < wr.heap.size := World.rowIs.lt hR.blk
      by_cases hlt : i < C.length
      · obtain ⟨ad4, A', c', rfl, hb, hce, hle', hcap', hIc⟩ := (H2.out.ext hxw).get hlt
        have hprt := HP.out.prt hlt
        have CR := Lib.hid (HRe.out wr.drew _ _ n0 n64 (hIc.ext (Ext.refl wr).drew) hprt.1 hprt.2)
        have hced : wr.drew.cell? (ad4.add i) = some (.slice A' (nthL C i).length c') := hce
        have hc2 := MBlk.c2 hR.blk
        have HR := Lib.hid hR
        have HRn := Lib.hid hRn
        have HI := Lib.hid hIc
        obtain ⟨Li, hLi⟩ : ∃ L, L = (nthL C i).length := ⟨_, rfl⟩
        rw [← hLi] at CR hce hced hle'
        clear hIc hR hRn hprt hLi
        go_wp2
        go_region_law (first | (refine step_append_ownM rfl (.tmp 26) (.tmp 29) _ rfl (w2.heap.size + 1) 25 i2 (.slice none 0 0) 1 24 Tryd.underlying40 hi2 hj0 hj1 hj2 rfl (by omega) o i vals (by simp [Act.eval]) ?hown ⟨w3.heap.size, 0, none⟩ 1 1 [.slice Av nv cv] (by simp [Act.eval]) rfl ?hnews (by simp [Value.oneCell']) (by unfold maxLen; omega) (by omega) ?hbase ?_; (case hown => (have := (HR.out.ext hy3).own; rw [HRn.out] at this; exact this.alloc _)); (case hnews => exact cell_one_new _ _ _); (case hbase => (simp; omega)); intro o5 w5 hown5 hg5; obtain ⟨A5, c5', hv5, _, _⟩ := own_slice hown5 (by omega); subst hv5; have S5 := MBlk.grown (((HR.out.ext hy3).blk).ext ((Ext.refl w3).alloc _)) (((HR.out.ext hy3).own).alloc _) (by omega) hg5; have k5 := MBlk.c2 S5; have f5 := World.rowIs.frozen S5 2) | (go_simp; go_at_call 33; refine CR.out.mono ?_; rintro x w3 ⟨v3, rfl, hI3, hZ3, hy3⟩; obtain ⟨Av, nv, cv, ev⟩ := hZ3.isSl; subst ev; have hy3 := ((Ext.refl wr).drew).trans hy3; have lt3 : w2.heap.size < w3.heap.size := Nat.lt_of_lt_of_le lr hy3.size; have c23 := (hy3.cell (show w2.heap.size < _ from lr)).trans hc2; have c24 := (((Ext.refl w3).alloc (.cells #[.slice Av nv cv] 25)).cell (show w2.heap.size < w3.heap.size from lt3)).trans c23; dsimp only))
        all_goals
          have hp := Lib.hid ((HR.out.ext hy3).push hZ3 hI3 hg5 (by rw [HRn.out]; exact hown5))
          have hx5 := Lib.hid (((hxr.trans hy3).append (own_ext24 HR.out.own hy3) (by omega) hg5).setCell (p := ⟨w2.heap.size, 2, none⟩) (show W1.heap.size ≤ w2.heap.size by omega) (.slice A5 (i + 1) c5'))
          clear hown5 hg5 hI3 hZ3
          go_wp2
          go_roundw
          case rel =>
            refine ⟨i + 1, by omega, by go_num, ⟨_, _, _, ?_, by simp [HRn.out], hp.out⟩, hx5.out⟩
            show _ = _
            rw [hRl.out, List.take_add_one]
            simp [hlt, nthL_eq hlt]
          case measure => simp [intOf]; omega
      · obtain rfl : i = C.length := by omega
        obtain ⟨Ao, no, co, rfl⟩ := hR.isSl
        have e0 := MBlk.c0 hR.blk
        have e1 := MBlk.c1 hR.blk
        have e2 := MBlk.c2 hR.blk
        have hrb := RB.out.ext hxr
        have z0 := MBlk.c0 hrb
        have z1 := MBlk.c1 (hrb.s0 (.int .i64 (W.length : Int)))
        have z2 := MBlk.c2 ((hrb.s0 (.int .i64 (W.length : Int))).s1 (.slice none 0 0))
        have k0 := World.rowIs.frozen hrb 0
        have k1 := World.rowIs.frozen (hrb.s0 (.int .i64 (W.length : Int))) 1
        have k2 := World.rowIs.frozen ((hrb.s0 (.int .i64 (W.length : Int))).s1 (.slice none 0 0)) 2
        have hF := hR.done hrb (by omega) (by omega)
        have hS := MBlk.full hrb (x := .int .i64 (W.length : Int)) (y := .slice none 0 0) (z := .slice Ao no co)
        have m0 := MBlk.c0 hS
        have m1 := MBlk.c1 hS
        have m2 := MBlk.c2 hS
        have hxF := (((hxw).setCell (p := ⟨w.heap.size + 1, 0, none⟩) (show w.heap.size ≤ w.heap.size + 1 by omega) (.int .i64 (W.length : Int))).setCell (p := ⟨w.heap.size + 1, 1, none⟩) (show w.heap.size ≤ w.heap.size + 1 by omega) (.slice none 0 0)).setCell (p := ⟨w.heap.size + 1, 2, none⟩) (show w.heap.size ≤ w.heap.size + 1 by omega) (.slice Ao no co)
        have HF := Lib.hid hF
        have HXF := Lib.hid hxF
        have HR := Lib.hid hR
        have HRn := Lib.hid hRn
        clear hF hxF hR hrb hRn hS
        go_wp2
        refine bodyPost_ret (v := .tuple #[.agg #[.int .i64 (W.length : Int), .slice none 0 0, .slice Ao no co], .int .i64 0]) (by simp [results, Tryd.results14, go_sem, m0, m1, m2]) rfl ⟨_, _, _, by rw [E0.out], ?_, HXF.out⟩
        have hq := HF.out
        rw [hRl.out, List.take_of_length_le (by simp)] at hq
        have ha : agErr W C = 0 := HZ.out.symm.trans E0.out
        unfold mdN mdR
        rw [if_neg (by rw [ha]; simp), if_neg (by rw [ha]; simp)]
        exact ⟨rfl, Sets.nil _, hq⟩
  · have t : (z != 0) = true := by rw [bne_iff_ne]; exact e0
    have z0 := MBlk.c0 hrb
    have z1 := MBlk.c1 (hrb.s0 (.int .i64 0))
    have z2 := MBlk.c2 ((hrb.s0 (.int .i64 0)).s1 (.slice none 0 0))
    have k0 := World.rowIs.frozen hrb 0
    have k1 := World.rowIs.frozen (hrb.s0 (.int .i64 0)) 1
    have k2 := World.rowIs.frozen ((hrb.s0 (.int .i64 0)).s1 (.slice none 0 0)) 2
    have hS := MBlk.full hrb (x := .int .i64 0) (y := .slice none 0 0) (z := .slice none 0 0)
    have m0 := MBlk.c0 hS
    have m1 := MBlk.c1 hS
    have m2 := MBlk.c2 hS
    have hxF := ((hx2.setCell (p := ⟨w.heap.size + 1, 0, none⟩) (show w.heap.size ≤ w.heap.size + 1 by omega) (.int .i64 0)).setCell (p := ⟨w.heap.size + 1, 1, none⟩) (show w.heap.size ≤ w.heap.size + 1 by omega) (.slice none 0 0)).setCell (p := ⟨w.heap.size + 1, 2, none⟩) (show w.heap.size ≤ w.heap.size + 1 by omega) (.slice none 0 0)
    have HXF := Lib.hid hxF
    have E0 := Lib.hid e0
    clear hrb hS hxF e0
    go_wp2
    refine bodyPost_ret (v := .tuple #[.agg #[.int .i64 0, .slice none 0 0, .slice none 0 0], .int .i64 z]) (by simp [results, Tryd.results14, go_sem, m0, m1, m2]) rfl ⟨_, _, _, rfl, ?_, HXF.out⟩
    have ha : agErr W C ≠ 0 := by rw [← HZ.out]; exact E0.out
    unfold mdN mdR
    rw [if_pos ha, if_pos ha]
    exact ⟨rfl, Sets.nil _, SRows.nil _⟩

end Go.Proofs.YtdlhfihddipjaacDoor
