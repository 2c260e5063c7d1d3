/-
  The agreement texts: divide of the reference.
-/
import Derived.Test.YtdlhfihddipjaabAgD
import Derived.Test.YtdlhfihddipjaabAg12
namespace Go.Proofs.Ytdlhfihddipjaab
open Go.RowKit

set_option maxRecDepth 100000 in
set_option maxHeartbeats 4000000 in
theorem refDivide_any (w : World) (u1 u2 v1 v2 : Value) (Q W : List Int) (D C : List (List Int)) (hq : Prior w u1 u2 Q D) (h : Prior w v1 v2 W C) (hQ : 0 < Q.length ∧ Q.length ≤ 64) (hD : ∀ i, i < D.length → (nthL D i).length = W.length ∧ pOk (nthL D i)) (hW0 : 0 < W.length) (hW : W.length ≤ 64) (hD4 : D.length ≤ 4) (a : Int) (e : Nat) (he : e < 18446744073709551616) (hk : (postsR W C a e).1.length = W.length) :
    Calls Try.prog 94 #[.agg #[u1, u2], .agg #[v1, v2], .int .i64 a, .int .u64 e] w fun x w' => ∃ o1 o2, x = .returned (.agg #[o1, o2]) ∧ OPr w' 0 o1 o2 Q (D.map fun c => pDiv W.length c (keysF (postsR W C a e).1)) ∧ Ext w w' := by
  obtain ⟨i0, hi0, hz0, hz1, hz2⟩ := info_parts Try.infoInt
  obtain ⟨i2, hi2, hj0, hj1, hj2⟩ := info_parts Try.infoSl
  have q2 := run_buildSlice_zero (P := Try.prog) 22 3 i0 Try.underlying22 hi0
  obtain ⟨g1, g2⟩ := hq
  obtain ⟨h1, h2⟩ := h
  have HKe : Hid (∀ w1, Ext w w1 → Calls Try.prog 115 #[.agg #[v1, v2], .int .i64 a, .int .u64 e] w1 fun x w' => ∃ v', x = .returned v' ∧ Ints .i64 w' v' (keysF (postsR W C a e).1) ∧ Ext w1 w') := fun w1 hx => keys_any w1 v1 v2 W C ⟨h1.ext hx, h2.ext hx⟩ a e he
  have hkl : (keysF (postsR W C a e).1).length = W.length := by rw [keysF_len]; exact hk
  obtain ⟨K, hK⟩ : ∃ K, K = keysF (postsR W C a e).1 := ⟨_, rfl⟩
  rw [← hK] at HKe hkl ⊢
  have HSp : Hid (∀ w1 va vb i, i < D.length → Ints .i64 w1 va (nthL D i) → Ints .i64 w1 vb K → Calls Try.prog 114 #[va, vb] w1 fun x w' => ∃ v, x = .returned (.tuple #[v, .int .i64 0]) ∧ Ints .i64 w' v (pDiv W.length (nthL D i) K) ∧ Zero v ∧ Ext w1 w') := fun w1 va vb i hi ha hb => by
    have hd := hD i hi
    have := rsplit_ok w1 va vb (nthL D i) K ha hb (by rw [hd.1, hkl]) (by omega) hd.2
    rw [hd.1] at this
    exact this.mono fun _ _ ⟨v, e, h1, h2, h3⟩ => ⟨v, e, h1, h2 hW0, h3⟩
  have G1 := Lib.hid g1
  have G2 := Lib.hid g2
  obtain ⟨Aq, cq, rfl, hsq, hfq⟩ := g1
  have hleq := hsq.le
  have hcapq := hsq.cap
  obtain ⟨adq, eqq, _, _⟩ := hsq.get hQ.1
  subst eqq
  obtain ⟨Aq2, cq2, vsq, rfl, hsq2, _⟩ := g2
  have hleq2 := hsq2.le
  have hcapq2 := hsq2.cap
  obtain ⟨A, c, rfl, hs, _⟩ := h1
  obtain ⟨A2, c2, vs, rfl, hs2, _⟩ := h2
  clear hs hs2 hK hk hsq2
  -- the boxes
  obtain ⟨W1, hW1⟩ : ∃ W1, W1 = ((w.alloc (.cells #[.slice (some adq) Q.length cq, .slice Aq2 D.length cq2] 45)).alloc (.cells #[.slice A W.length c, .slice A2 C.length c2] 45)).alloc (.cells #[.slice none 0 0, .slice none 0 0] 45) := ⟨_, rfl⟩
  have hx1 : Ext w W1 := by rw [hW1]; exact (((Ext.refl w).alloc _).alloc _).alloc _
  have hsz : W1.heap.size = w.heap.size + 3 := by rw [hW1]; simp
  have ho : (W1.alloc (.cells #[] 3)).ownsRow W1.heap.size 3 1 (.slice (some ⟨W1.heap.size, 0, none⟩) 0 0) 0 [] := World.ownsRow_lit W1 #[] 0 (Nat.le_refl _) (by unfold maxLen; omega) rfl
  have hc := ints_cells ((hsq.ext hx1).ext ((Ext.refl W1).alloc (.cells #[] 3)))
  have h1c := ints_one .i64 Q
  have hlen : (Q.map (Value.int .i64)).length = Q.length * 1 := by simp
  obtain ⟨qb0, qb1⟩ := cellsP w (.slice (some adq) Q.length cq) (.slice Aq2 D.length cq2) 45
  obtain ⟨pb0, pb1⟩ := cellsP (w.alloc (.cells #[.slice (some adq) Q.length cq, .slice Aq2 D.length cq2] 45)) (.slice A W.length c) (.slice A2 C.length c2) 45
  have rb := SBlk.made ((w.alloc (.cells #[.slice (some adq) Q.length cq, .slice Aq2 D.length cq2] 45)).alloc (.cells #[.slice A W.length c, .slice A2 C.length c2] 45)) (.slice none 0 0) (.slice none 0 0) 45
  have qb0 : W1.cell? ⟨w.heap.size, 0, none⟩ = some (.slice (some adq) Q.length cq) := by rw [hW1]; exact ((((Ext.refl _).alloc _).alloc _).cell (by simp)).trans qb0
  have qb1 : W1.cell? ⟨w.heap.size, 1, none⟩ = some (.slice Aq2 D.length cq2) := by rw [hW1]; exact ((((Ext.refl _).alloc _).alloc _).cell (by simp)).trans qb1
  have pb0 : W1.cell? ⟨w.heap.size + 1, 0, none⟩ = some (.slice A W.length c) := by rw [hW1]; refine (((Ext.refl _).alloc _).cell (by simp)).trans ?_; simp
  have pb1 : W1.cell? ⟨w.heap.size + 1, 1, none⟩ = some (.slice A2 C.length c2) := by rw [hW1]; refine (((Ext.refl _).alloc _).cell (by simp)).trans ?_; simp
  have rb : SBlk W1 (w.heap.size + 1 + 1) 45 (.slice none 0 0) (.slice none 0 0) := by rw [hW1]; simpa using rb
  have hsz' := hsz
  rw [hsz] at ho
  have QB0 := Lib.hid qb0
  have QB1 := Lib.hid qb1
  have PB0 := Lib.hid pb0
  have PB1 := Lib.hid pb1
  have RB := Lib.hid rb
  have HX1 := Lib.hid hx1
  have HSZ := Lib.hid hsz
  rw [hW1] at ho hc qb0
  clear qb1 pb0 pb1 rb hx1 hsz hsz'
  have HW1 := Lib.hid hW1
  clear hW1
  go_enter Try.func94, Try.ntmps94
  go_wp2_with (at_builtin; refine wpList_append_own _ rfl (.tmp 13) (.tmp 15) _ rfl (w.heap.size + 3) 3 i0 (.int .i64 0) 1 8 Try.underlying22 hi0 hz0 hz1 hz2 rfl (by omega) (.slice (some ⟨w.heap.size + 3, 0, none⟩) 0 0) 0 [] rfl ho adq Q.length cq (Q.map (Value.int .i64)) rfl hlen hc h1c (by unfold maxLen; omega) (by omega) (by simp) ?_; intro vW w2 hown hg _; obtain ⟨AW, cW, hvW, hsW, _⟩ := own_slice hown (by omega); subst hvW)
  rw [← HW1.out] at hg
  have hx2 : Ext W1 w2 := Below.grown ((Ext.refl W1).alloc _) hg (by simp) (fun k hk => by have := HSZ.out; simp [Value.ownBlock] at hk; omega)
  have hIW : Ints .i64 w2 (.slice AW (0 + Q.length) cW) Q := Ints.of_own (by simpa using hown) (by omega) hfq
  have hZW : Zero (.slice AW (0 + Q.length) cW) := by
    obtain ⟨gW, capW, _, eW, _⟩ := own_row hown (by omega)
    exact ⟨gW, _, capW, eW⟩
  rw [Nat.zero_add] at hIW hZW
  have hR := DRel.start w2 _ Q hIW hZW
  have hx3 := hx2.alloc (.cells #[.slice AW Q.length cW, .slice none 0 0] 45)
  have hg3 : W1.heap.size ≤ w2.heap.size := hx2.size
  clear hg hown hsW hx2 hIW ho hc hZW
  obtain ⟨vW, hvW⟩ : ∃ v, v = Value.slice AW Q.length cW := ⟨_, rfl⟩
  have HslW : Hid (IsSl vW) := ⟨AW, Q.length, cW, hvW⟩
  rw [← hvW] at hR hx3
  rw [← hvW]
  have HvW := Lib.hid hvW
  clear hvW
  go_loopw [10] (fun v wr => ∃ i : Nat, i ≤ D.length ∧ v = .int .i64 i ∧ (∃ o vals R, Hid (R = (D.map fun c => pDiv W.length c K).take i) ∧ R.length = i ∧ DRel wr w2.heap.size vW o Q R vals) ∧ Ext W1 wr) (fun v _ => D.length - (intOf v).toNat)
  case atStart => exact ⟨0, Nat.zero_le _, rfl, ⟨.slice none 0 0, [], [], rfl, rfl, hR⟩, hx3⟩
  case round =>
    obtain ⟨i, hi, rfl, ⟨o, vals, R, hRl, hRn, hR⟩, hxr⟩ := hrel
    have hS1 := HSZ.out
    have QB1r := (hxr.cell (show w.heap.size < _ by omega)).trans QB1.out
    by_cases hlt : i < D.length
    · have hxw := HX1.out.trans hxr
      have pb0 := (hxr.cell (show w.heap.size + 1 < _ by omega)).trans PB0.out
      have pb1 := (hxr.cell (show w.heap.size + 1 < _ by omega)).trans PB1.out
      have lr : w.heap.size + 1 < wr.heap.size := by have := hxr.size; omega
      obtain ⟨ad, A', c', rfl, hb, hce, hle', hcap', hIc⟩ := (G2.out.ext hxw).get hlt
      have hed : wr.drew.cell? (ad.add i) = some (.slice A' (nthL D i).length c') := hce
      obtain ⟨Li, hLi⟩ : ∃ L, L = (nthL D i).length := ⟨_, rfl⟩
      rw [← hLi] at hce hed hle'
      have hIc : Ints .i64 wr (.slice A' Li c') (nthL D i) := by rw [hLi]; exact hIc
      have HIc := Lib.hid hIc
      have HR := Lib.hid hR
      have HRn := Lib.hid hRn
      clear hLi hIc hR hRn
      go_wp2
      go_region_with (first | (go_at_call 115; refine (HKe.out _ ?_).mono ?_; (exact hxw.drew); rintro x w3 ⟨vk, rfl, hIk, hy⟩; have hyr := ((Ext.refl wr).drew).trans hy; have e1 := (hyr.cell (by rw [addBlock]; exact hb)).trans hce; have e2 := (hyr.cell (show w.heap.size < _ by omega)).trans QB1r) | (go_at_call 114; refine (HSp.out _ _ _ i hlt ?_ ?_).mono ?_; (exact HIc.out.ext hyr); (exact hIk); rintro x w4 ⟨vs4, rfl, hIs, hZs, hy2⟩; have hyr := hyr.trans hy2; obtain ⟨As, cs, hvs, _, _⟩ := id hIs; subst hvs))
      all_goals
        have hR4 := HR.out.ext hyr
        have hc1 := SBlk.cell1 hR4.blk
        have lt4 : w2.heap.size < w4.heap.size := World.rowIs.lt hR4.blk
        have HI := Lib.hid hIs
        have HZ := Lib.hid hZs
        have HR4 := Lib.hid hR4
        have hown4 := hR4.own
        rw [HRn.out] at hown4
        clear hIs hZs hIk hR4
        go_wp2_with (at_builtin; refine wpList_append_own _ rfl (.tmp 39) (.tmp 41) _ rfl (w2.heap.size + 1) 22 i2 (.slice none 0 0) 1 24 Try.underlying43 hi2 hj0 hj1 hj2 rfl (by omega) o i vals rfl (hown4.alloc _) ⟨w4.heap.size, 0, none⟩ 1 1 [.slice As _ cs] rfl rfl (cell_one_new _ _ _) (by simp [Value.oneCell']) (by unfold maxLen; omega) (by omega) (by simp; omega) ?_; intro o5 w5 hown5 hg5 _; obtain ⟨A5, c5, hv5, _, _⟩ := own_slice hown5 (by omega); subst hv5; have S5 := SBlk.grown (HR4.out.blk.ext ((Ext.refl w4).alloc _)) (hown4.alloc _) (by omega) hg5; have k5 := SBlk.cell1 S5; have f5 := World.rowIs.frozen S5 1)
        go_roundw
        case rel =>
          have hp := HR4.out.push HZ.out HI.out hg5 (by rw [HRn.out]; exact hown5)
          refine ⟨i + 1, by omega, by go_num, ⟨_, _, _, ?_, by simp [HRn.out], hp⟩, ?_⟩
          · show _ = _
            rw [hRl.out, List.take_add_one]
            simp [hlt, nthL_eq hlt]
          · have hx4 := hxr.trans hyr
            exact (hx4.append hown4 (by omega) hg5).setCell (show W1.heap.size ≤ w2.heap.size by omega) _
        case measure => simp [intOf]; omega
    · obtain rfl : i = D.length := by omega
      obtain ⟨Ao, no, co, rfl⟩ := hR.isSl
      obtain ⟨Aw, nw, cw, rfl⟩ := HslW.out
      have e0 := SBlk.cell0 hR.blk
      have e1 := SBlk.cell1 hR.blk
      have hrb := RB.out.ext hxr
      have z0 := SBlk.cell0 hrb
      have z1 := SBlk.cell1 (hrb.set0 (.slice Aw nw cw))
      have k0 := World.rowIs.frozen hrb 0
      have k1 := World.rowIs.frozen (hrb.set0 (.slice Aw nw cw)) 1
      have hF := hR.done hrb ⟨_, _, _, rfl⟩ ⟨_, _, _, rfl⟩ (by omega)
      have hS := SBlk.full hrb (x := .slice Aw nw cw) (y := .slice Ao no co)
      have m0 := SBlk.cell0 hS
      have m1 := SBlk.cell1 hS
      have hxF := ((HX1.out.trans hxr).setCell (p := ⟨w.heap.size + 1 + 1, 0, none⟩) (show w.heap.size ≤ w.heap.size + 1 + 1 by omega) (.slice Aw nw cw)).setCell (p := ⟨w.heap.size + 1 + 1, 1, none⟩) (show w.heap.size ≤ w.heap.size + 1 + 1 by omega) (.slice Ao no co)
      have HF := Lib.hid hF
      have HXF := Lib.hid hxF
      have HR := Lib.hid hR
      have HRn := Lib.hid hRn
      clear hF hxF hR hrb hRn hS
      go_wp2
      refine bodyPost_ret (v := .agg #[.slice Aw nw cw, .slice Ao no co]) (by simp [results, Try.results94, go_sem, m0, m1]) rfl ⟨_, _, rfl, ?_, HXF.out⟩
      have := HF.out
      rw [hRl.out, List.take_of_length_le (by simp)] at this
      exact this

end Go.Proofs.Ytdlhfihddipjaab
