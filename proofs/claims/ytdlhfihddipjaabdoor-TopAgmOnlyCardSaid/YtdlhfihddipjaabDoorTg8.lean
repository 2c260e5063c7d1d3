/-
  TopAgmOnly: the walk of the law.
-/
import Derived.Test.YtdlhfihddipjaabDoorTg7
namespace Go.Proofs.YtdlhfihddipjaabDoor
open Go.RowKit

/-- The table of a revision, one entry written anew. -/
def oneNew (r : List Int) (x y i : Nat) : Nat := if i = x then y else bestOf r i

set_option maxRecDepth 100000 in
set_option maxHeartbeats 8000000 in
theorem agmOnly_any (w : World) (v : Value) (r : List Int) (x y : Nat) (hG : RevG w) (h : Ints .i64 w v r) (hx : x < 18446744073709551616) (hy : y < 18446744073709551616) :
    Calls Tryd.prog 3 #[v, .int .u64 x, .int .u64 y] w fun e w' => e = .returned (.bool true) ∧ Ext w w' := by
  have HA : Hid (∀ w1, Ext w w1 → Calls Tryd.prog 5 #[] w1 fun e w' => e = .returned (.bool true) ∧ Ext w1 w') := fun w1 hx => awake22_any w1 (hG.ext hx)
  have H := Lib.hid h
  by_cases hr : RevOk 2 r
  · obtain ⟨m, hm2, hm4, hR⟩ := hr
    obtain rfl : m = 2 := by omega
    have hlen : r.length = 4 := hR.1
    have CC := Lib.hid (revCheck_ok w v 2 r h (by decide) hR)
    have HT : Hid (∀ w1 v d, Ints .i64 w1 v d → Ranks 2 d → Calls Tryd.prog 6 #[.int .i64 2, v] w1 fun e w' => ∃ g, e = .returned (.tuple #[.slice (some ⟨g, 0, none⟩) 16 16, .int .i64 0]) ∧ w1.heap.size ≤ g ∧ w'.rowIs g 23 16 (fun i => .int .u64 (bestOf d i : Nat)) ∧ Ext w1 w') := fun w1 v d h hd =>
      revTable_ok w1 v 2 d h (by decide) hd
    have HB : Hid (∀ w1, Ext w w1 → Calls Tryd.prog 7 #[.int .i64 2, v] w1 fun e w' => e = .returned (.tuple #[.int .u64 (bestOf r (full 4) : Nat), .int .i64 0]) ∧ w1 = w') := fun w1 hx => belief_ok w1 v 2 r (h.ext hx) (by decide) hR
    have hk16 : bestOf r (full 4) < 16 := bestOf_lt2 hR _
    obtain ⟨k, hk⟩ : ∃ k, k = bestOf r (full 4) := ⟨_, rfl⟩
    rw [← hk] at HB hk16
    have HRv : Hid (∀ w1 v T, Ext w w1 → Sets w1 v T → T.length = 16 → (∀ i, i < T.length → nthN T i < 16) → Calls Tryd.prog 8 #[.int .i64 2, .int .u64 k, v] w1 fun e w' => ∃ a b : Nat, e = .returned (.tuple #[.int .i64 (pMask 16 k (nthN T) : Nat), .int .u64 a, .int .u64 b, .int .i64 0]) ∧ Ext w1 w') := fun w1 v T hx h hl ht =>
      revision_ok w1 v T 2 k (hG.ext hx) (by decide) h hl ht hk16
    have HON : Hid (∀ w1 v T, Ext w w1 → Sets w1 v T → T.length = 16 → (∀ i, i < T.length → nthN T i < 16) → pMask 16 k (nthN T) ≠ 63 → Calls Tryd.prog 9 #[.int .i64 2, .int .u64 k, v] w1 fun e w' => e = .returned (.tuple #[.slice none 0 0, .int .i64 6]) ∧ Ext w1 w') := fun w1 v T hx h hl ht hn =>
      order_no w1 v T 2 k (hG.ext hx) (by decide) h hl ht hk16 hn
    have HOY : Hid (∀ w1 v T, Ext w w1 → Sets w1 v T → T.length = 16 → (∀ i, i < T.length → nthN T i < 16) → pMask 16 k (nthN T) = 63 → Calls Tryd.prog 9 #[.int .i64 2, .int .u64 k, v] w1 fun e w' => ∃ v' d, e = .returned (.tuple #[v', .int .i64 0]) ∧ Ints .i64 w' v' d ∧ d.length = 4 ∧ (∀ i, i < 4 → 0 ≤ nth d i ∧ nth d i ≤ 1000) ∧ (∀ x, x < 16 → bestOf d x = nthN T x) ∧ Ext w1 w') := fun w1 v T hx h hl ht hn =>
      order_yes w1 v T 2 k (hG.ext hx) (by decide) h hl ht hk16 hn
    have HE : Hid (∀ w1 v1 v2 p, Sets w1 v1 p → Sets w1 v2 p → Calls Tryd.prog 10 #[v1, v2] w1 fun e w' => e = .returned (.bool true) ∧ Ext w1 w') := fun w1 v1 v2 p h h' => equalS_yes w1 v1 v2 p h h'
    have HRk := Lib.hid hR
    have Hr16 : Hid (∀ i, bestOf r i < 16) := fun i => bestOf_lt2 hR i
    obtain ⟨A, c, rfl, hs, _⟩ := h
    have hle := hs.le
    have hcap := hs.cap
    rw [hlen] at hle H HB CC ⊢
    clear hk hm2 hm4 hR hs hlen
    by_cases h15 : x ≤ 15
    · have g1 : decide ((15 : Int) < (x : Int)) = false := by rw [decide_eq_false_iff_not]; omega
      have g1n : decide (15 < x) = false := by rw [decide_eq_false_iff_not]; omega
      by_cases y15 : y ≤ 15
      · have g2 : decide ((15 : Int) < (y : Int)) = false := by rw [decide_eq_false_iff_not]; omega
        have g2n : decide (15 < y) = false := by rw [decide_eq_false_iff_not]; omega
        go_enter Tryd.func3, Tryd.ntmps3
        go_wp2_with fail
        refine CC.out.mono ?_
        rintro _ w1 ⟨rfl, rfl⟩
        go_wp2_with fail
        refine (HT.out w _ r H.out HRk.out).mono ?_
        rintro _ w2 ⟨g, rfl, hg, hrow, hx2⟩
        go_wp2_with fail
        refine (HB.out w2 hx2).mono ?_
        rintro _ w3 ⟨rfl, rfl⟩
        have hcx := hrow.cell (show x < 16 by omega)
        have hfz := hrow.frozen x
        have hxi : (x : Int) < 16 := by omega
        have hrow2 := (hrow.set x (.int .u64 (y : Nat))).congr (g := fun i => .int .u64 (oneNew r x y i : Nat)) (fun i hi => by
          unfold oneNew
          by_cases q : i = x
          · subst q; simp
          · simp [q])
        have hTl : ∀ i, oneNew r x y i < 16 := fun i => by unfold oneNew; split; omega; exact Hr16.out i
        have hS := Sets.of_fun (f := oneNew r x y) hrow2 (by decide) (fun i _ => by have := hTl i; omega)
        have hx3 := hx2.setCell (p := ⟨g, x, none⟩) (show w.heap.size ≤ g from hg) (.int .u64 (y : Nat))
        obtain ⟨T, hT⟩ : ∃ T, T = tab 16 (oneNew r x y) := ⟨_, rfl⟩
        rw [← hT] at hS
        have hTlen : T.length = 16 := by rw [hT]; exact tab_len _ _
        have hTlt : ∀ i, i < T.length → nthN T i < 16 := fun i hi => by rw [hTlen] at hi; rw [hT, tab_nth hi]; exact hTl i
        have HS := Lib.hid hS
        have HTlen := Lib.hid hTlen
        have HTlt := Lib.hid hTlt
        have CRv := Lib.hid (HRv.out _ _ T hx3 hS hTlen hTlt)
        obtain ⟨M, hM⟩ : ∃ M, M = pMask 16 k (nthN T) := ⟨_, rfl⟩
        rw [← hM] at CRv
        have HM := Lib.hid hM
        clear hrow2 hS hT hTlen hTlt hTl hM
        go_wp2_with fail
        refine CRv.out.mono ?_
        rintro _ w4 ⟨a, b, rfl, hx4⟩
        have hx34 := hx3.trans hx4
        by_cases hm : M = 63
        · have t63 : ((M : Int) != 63) = false := by rw [bne_eq_false_iff_eq]; omega
          have CO := Lib.hid (HOY.out w4 _ T hx34 (HS.out.ext hx4) HTlen.out HTlt.out (HM.out.symm.trans hm))
          clear hm
          go_wp2_with fail
          refine CO.out.mono ?_
          rintro _ w5 ⟨v', d, rfl, hId, hdl, hdr, hdt, hx5⟩
          have hRd : Ranks 2 d := ⟨hdl, fun i hi => hdr i (by omega)⟩
          have CT := Lib.hid (HT.out w5 v' d hId hRd)
          have Hdt := Lib.hid hdt
          have hx35 := hx34.trans hx5
          have hx45 := hx4.trans hx5
          obtain ⟨A', c', rfl, _, _⟩ := hId
          clear hdl hdr hdt hRd
          go_wp2_with fail
          refine CT.out.mono ?_
          rintro _ w6 ⟨g', rfl, hg', hrow', hx6⟩
          have hT6 : Sets w6 (.slice (some ⟨g', 0, none⟩) 16 16) T := by
            have hh := hrow'.congr (g := fun i => .int .u64 (nthN T i : Nat)) (fun i hi => by rw [Hdt.out i hi])
            exact Sets.of_row hh HTlen.out (by decide) (fun i hi => by have := HTlt.out i hi; omega)
          have CE := Lib.hid (HE.out w6 _ _ T (HS.out.ext (hx45.trans hx6)) hT6)
          have hx36 := hx35.trans hx6
          clear hT6 hrow'
          go_wp2_with fail
          refine CE.out.mono ?_
          rintro _ w7 ⟨rfl, hx7⟩
          have hx37 := hx36.trans hx7
          go_wp2_with fail
          refine (HA.out w7 hx37).mono ?_
          rintro _ w8 ⟨rfl, hx8⟩
          go_wp2
          go_ret
          exact ⟨rfl, hx37.trans hx8⟩
        · have t63 : ((M : Int) != 63) = true := by rw [bne_iff_ne]; omega
          have CO := Lib.hid (HON.out w4 _ T hx34 (HS.out.ext hx4) HTlen.out HTlt.out (fun q => hm (HM.out.trans q)))
          clear hm
          go_wp2_with fail
          refine CO.out.mono ?_
          rintro _ w5 ⟨rfl, hx5⟩
          have hx35 := hx34.trans hx5
          go_wp2_with fail
          refine (HA.out w5 hx35).mono ?_
          rintro _ w6 ⟨rfl, hx6⟩
          go_wp2
          go_ret
          exact ⟨rfl, hx35.trans hx6⟩
      · have g2 : decide ((15 : Int) < (y : Int)) = true := by rw [decide_eq_true_eq]; omega
        have g2n : decide (15 < y) = true := by rw [decide_eq_true_eq]; omega
        go_enter Tryd.func3, Tryd.ntmps3
        go_wp2_with fail
        refine CC.out.mono ?_
        rintro _ w1 ⟨rfl, rfl⟩
        go_wp2_with fail
        refine (HA.out w (Ext.refl _)).mono ?_
        rintro _ w6 ⟨rfl, hx6⟩
        go_wp2
        go_ret
        exact ⟨rfl, hx6⟩
    · have g1 : decide ((15 : Int) < (x : Int)) = true := by rw [decide_eq_true_eq]; omega
      have g1n : decide (15 < x) = true := by rw [decide_eq_true_eq]; omega
      go_enter Tryd.func3, Tryd.ntmps3
      go_wp2_with fail
      refine CC.out.mono ?_
      rintro _ w1 ⟨rfl, rfl⟩
      go_wp2_with fail
      refine (HA.out w (Ext.refl _)).mono ?_
      rintro _ w6 ⟨rfl, hx6⟩
      go_wp2
      go_ret
      exact ⟨rfl, hx6⟩
  · have CC : Hid (Calls Tryd.prog 4 #[.int .i64 2, v] w fun e w' => ∃ c, c ≠ 0 ∧ e = .returned (.int .i64 c) ∧ w = w') := revCheck_bad w v 2 r h hr
    clear h hr
    go_enter Tryd.func3, Tryd.ntmps3
    go_wp2_with fail
    refine CC.out.mono ?_
    rintro _ w1 ⟨z, hz, rfl, rfl⟩
    have t : (z != 0) = true := by rw [bne_iff_ne]; exact hz
    clear hz
    go_wp2_with fail
    refine (HA.out w (Ext.refl _)).mono ?_
    rintro _ w6 ⟨rfl, hx6⟩
    go_wp2
    go_ret
    exact ⟨rfl, hx6⟩

theorem agmOnly_row (w : World) (hG : RevG w) (v : Value) (r : List Int) (h : Ints .i64 w v r) (x : Nat) (hx : x < 18446744073709551616) (y : Nat) (hy : y < 18446744073709551616) :
    Calls Tryd.prog 3 #[v, .int .u64 x, .int .u64 y] w fun e w' => e = .returned (.bool true) ∧ Ext w w' := agmOnly_any w v r x y hG h hx hy

end Go.Proofs.YtdlhfihddipjaabDoor
