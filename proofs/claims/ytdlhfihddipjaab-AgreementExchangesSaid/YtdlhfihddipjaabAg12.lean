/-
  The agreement texts: the reference's keys.
-/
import Derived.Test.YtdlhfihddipjaabAg10
import Derived.Test.YtdlhfihddipjaabAg11
namespace Go.Proofs.Ytdlhfihddipjaab
open Go.RowKit

theorem postsR_len (W : List Int) (C : List (List Int)) (a : Int) (e : Nat) : (postsR W C a e).1.length ≤ 64 := by
  unfold postsR
  by_cases h : chkErr W C a 0 e = 0
  · rw [if_neg (by simpa using h)]
    obtain ⟨hP, _⟩ := chkErr_zero h
    show (posts W C a.toNat e W.length).length ≤ 64
    rw [posts_len]; exact hP.n64
  · rw [if_pos (by simpa using h)]; simp

set_option maxRecDepth 100000 in
set_option maxHeartbeats 4000000 in
theorem keys_any (w : World) (v1 v2 : Value) (W : List Int) (C : List (List Int)) (h : Prior w v1 v2 W C) (a : Int) (e : Nat) (he : e < 18446744073709551616) :
    Calls Try.prog 115 #[.agg #[v1, v2], .int .i64 a, .int .u64 e] w fun x w' => ∃ v', x = .returned v' ∧ Ints .i64 w' v' (keysF (postsR W C a e).1) ∧ Ext w w' := by
  obtain ⟨i0, hi0, hz0, hz1, hz2⟩ := info_parts Try.infoInt
  obtain ⟨h1, h2⟩ := h
  have hC : ∀ w1, Ext w w1 → _ := fun w1 hx => refPosteriors_any w1 v1 v2 W C ⟨h1.ext hx, h2.ext hx⟩ a e he
  have h64 := postsR_len W C a e
  obtain ⟨A, c, rfl, hs, hf⟩ := h1
  obtain ⟨A2, c2, vs, rfl, hs2, _⟩ := h2
  clear hs hf hs2
  obtain ⟨q0, q1⟩ := cellsP w (.slice A W.length c) (.slice A2 C.length c2) 45
  have hx0 := (Ext.refl w).alloc (.cells #[.slice A W.length c, .slice A2 C.length c2] 45)
  obtain ⟨fs, hfs⟩ : ∃ fs, fs = (postsR W C a e).1 := ⟨_, rfl⟩
  obtain ⟨z, hz⟩ : ∃ z, z = (postsR W C a e).2 := ⟨_, rfl⟩
  rw [← hfs, ← hz] at hC
  rw [← hfs] at h64 ⊢
  have CP := Lib.hid (hC _ hx0)
  clear hC hfs hz
  go_enter Try.func115, Try.ntmps115
  go_wp2_with fail
  refine CP.out.mono ?_
  rintro x w2 ⟨vf, rfl, hF, hy⟩
  have hx2 := hx0.trans hy
  have HF := Lib.hid hF
  obtain ⟨AF, cF, rfl, hleF, hcapF, _⟩ := hF
  clear hy CP q0 q1
  go_wp2
  go_loopw [9, 10] (fun p v wr => ∃ k : Nat, k ≤ fs.length ∧ v = .int .i64 k ∧ wr.ownsRow w2.heap.size 3 1 p k ((upTo k fun i => (keyF fs i : Nat)).map (Value.int .i64)) ∧ Ext w2 wr) (fun _ v _ => fs.length - (intOf v).toNat)
  case atStart => exact ⟨0, Nat.zero_le _, rfl, World.ownsRow_nil _ _ _ _, Ext.refl w2⟩
  case round =>
    obtain ⟨k, hk, rfl, hown, hx⟩ := hrel
    by_cases hlt : k < fs.length
    · have Hown := Lib.hid hown
      clear hown
      go_wp2
      go_loopw [11] (fun v w3 => ∃ j : Nat, j ≤ k ∧ v = .int .i64 j ∧ Hid (∀ i, i < j → nthF fs i ≠ nthF fs k) ∧ Ext wr w3) (fun v _ => fs.length - (intOf v).toNat)
      case atStart => exact ⟨0, Nat.zero_le _, rfl, fun i hi => absurd hi (by omega), Ext.refl _⟩
      case round =>
        obtain ⟨j, hj, rfl, hgo, hxr⟩ := hrel
        have hxw := hx.trans hxr
        have hlj : j < fs.length := by omega
        obtain ⟨ad, rfl, _, hc, _, hd⟩ := (HF.out.ext hxw).get hlj
        obtain ⟨adx, eqx, _, hc2, _, hd2⟩ := (HF.out.ext hxw).get hlt
        obtain rfl : ad = adx := by injection eqx
        clear eqx
        obtain ⟨fa, hfa⟩ : ∃ f, f = nthF fs j := ⟨_, rfl⟩
        obtain ⟨fb, hfb⟩ : ∃ f, f = nthF fs k := ⟨_, rfl⟩
        rw [← hfa] at hc hd
        rw [← hfb] at hc2 hd2
        obtain ⟨x1, x2⟩ := fa
        obtain ⟨y1, y2⟩ := fb
        have Hfa := Lib.hid hfa
        have Hfb := Lib.hid hfb
        clear hfa hfb
        dsimp only at hc hd hc2 hd2
        by_cases e1 : x1 = y1
        · have i1 : ((x1 : Int) = (y1 : Int)) = True := eq_true (by omega)
          by_cases e2 : x2 = y2
          · have i2 : ((x2 : Int) = (y2 : Int)) = True := eq_true (by omega)
            have hg : Hid (keyF fs k = j) := by
              show keyF fs k = j
              refine lowest_unique (P := fun m => decide (nthF fs m = nthF fs k)) hj ?_ fun i hi => ?_
              · show decide (nthF fs j = nthF fs k) = true
                rw [decide_eq_true_eq, ← Hfa.out, ← Hfb.out, e1, e2]
              · show decide (nthF fs i = nthF fs k) = false
                rw [decide_eq_false_iff_not]; exact hgo.out i hi
            have hown2 := own_ext24 Hown.out hxr.drew
            have hxd := hxw.drew
            clear e1 e2
            go_wp2
            go_region
            all_goals
              go_wp2_with (at_builtin; refine wpList_append_own _ rfl (.tmp 36) (.tmp 38) _ rfl w2.heap.size 3 i0 (.int .i64 0) 1 8 Try.underlying22 hi0 hz0 hz1 hz2 rfl (by omega) u9 k ((upTo k fun i => (keyF fs i : Nat)).map (Value.int .i64)) rfl (hown2.alloc _) ⟨wr.heap.size, 0, none⟩ 1 1 [.int .i64 (j : Nat)] rfl rfl (cell_one_new _ _ _) (by simp [Value.oneCell']) (by unfold maxLen; omega) (by omega) (by have := hxw.size; simp; omega) ?_; intro v2 w4 hown3 hg2 _)
              go_roundw
              case rel =>
                refine ⟨k + 1, by omega, by go_num, ?_, hxd.append hown2 (Nat.le_refl _) hg2⟩
                rw [upTo_succ24, hg.out]; simpa using hown3
              case measure => simp [intOf]; omega
          · have i2 : ((x2 : Int) = (y2 : Int)) = False := eq_false (by omega)
            have hg : Hid (nthF fs j ≠ nthF fs k) := by show _ ≠ _; rw [← Hfa.out, ← Hfb.out]; intro q; exact e2 (congrArg Prod.snd q)
            have hjk : Hid (j ≠ k) := fun q => hg.out (by rw [q])
            clear e1 e2
            go_wp2
            go_region
            all_goals
              go_wp2
              go_roundw
              case rel => exact ⟨j + 1, by have := hjk.out; omega, by go_num, fun i hi => by
                by_cases q : i = j
                · rw [q]; exact hg.out
                · exact hgo.out i (by omega), hxr.drew⟩
              case measure => simp [intOf]; omega
        · have i1 : ((x1 : Int) = (y1 : Int)) = False := eq_false (by omega)
          have hg : Hid (nthF fs j ≠ nthF fs k) := by show _ ≠ _; rw [← Hfa.out, ← Hfb.out]; intro q; exact e1 (congrArg Prod.fst q)
          have hjk : Hid (j ≠ k) := fun q => hg.out (by rw [q])
          clear e1
          go_wp2
          go_region
          all_goals
            go_wp2
            go_roundw
            case rel => exact ⟨j + 1, by have := hjk.out; omega, by go_num, fun i hi => by
              by_cases q : i = j
              · rw [q]; exact hg.out
              · exact hgo.out i (by omega), hxr.drew⟩
            case measure => simp [intOf]; omega
    · obtain rfl : k = fs.length := by omega
      have hI : Hid (Ints .i64 wr u9 (keysF fs)) := by
        refine Ints.of_own (xs := keysF fs) hown (by omega) fun i hi => ?_
        rw [keysF_len] at hi
        have := keyF_le fs i
        unfold keysF
        rw [upTo_nth hi]; exact fits_small (by omega) (by omega)
      clear hown
      go_wp2
      go_ret
      exact ⟨_, rfl, hI.out, hx2.trans hx⟩

end Go.Proofs.Ytdlhfihddipjaab
