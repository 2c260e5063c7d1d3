/-
  The agreement texts: Common of the reference.
-/
import Derived.Test.YtdlhfihddipjaabAg24
namespace Go.Proofs.Ytdlhfihddipjaab
open Go.RowKit

set_option maxRecDepth 100000 in
set_option maxHeartbeats 4000000 in
theorem refCommon_any (w : World) (v1 v2 : Value) (W : List Int) (C : List (List Int)) (h : Prior w v1 v2 W C) (k : Int) :
    Calls Try.prog 41 #[.agg #[v1, v2], .int .i64 k] w fun x w' => ∃ c : Nat, x = .returned (.tuple #[.int .u64 c, .int .i64 (commErr W C k)]) ∧ CommIs W C k c ∧ Ext w w' := by
  have HCh : Hid (∀ w1, Ext w w1 → Calls Try.prog 44 #[.agg #[v1, v2]] w1 fun x w' => x = .returned (.int .i64 (agErr W C)) ∧ Ext w1 w') := fun w1 hx => refAgCheck_any w1 v1 v2 W C (h.ext hx)
  have HZ0 : commErr W C k = 0 → PrOk W C ∧ ∃ k' : Nat, k = k' ∧ k' < W.length := fun z => by
    obtain ⟨hP, k', h1, h2, _⟩ := anyErr_zero ((any_comm W C k).trans z)
    exact ⟨hP, k', h1, h2⟩
  obtain ⟨h1, h2⟩ := h
  have HDs : Hid (∀ w1, W.length ≤ 64 → Calls Try.prog 88 #[.int .i64 (W.length : Nat)] w1 fun e w' => ∃ v, e = .returned (.tuple #[v, .int .i64 0]) ∧ Ints .i64 w' v (upTo W.length fun i => (i : Int)) ∧ Ext w1 w') := fun w1 hn => rdiscrete_ok w1 W.length hn
  have HJo : Hid (∀ w1 va vb a b, 0 < W.length → W.length ≤ 64 → Ints .i64 w1 va a → Ints .i64 w1 vb b → Prt W.length a → Prt W.length b → Calls Try.prog 89 #[va, vb] w1 fun e w' => ∃ v q, e = .returned (.tuple #[v, .int .i64 0]) ∧ Ints .i64 w' v q ∧ IsJoin W.length a b q ∧ Ext w1 w') := fun w1 va vb a b h0 h64 ha hb pa pb => rjoin_any w1 va vb W.length a b ha hb h0 h64 pa pb
  have HBl : Hid (∀ w1 v p (k : Nat), Ints .i64 w1 v p → Prt W.length p → W.length ≤ 64 → k < W.length → Calls Try.prog 90 #[v, .int .i64 k] w1 fun e w' => e = .returned (.int .u64 (blockOf p k : Nat)) ∧ Ext w1 w') := fun w1 v p k hI hp h64 hk => rblock_ok w1 v p k hI (by rw [hp.1]; exact h64) hp.2 (by rw [hp.1]; exact hk)
  have H2 := Lib.hid h2
  obtain ⟨A, c, rfl, hs, _⟩ := h1
  have hle := hs.le
  have hcap := hs.cap
  obtain ⟨A2, c2, vs, rfl, hs2, _⟩ := h2
  have hle2 := hs2.le
  have hcap2 := hs2.cap
  clear hs hs2
  obtain ⟨q0, q1⟩ := cellsP w (.slice A W.length c) (.slice A2 C.length c2) 45
  have hx1 := (Ext.refl w).alloc (.cells #[.slice A W.length c, .slice A2 C.length c2] 45)
  have CA := Lib.hid (HCh.out _ hx1)
  have hcm0 : agErr W C ≠ 0 → commErr W C k = agErr W C := fun q => by unfold commErr; rw [if_pos q]
  have hcm1 : agErr W C = 0 → commErr W C k = if k < 0 ∨ (W.length : Int) ≤ k then 2 else 0 := fun q => by unfold commErr; rw [if_neg (by rw [q]; simp)]
  obtain ⟨y, hy⟩ : ∃ y, y = agErr W C := ⟨_, rfl⟩
  obtain ⟨z, hz⟩ : ∃ z, z = commErr W C k := ⟨_, rfl⟩
  rw [← hy] at CA
  rw [← hy, ← hz] at hcm0 hcm1
  rw [← hz] at HZ0 ⊢
  have HZ := Lib.hid hz
  have HZ0 := Lib.hid HZ0
  have Hc0 := Lib.hid hcm0
  have Hc1 := Lib.hid hcm1
  clear hz hy hcm0 hcm1
  go_enter Try.func41, Try.ntmps41
  go_wp2_with fail
  refine CA.out.mono ?_
  rintro x w2 ⟨rfl, hy⟩
  have hx2 := hx1.trans hy
  have p0 := (hy.cell (by simp)).trans q0
  have p1 := (hy.cell (by simp)).trans q1
  clear q0 q1 CA
  by_cases ey : y = 0
  · have t : (y != 0) = false := by rw [ey]; rfl
    have Ey := Lib.hid ey
    clear ey
    by_cases ez : z = 0
    · obtain ⟨hP, k', hk', hkl⟩ := HZ0.out ez
      subst hk'
      have n0 := hP.n0
      have t3 : decide ((k' : Int) < 0) = false := by rw [decide_eq_false_iff_not]; omega
      have t4 : decide ((W.length : Int) ≤ (k' : Int)) = false := by rw [decide_eq_false_iff_not]; omega
      have n64 := hP.n64
      have CD := Lib.hid (HDs.out w2 n64)
      have E0 := Lib.hid ez
      have HP := Lib.hid hP
      clear ez hP
      go_wp2_with fail
      refine CD.out.mono ?_
      rintro x w3 ⟨vj, rfl, hIj, hy3⟩
      have hx3 := hx2.trans hy3
      have p0 := (hy3.cell (Nat.lt_of_lt_of_le (by simp) hy.size)).trans p0
      have p1 := (hy3.cell (Nat.lt_of_lt_of_le (by simp) hy.size)).trans p1
      have hl3 : w.heap.size < w3.heap.size := Nat.lt_of_lt_of_le (Nat.lt_of_lt_of_le (by simp) hy.size) hy3.size
      have HIj := Lib.hid hIj
      clear hIj CD
      go_wp2
      go_loopw [7, 9] (fun vj v wr => ∃ m : Nat, m ≤ C.length ∧ v = .int .i64 m ∧ (∃ j, Hid (Ints .i64 wr vj j ∧ CommTo W.length C m j)) ∧ Ext w3 wr) (fun _ v _ => C.length - (intOf v).toNat)
      case atStart => exact ⟨0, Nat.zero_le _, rfl, ⟨_, HIj.out, CommTo.start _ _⟩, Ext.refl _⟩
      case round =>
        obtain ⟨m, hm, rfl, ⟨j, hj⟩, hxr3⟩ := hrel
        have hxr := hx3.trans hxr3
        have p1 := (hxr3.cell (show w.heap.size < w3.heap.size from hl3)).trans p1
        by_cases hlt : m < C.length
        · obtain ⟨ad, A', c', rfl, hb, hce, hle', hcap', hIc⟩ := (H2.out.ext hxr).get hlt
          have CJ := Lib.hid (HJo.out wr _ _ _ _ n0 n64 hj.out.1 hIc hj.out.2.prt (HP.out.prt hlt))
          clear hIc
          go_wp2_with fail
          refine CJ.out.mono ?_
          rintro x w5 ⟨v5, q5, rfl, hI5, hJ5, hy5⟩
          have hN := Lib.hid (hj.out.2.step (fun a ha => HP.out.prt (by omega)) hJ5)
          have HI5 := Lib.hid hI5
          have hx5 := hxr.trans hy5
          clear hI5 hJ5 CJ
          go_wp2
          go_roundw
          case rel => exact ⟨m + 1, by omega, by go_num, ⟨q5, HI5.out, hN.out⟩, hxr3.trans hy5⟩
          case measure => simp [intOf]; omega
        · obtain rfl : m = C.length := by omega
          have CB := Lib.hid (HBl.out wr _ _ k' hj.out.1 hj.out.2.prt n64 hkl)
          have hC : Hid (CommIs W C k' (blockOf j k')) := by
            show CommIs W C k' (blockOf j k')
            unfold CommIs
            rw [if_pos (by rw [← HZ.out]; exact E0.out)]
            exact ⟨j, hj.out.2.all, by rw [Int.toNat_natCast]⟩
          go_wp2_with fail
          refine CB.out.mono ?_
          rintro x w5 ⟨rfl, hy5⟩
          have hx5 := hxr.trans hy5
          clear CB
          go_wp2
          go_ret2
          exact ⟨blockOf j k', by rw [E0.out]; rfl, hC.out, hx5⟩
    · have Ez : Hid (z = 2 ∧ (k < 0 ∨ (W.length : Int) ≤ k)) := by
        show z = 2 ∧ (k < 0 ∨ (W.length : Int) ≤ k)
        have h := Hc1.out Ey.out
        by_cases q : k < 0 ∨ (W.length : Int) ≤ k
        · rw [if_pos q] at h; exact ⟨h, q⟩
        · rw [if_neg q] at h; exact absurd h ez
      have hcz : Hid (CommIs W C k 0) := by
        show CommIs W C k 0
        unfold CommIs; rw [if_neg (by rw [← HZ.out, Ez.out.1]; decide)]
      clear ez
      by_cases ha : k < 0
      · have t3 : decide (k < 0) = true := by simpa using ha
        clear ha
        go_wp2
        go_ret2
        exact ⟨0, by rw [Ez.out.1]; rfl, hcz.out, hx2⟩
      · have t3 : decide (k < 0) = false := by simpa using ha
        have t4 : decide ((W.length : Int) ≤ k) = true := by rw [decide_eq_true_eq]; have := Ez.out.2; omega
        clear ha
        go_wp2
        go_ret2
        exact ⟨0, by rw [Ez.out.1]; rfl, hcz.out, hx2⟩
  · have t : (y != 0) = true := by rw [bne_iff_ne]; exact ey
    have Ez : Hid (z = y ∧ y ≠ 0) := ⟨Hc0.out ey, ey⟩
    have hcz : Hid (CommIs W C k 0) := by
      show CommIs W C k 0
      unfold CommIs; rw [if_neg (by rw [← HZ.out, Ez.out.1]; exact ey)]
    clear ey
    go_wp2
    go_ret2
    exact ⟨0, by rw [Ez.out.1]; rfl, hcz.out, hx2⟩

end Go.Proofs.Ytdlhfihddipjaab
