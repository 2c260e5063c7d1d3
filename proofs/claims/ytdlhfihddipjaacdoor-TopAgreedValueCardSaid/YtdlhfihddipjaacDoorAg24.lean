/-
  The agreement texts: Common of the program and of its reference.
-/
import Derived.Test.YtdlhfihddipjaacDoorAgR
import Derived.Test.YtdlhfihddipjaacDoorAgJ
import Derived.Test.YtdlhfihddipjaacDoorAg4
import Derived.Test.YtdlhfihddipjaacDoorAg1r
import Derived.Test.YtdlhfihddipjaacDoorPart3
namespace Go.Proofs.YtdlhfihddipjaacDoor
open Go.RowKit

/-- The join of the first 'm' agents. -/
structure CommTo (n : Nat) (C : List (List Int)) (m : Nat) (j : List Int) : Prop where
  prt : Prt n j
  up : ∀ a, a < m → Refines (nthL C a) j
  lub : ∀ r, Prt n r → (∀ a, a < m → Refines (nthL C a) r) → Refines j r
theorem CommTo.start (n : Nat) (C : List (List Int)) : CommTo n C 0 (upTo n fun i => (i : Int)) := by
  refine ⟨⟨upTo_len _ _, fun i hi => ?_⟩, fun a ha => absurd ha (by omega), fun r _ _ i hi => ?_⟩
  · rw [upTo_len] at hi
    unfold pGood
    rw [upTo_nth hi]
    exact ⟨by omega, by omega, by rw [Int.toNat_natCast, upTo_nth hi]⟩
  · rw [upTo_len] at hi
    rw [upTo_nth hi, Int.toNat_natCast]
theorem CommTo.step {n m : Nat} {C : List (List Int)} {j q : List Int} (h : CommTo n C m j) (hC : ∀ a, a ≤ m → Prt n (nthL C a)) (hq : IsJoin n j (nthL C m) q) : CommTo n C (m + 1) q := by
  refine ⟨hq.prt, fun a ha => ?_, fun r hr hall => hq.lub r hr (h.lub r hr fun a ha => hall a (by omega)) (hall m (by omega))⟩
  by_cases e : a = m
  · rw [e]; exact hq.r
  · exact refines_trans (hC a (by omega)) h.prt (h.up a (by omega)) hq.l
theorem CommTo.all {n : Nat} {C : List (List Int)} {j : List Int} (h : CommTo n C C.length j) : IsComm n C j := ⟨h.prt, h.up, h.lub⟩
/-- What Common gives. -/
def commErr (W : List Int) (C : List (List Int)) (k : Int) : Int := if agErr W C ≠ 0 then agErr W C else if k < 0 ∨ (W.length : Int) ≤ k then 2 else 0
def CommIs (W : List Int) (C : List (List Int)) (k : Int) (c : Nat) : Prop := if commErr W C k = 0 then ∃ j, IsComm W.length C j ∧ c = blockOf j k.toNat else c = 0
theorem commIs_unique {W : List Int} {C : List (List Int)} {k : Int} {c d : Nat} (h : CommIs W C k c) (h' : CommIs W C k d) : c = d := by
  unfold CommIs at h h'
  by_cases q : commErr W C k = 0
  · rw [if_pos q] at h h'
    obtain ⟨j, h1, rfl⟩ := h
    obtain ⟨j', h2, rfl⟩ := h'
    rw [comm_unique h1 h2]
  · rw [if_neg q] at h h'
    rw [h, h']
theorem any_comm (W : List Int) (C : List (List Int)) (k : Int) : anyErr W C k 0 = commErr W C k := by
  unfold anyErr commErr
  have h2 : ¬ 2 ^ W.length ≤ 0 := by have := Nat.two_pow_pos W.length; omega
  by_cases h : agErr W C ≠ 0
  · rw [if_pos h, if_pos h]
  · rw [if_neg h, if_neg h]
    by_cases q : k < 0 ∨ (W.length : Int) ≤ k
    · rw [if_pos (Or.inl q), if_pos q]
    · rw [if_neg q, if_neg (fun z => z.elim q h2)]

set_option maxRecDepth 100000 in
set_option maxHeartbeats 4000000 in
theorem Common_any (w : World) (v1 v2 : Value) (W : List Int) (C : List (List Int)) (h : Prior w v1 v2 W C) (k : Int) :
    Calls Tryd.prog 13 #[.agg #[v1, v2], .int .i64 k] w fun x w' => ∃ c : Nat, x = .returned (.tuple #[.int .u64 c, .int .i64 (commErr W C k)]) ∧ CommIs W C k c ∧ Ext w w' := by
  have HAn : Hid (∀ w1, Ext w w1 → Calls Tryd.prog 29 #[.agg #[v1, v2], .int .i64 k, .int .u64 0] w1 fun x w' => x = .returned (.int .i64 (commErr W C k)) ∧ Ext w1 w') := fun w1 hx => by
    have := anybody_any w1 v1 v2 W C (h.ext hx) k 0 (by decide)
    rwa [any_comm] at this
  have HZ0 : commErr W C k = 0 → PrOk W C ∧ ∃ k' : Nat, k = k' ∧ k' < W.length := fun z => by
    obtain ⟨hP, k', h1, h2, _⟩ := anyErr_zero ((any_comm W C k).trans z)
    exact ⟨hP, k', h1, h2⟩
  obtain ⟨h1, h2⟩ := h
  have HDs : Hid (∀ w1, W.length ≤ 64 → Calls Tryd.prog 30 #[.int .i64 (W.length : Nat)] w1 fun e w' => ∃ v, e = .returned (.tuple #[v, .int .i64 0]) ∧ Ints .i64 w' v (upTo W.length fun i => (i : Int)) ∧ Ext w1 w') := fun w1 hn => discrete_ok w1 W.length hn
  have HJo : Hid (∀ w1 va vb a b, W.length ≤ 64 → Ints .i64 w1 va a → Ints .i64 w1 vb b → Prt W.length a → Prt W.length b → Calls Tryd.prog 31 #[va, vb] w1 fun e w' => ∃ v q, e = .returned (.tuple #[v, .int .i64 0]) ∧ Ints .i64 w' v q ∧ IsJoin W.length a b q ∧ Ext w1 w') := fun w1 va vb a b h64 ha hb pa pb =>
    (join_any w1 va vb a b ha hb (by rw [pa.1, pb.1]) (by rw [pa.1]; exact h64) pa.2 pb.2).mono fun _ _ ⟨v, q, e1, e2, e3, e4⟩ => ⟨v, q, e1, e2, isJoin_of pa pb e3, e4⟩
  have HBl : Hid (∀ w1 v p (k : Nat), Ints .i64 w1 v p → Prt W.length p → W.length ≤ 64 → k < W.length → Calls Tryd.prog 32 #[v, .int .i64 k] w1 fun e w' => e = .returned (.int .u64 (blockOf p k : Nat)) ∧ Ext w1 w') := fun w1 v p k hI hp h64 hk => block_ok w1 v p k hI (by rw [hp.1]; exact h64) hp.2 (by rw [hp.1]; exact hk)
  have H2 := Lib.hid h2
  obtain ⟨A, c, rfl, hs, _⟩ := h1
  have hle := hs.le
  have hcap := hs.cap
  obtain ⟨A2, c2, vs, rfl, hs2, _⟩ := h2
  have hle2 := hs2.le
  have hcap2 := hs2.cap
  clear hs hs2
  obtain ⟨q0, q1⟩ := cellsP w (.slice A W.length c) (.slice A2 C.length c2) 37
  have hx1 := (Ext.refl w).alloc (.cells #[.slice A W.length c, .slice A2 C.length c2] 37)
  have CA := Lib.hid (HAn.out _ hx1)
  obtain ⟨z, hz⟩ : ∃ z, z = commErr W C k := ⟨_, rfl⟩
  rw [← hz] at CA HZ0 ⊢
  have HZ := Lib.hid hz
  have HZ0 := Lib.hid HZ0
  clear hz
  go_enter Tryd.func13, Tryd.ntmps13
  go_wp2_with fail
  refine CA.out.mono ?_
  rintro x w2 ⟨rfl, hy⟩
  have hx2 := hx1.trans hy
  have p0 := (hy.cell (by simp)).trans q0
  have p1 := (hy.cell (by simp)).trans q1
  clear q0 q1 CA
  by_cases e0 : z = 0
  · have t : (z != 0) = false := by rw [e0]; rfl
    obtain ⟨hP, k', hk', hkl⟩ := HZ0.out e0
    subst hk'
    have n0 := hP.n0
    have n64 := hP.n64
    have CD := Lib.hid (HDs.out w2 n64)
    have E0 := Lib.hid e0
    have HP := Lib.hid hP
    clear e0 hP
    go_wp2_with fail
    refine CD.out.mono ?_
    rintro x w3 ⟨vj, rfl, hIj, hy3⟩
    have hx3 := hx2.trans hy3
    have p0 := (hy3.cell (Nat.lt_of_lt_of_le (by simp) hy.size)).trans p0
    have p1 := (hy3.cell (Nat.lt_of_lt_of_le (by simp) hy.size)).trans p1
    have HIj := Lib.hid hIj
    clear hIj CD
    go_wp2
    go_loopw [7, 27] (fun vj v wr => ∃ m : Nat, m ≤ C.length ∧ v = .int .i64 m ∧ (∃ j, Hid (Ints .i64 wr vj j ∧ CommTo W.length C m j)) ∧ Ext w wr) (fun _ v _ => C.length - (intOf v).toNat)
    case atStart => exact ⟨0, Nat.zero_le _, rfl, ⟨_, HIj.out, CommTo.start _ _⟩, hx3⟩
    case round =>
      obtain ⟨m, hm, rfl, ⟨j, hj⟩, hxr⟩ := hrel
      by_cases hlt : m < C.length
      · obtain ⟨ad, A', c', rfl, hb, hce, hle', hcap', hIc⟩ := (H2.out.ext hxr).get hlt
        have CJ := Lib.hid (HJo.out wr _ _ _ _ n64 hj.out.1 hIc hj.out.2.prt (HP.out.prt hlt))
        clear hIc
        go_wp2_with fail
        refine CJ.out.mono ?_
        rintro x w5 ⟨v5, q5, rfl, hI5, hJ5, hy5⟩
        have hN := Lib.hid (hj.out.2.step (fun a ha => HP.out.prt (by omega)) hJ5)
        have HI5 := Lib.hid hI5
        have hx5 := hxr.trans hy5
        clear hI5 hJ5 CJ
        go_wp2
        go_roundw
        case rel => exact ⟨m + 1, by omega, by go_num, ⟨q5, HI5.out, hN.out⟩, hx5⟩
        case measure => simp [intOf]; omega
      · obtain rfl : m = C.length := by omega
        have CB := Lib.hid (HBl.out wr _ _ k' hj.out.1 hj.out.2.prt n64 hkl)
        have hC : Hid (CommIs W C k' (blockOf j k')) := by
          show CommIs W C k' (blockOf j k')
          unfold CommIs
          rw [if_pos (by rw [← HZ.out]; exact E0.out)]
          exact ⟨j, hj.out.2.all, by rw [Int.toNat_natCast]⟩
        go_wp2_with fail
        refine CB.out.mono ?_
        rintro x w5 ⟨rfl, hy5⟩
        have hx5 := hxr.trans hy5
        clear CB
        go_wp2
        go_ret2
        exact ⟨blockOf j k', by rw [E0.out]; rfl, hC.out, hx5⟩
  · have t : (z != 0) = true := by rw [bne_iff_ne]; exact e0
    have E0 := Lib.hid e0
    clear e0
    go_wp2
    go_ret2
    exact ⟨0, rfl, by unfold CommIs; rw [if_neg (by rw [← HZ.out]; exact E0.out)], hx2⟩

end Go.Proofs.YtdlhfihddipjaacDoor
