/-
  The law PartitionChains of the package wittinglaw03.
-/
import Derived.Test.YtdlhfihddipjaaaLaw3b
import Derived.Test.YtdlhfihddipjaaaSweep
namespace Go.Proofs.Ytdlhfihddipjaaa
open Go.RowKit

/-- The points that are together with a point in one of two partitions. -/
def near (a b : List Int) (k : Nat) : Nat := blockOf a k ||| blockOf b k
theorem near_lt {n : Nat} {a b : List Int} (ha : Prt n a) (hb : Prt n b) (k : Nat) : near a b k < 2 ^ n := by
  refine Nat.or_lt_two_pow ?_ ?_
  · have := maskTo_lt (fun j => nth a j == nth a k) a.length; rw [ha.1] at this; unfold blockOf; rw [ha.1]; exact this
  · have := maskTo_lt (fun j => nth b j == nth b k) b.length; rw [hb.1] at this; unfold blockOf; rw [hb.1]; exact this

/-- What the sweeps reach from a point is its block in the Join. -/
theorem chains_reach {n : Nat} {a b q : List Int} (ha : Prt n a) (hb : Prt n b) (h : JoinSpec a b q) {i : Nat} (hi : i < n) :
    sweeps (near a b) n n (2 ^ i) = blockOf q i := by
  have hq : Prt n q := ⟨h.len.trans ha.1, h.ok⟩
  have hj := isJoin_of ha hb h
  have hlt : ∀ k, k < n → near a b k < 2 ^ n := fun k _ => near_lt ha hb k
  have h2 : 2 ^ i < 2 ^ n := Nat.pow_lt_pow_right (by omega) hi
  have hbit : (2 ^ i).testBit i = true := by rw [Nat.testBit_two_pow]; simp
  have hfix := sweeps_done hlt h2 hi hbit
  have hR : sweeps (near a b) n n (2 ^ i) < 2 ^ n := sweeps_lt hlt h2 n
  have hin := sweeps_mono (near a b) n hbit n
  have hsub : ∀ m, (sweeps (near a b) n n (2 ^ i)).testBit m = true → m < n ∧ nth q m = nth q i := by
    refine sweeps_sub (P := fun m => m < n ∧ nth q m = nth q i) (fun k hk hP m hm => ?_) (fun m hm => ?_) n
    · unfold near at hm
      rw [Nat.testBit_or, Bool.or_eq_true, blockOf_bit, blockOf_bit] at hm
      simp only [Bool.and_eq_true, decide_eq_true_eq, beq_iff_eq] at hm
      rcases hm with ⟨h1, h2⟩ | ⟨h1, h2⟩
      · rw [ha.1] at h1
        exact ⟨h1, ((refines_iff ha).1 hj.l m k h1 hk h2).trans hP.2⟩
      · rw [hb.1] at h1
        exact ⟨h1, ((refines_iff hb).1 hj.r m k h1 hk h2).trans hP.2⟩
    · rw [Nat.testBit_two_pow] at hm
      simp at hm
      subst hm
      exact ⟨hi, rfl⟩
  generalize sweeps (near a b) n n (2 ^ i) = R at *
  have hcl : ∀ k m, k < n → m < n → R.testBit k = true → (nth a m = nth a k ∨ nth b m = nth b k) → R.testBit m = true := by
    intro k m hk hm hb' e
    refine sweep_fix hfix hk hb' ?_
    unfold near
    rw [Nat.testBit_or, blockOf_bit, blockOf_bit, ha.1, hb.1]
    rcases e with e | e <;> simp [hm, e]
  have hall := h.all (fun m => if R.testBit m then 1 else 0) (fun m hm => by
      rw [ha.1] at hm
      have hl := ha.low hm
      have hf := ha.fix hm
      have : R.testBit m = R.testBit (nth a m).toNat := by
        rw [Bool.eq_iff_iff]
        exact ⟨fun e => hcl m _ hm hl e (.inl hf), fun e => hcl _ m hl hm e (.inl hf.symm)⟩
      rw [this]) (fun m hm => by
      rw [ha.1] at hm
      have hl := hb.low hm
      have hf := hb.fix hm
      have : R.testBit m = R.testBit (nth b m).toNat := by
        rw [Bool.eq_iff_iff]
        exact ⟨fun e => hcl m _ hm hl e (.inr hf), fun e => hcl _ m hl hm e (.inr hf.symm)⟩
      rw [this])
  refine Nat.eq_of_testBit_eq fun m => ?_
  rw [blockOf_bit, hq.1]
  rw [Bool.eq_iff_iff]
  simp only [Bool.and_eq_true, decide_eq_true_eq, beq_iff_eq]
  refine ⟨hsub m, fun ⟨hm, e⟩ => ?_⟩
  have e1 := hall m (by rw [ha.1]; exact hm)
  have e2 := hall i (by rw [ha.1]; exact hi)
  rw [e, e2, if_pos hin] at e1
  by_cases hb' : R.testBit m = true
  · exact hb'
  · rw [if_neg hb'] at e1; omega

theorem joinPS (n : Nat) (hn : n ≤ 64) (w : World) (v1 v2 : Value) (a b : List Int) (ha : PInts n w v1 a) (hb : PInts n w v2 b) :
    Calls Try.prog 19 #[v1, v2] w fun e w' => ∃ v j, e = .returned (.tuple #[v, .int .i64 0]) ∧ PInts n w' v j ∧ JoinSpec a b j ∧ Ext w w' := by
  refine (join_any w v1 v2 a b ha.1 hb.1 (by rw [ha.2.1, hb.2.1]) (by rw [ha.2.1]; exact hn) ha.2.2 hb.2.2).mono ?_
  rintro e w1 ⟨v, q, rfl, hv, hq, hx⟩
  exact ⟨v, _, rfl, ⟨hv, (isJoin_of ha.2 hb.2 hq).prt⟩, hq, hx⟩
theorem blockP (n : Nat) (hn : n ≤ 64) (w : World) (v : Value) (p : List Int) (i : Nat) (h : PInts n w v p) (hi : i < n) :
    Calls Try.prog 23 #[v, .int .i64 i] w fun e w' => e = .returned (.int .u64 (blockOf p i : Nat)) ∧ Ext w w' :=
  block_ok w v p i h.1 (by rw [h.2.1]; exact hn) h.2.2 (by rw [h.2.1]; exact hi)

set_option maxRecDepth 100000 in
set_option maxHeartbeats 8000000 in
theorem chains_any (w : World) (v1 v2 : Value) (x y : List Int) (h1 : Ints .i64 w v1 x) (h2 : Ints .i64 w v2 y) :
    Calls Try.prog 5 #[v1, v2] w fun e w' => e = .returned (.bool true) ∧ Ext w w' := by
  obtain ⟨A1, c1, rfl, hs1, hf1⟩ := h1
  obtain ⟨A2, c2, rfl, hs2, hf2⟩ := h2
  have l1 := hs1.le
  have l2 := hs2.le
  have m1 := hs1.cap
  have m2 := hs2.cap
  obtain ⟨n, hn⟩ : ∃ n, n = min (min x.length y.length) 16 := ⟨_, rfl⟩
  have hmin := min3_if x.length y.length 16 n 16 rfl hn
  have n1 : n ≤ x.length := by omega
  have n2 : n ≤ y.length := by omega
  have n4 : n ≤ 16 := by omega
  clear hn
  have k1 : Ints .i64 w (.slice A1 n c1) (x.take n) := Ints.take ⟨A1, c1, rfl, hs1, hf1⟩ n1
  have k2 : Ints .i64 w (.slice A2 n c2) (y.take n) := Ints.take ⟨A2, c2, rfl, hs2, hf2⟩ n2
  have K2 := Lib.hid k2
  clear k2 hs1 hs2 hf1 hf2
  go_enter Try.func5, Try.ntmps5
  go_wp2_with fail
  refine (ofP n (by omega) _ _ _ k1 (by simp; omega)).mono ?_
  rintro e w1 ⟨va, a, rfl, ha, hX⟩
  have k2 := K2.out.ext hX
  clear K2 k1
  go_wp2_with fail
  refine (ofP n (by omega) _ _ _ k2 (by simp; omega)).mono ?_
  rintro e w2 ⟨vb, b, rfl, hb, hy⟩
  have hX := hX.trans hy
  have ha := ha.ext hy
  clear k2 hy l1 l2 m1 m2 n1 n2
  have hn : n ≤ 64 := by omega
  go_wp2_with fail
  refine (joinPS n hn _ _ _ _ _ ha hb).mono ?_
  rintro e w3 ⟨vj, j, rfl, hj, sj, hy⟩
  have hX := hX.trans hy
  have ha := ha.ext hy
  have hb := hb.ext hy
  clear hy
  have hr := Lib.hid (fun i (hi : i < n) => chains_reach ha.2 hb.2 sj hi)
  obtain ⟨⟨A3, c3, rfl, hs3, hf3⟩, hjp⟩ := hj
  have hj3 : PInts n w3 (.slice A3 n c3) j := by
    have := hjp.1
    subst this
    exact ⟨⟨A3, c3, rfl, hs3, hf3⟩, hjp⟩
  have hlen := hjp.1
  rw [hlen]
  clear hlen hjp hs3 hf3 sj
  have HX := Lib.hid hX
  have Ha := Lib.hid ha
  have Hb := Lib.hid hb
  have Hj := Lib.hid hj3
  clear hX ha hb hj3
  go_wp2
  go_loopw [57] (fun v wr => ∃ i : Nat, i ≤ n ∧ v = .int .i64 i ∧ Ext w3 wr) (fun v _ => n - (intOf v).toNat)
  case atStart => exact ⟨0, Nat.zero_le _, rfl, Ext.refl w3⟩
  case round =>
    obtain ⟨i, hi, rfl, hx⟩ := hrel
    by_cases hlt : i < n
    · obtain ⟨wo, rfl⟩ : ∃ wo : World, wo = wr := ⟨_, rfl⟩
      obtain ⟨R0, hR0⟩ : ∃ R0 : Nat, R0 = 2 ^ i := ⟨_, rfl⟩
      have hpw : IntKind.u64.wrap (2 ^ i) = (R0 : Int) := by rw [u64_wrap_pow i (by omega), hR0]
      have hfin := hr.out i hlt
      rw [← hR0] at hfin
      have Hfin := Lib.hid hfin
      have hSlt : ∀ k, k < n → near a b k < 2 ^ n := fun k _ => near_lt Ha.out.2 Hb.out.2 k
      have HSlt := Lib.hid hSlt
      have hR0lt : R0 < 2 ^ n := by rw [hR0]; exact Nat.pow_lt_pow_right (by omega) hlt
      have HR0lt := Lib.hid hR0lt
      have h2n : 2 ^ n < 18446744073709551616 := pow_lt64 (by omega)
      have H2n := Lib.hid h2n
      clear hR0 hfin hSlt hR0lt h2n
      go_wp2
      go_loopw [13, 63] (fun r v wr => ∃ t : Nat, t ≤ n ∧ v = .int .i64 t ∧ r = .int .u64 (sweeps (near a b) n t R0 : Nat) ∧ Ext w3 wr) (fun _ v _ => n - (intOf v).toNat)
      case atStart => exact ⟨0, Nat.zero_le _, rfl, rfl, hx⟩
      case round =>
        obtain ⟨t, ht, rfl, rfl, hx⟩ := hrel
        obtain ⟨wt, rfl⟩ : ∃ wt : World, wt = wr := ⟨_, rfl⟩
        by_cases hlt2 : t < n
        · obtain ⟨R1, hR1⟩ : ∃ R1 : Nat, R1 = sweeps (near a b) n t R0 := ⟨_, rfl⟩
          have hR1lt : R1 < 2 ^ n := by rw [hR1]; exact sweeps_lt HSlt.out HR0lt.out t
          have HR1 := Lib.hid hR1
          have HR1lt := Lib.hid hR1lt
          rw [← hR1]
          clear hR1 hR1lt
          go_wp2
          go_loopw [13, 66] (fun r v wr => ∃ k : Nat, k ≤ n ∧ v = .int .i64 k ∧ r = .int .u64 (sweep (near a b) k R1 : Nat) ∧ Ext w3 wr) (fun _ v _ => n - (intOf v).toNat)
          case atStart => exact ⟨0, Nat.zero_le _, rfl, rfl, hx⟩
          case round =>
            obtain ⟨k, hk, rfl, rfl, hx⟩ := hrel
            by_cases hlt3 : k < n
            · obtain ⟨R2, hR2⟩ : ∃ R2 : Nat, R2 = sweep (near a b) k R1 := ⟨_, rfl⟩
              have hR2lt : R2 < 18446744073709551616 := by rw [hR2]; exact Nat.lt_trans (sweep_lt HSlt.out HR1lt.out k hk) H2n.out
              have hbit := u64_bit1 R2 k hR2lt
              have hS : near a b k < 18446744073709551616 := Nat.lt_trans (HSlt.out k hlt3) H2n.out
              have ho1 := u64_or (blockOf a k) (blockOf b k) (blockOf_lt a k (by rw [Ha.out.2.1]; exact hn)) (blockOf_lt b k (by rw [Hb.out.2.1]; exact hn))
              have ho2 := u64_or R2 (near a b k) hR2lt hS
              obtain ⟨sk, hsk⟩ : ∃ sk, sk = near a b k := ⟨_, rfl⟩
              rw [show blockOf a k ||| blockOf b k = near a b k from rfl, ← hsk] at ho1
              rw [← hsk] at ho2
              have Hsk := Lib.hid hsk
              have HR2 := Lib.hid hR2
              rw [← hR2]
              by_cases hb' : R2.testBit k = true
              · have hnext : sweep (near a b) (k + 1) R1 = R2 ||| sk := by rw [sweep_yes (by rw [← hR2]; exact hb'), ← hR2, ← hsk]
                have Hn := Lib.hid hnext
                rw [hb'] at hbit
                clear hR2 hsk hnext hb' hR2lt hS
                have c1 := Lib.hid (blockP n hn _ _ _ k (Ha.out.ext hx) hlt3)
                go_wp2_with fail
                refine c1.out.mono ?_
                rintro e w8 ⟨rfl, hy⟩
                have hx2 := hx.trans hy
                have c2 := Lib.hid (blockP n hn _ _ _ k (Hb.out.ext hx2) hlt3)
                go_wp2_with fail
                refine c2.out.mono ?_
                rintro e w9 ⟨rfl, hy2⟩
                have hx3 := hx2.trans hy2
                go_wp2
                go_roundw
                case rel => exact ⟨k + 1, by omega, by go_num, by rw [Hn.out], hx3⟩
                case measure => simp [intOf]; omega
              · have hf' : R2.testBit k = false := by simpa using hb'
                have hnext : sweep (near a b) (k + 1) R1 = R2 := by rw [sweep_no (by rw [← hR2]; exact hf'), ← hR2]
                have Hn := Lib.hid hnext
                rw [hf'] at hbit
                clear hR2 hsk hnext hb' hf' hR2lt hS
                go_wp2
                go_roundw
                case rel => exact ⟨k + 1, by omega, by go_num, by rw [Hn.out], hx⟩
                case measure => simp [intOf]; omega
            · obtain rfl : k = n := by omega
              go_wp2
              go_roundw
              case rel => exact ⟨t + 1, by omega, by go_num, by rw [HR1.out]; rfl, hx⟩
              case measure => simp [intOf]; omega
        · obtain rfl : t = n := by omega
          have c1 := Lib.hid (blockP t hn _ _ _ i (Hj.out.ext hx) hlt)
          rw [Hfin.out]
          have tt : ((blockOf j i : Int) != (blockOf j i : Int)) = false := by simp
          go_wp2_with fail
          refine c1.out.mono ?_
          rintro e w8 ⟨rfl, hy⟩
          have hx2 := hx.trans hy
          go_wp2
          go_roundw
          case rel => exact ⟨i + 1, by omega, by go_num, hx2⟩
          case measure => simp [intOf]; omega
    · go_wp2_with fail
      refine (awake3 _).mono ?_
      rintro e w99 ⟨rfl, hy⟩
      have hX := (HX.out.trans hx).trans hy
      clear hy
      go_wp2_with fail
      go_ret
      exact ⟨rfl, hX⟩

end Go.Proofs.Ytdlhfihddipjaaa
