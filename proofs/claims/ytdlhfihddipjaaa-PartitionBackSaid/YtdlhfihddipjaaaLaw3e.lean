/-
  The law PartitionBack of the package wittinglaw03.
-/
import Derived.Test.YtdlhfihddipjaaaPart6
import Derived.Test.YtdlhfihddipjaaaAwake3
namespace Go.Proofs.Ytdlhfihddipjaaa
open Go.RowKit

/-- The sets of a valid list name its own points. -/
theorem ofLow_relOf {p : List Int} (hp : pOk p) {i : Nat} (hi : i < p.length) : (ofLow (relOf p) i : Int) = nth p i := by
  have hl := pOk_le hp hi
  have e : ofLow (relOf p) i = (nth p i).toNat := by
    unfold ofLow
    rw [relOf_nth hi]
    refine lowest_unique hl.2 ?_ fun j hj => ?_
    · show (blockOf p i).testBit (nth p i).toNat = true
      rw [blockOf_bit]
      have := pOk_idem hp hi
      simp only [Bool.and_eq_true, decide_eq_true_eq, beq_iff_eq]
      exact ⟨by omega, this⟩
    · show (blockOf p i).testBit j = false
      rw [blockOf_bit]
      rw [Bool.and_eq_false_iff]
      right
      have hj2 := pOk_le hp (i := j) (by omega)
      simp only [beq_eq_false_iff_ne]
      intro e
      rw [e] at hj2
      omega
  rw [e]; omega
theorem ofList_relOf {p : List Int} (hp : pOk p) : ofList (relOf p) = p := by
  refine (upTo_eq (relOf_len p).symm fun k hk => ?_).symm
  rw [relOf_len] at hk
  exact (ofLow_relOf hp hk).symm
theorem relOf_narrow {p : List Int} : ¬ ofWide (relOf p) := by
  rintro ⟨_, i, hi, hlt⟩
  rw [relOf_len] at hi hlt
  rw [relOf_nth hi] at hlt
  have := maskTo_lt (fun j => nth p j == nth p i) p.length
  unfold blockOf at hlt
  omega
theorem ofErr_relOf {p : List Int} (hp : pOk p) (h64 : p.length ≤ 64) : ofErr (relOf p) = 0 ∧ ofRes (relOf p) = p := by
  have h := ofErr_ok (r := relOf p) (by rw [relOf_len]; exact h64) relOf_narrow (by rw [ofList_relOf hp]; exact hp) (by rw [ofList_relOf hp])
  exact ⟨h.1, by rw [h.2, ofList_relOf hp]⟩

/-- The union of the blocks whose lowest point lies below 'k'. -/
def covered (p : List Int) (k : Nat) : Nat := maskTo (fun j => decide (nth p j < (k : Int))) p.length
theorem covered_bit (p : List Int) (k j : Nat) : (covered p k).testBit j = (decide (j < p.length) && decide (nth p j < (k : Int))) := maskTo_bit _ _ _
theorem covered_step {p : List Int} {k : Nat} (hk : nth p k = (k : Int)) : covered p k ||| blockOf p k = covered p (k + 1) ∧ covered p k &&& blockOf p k = 0 := by
  constructor
  · refine Nat.eq_of_testBit_eq fun j => ?_
    rw [Nat.testBit_or, covered_bit, covered_bit, blockOf_bit, hk]
    rw [Bool.eq_iff_iff]
    simp only [Bool.or_eq_true, Bool.and_eq_true, decide_eq_true_eq, beq_iff_eq]
    omega
  · refine Nat.eq_of_testBit_eq fun j => ?_
    rw [Nat.testBit_and, covered_bit, blockOf_bit, hk]
    simp only [Nat.zero_testBit]
    rw [Bool.and_eq_false_iff]
    by_cases h : nth p j = (k : Int)
    · left; rw [Bool.and_eq_false_iff]; right; simp; omega
    · right; simp [h]
theorem covered_skip {p : List Int} (hp : pOk p) {k : Nat} (hk : nth p k ≠ (k : Int)) : covered p (k + 1) = covered p k := by
  refine Nat.eq_of_testBit_eq fun j => ?_
  rw [covered_bit, covered_bit, Bool.eq_iff_iff]
  simp only [Bool.and_eq_true, decide_eq_true_eq]
  refine ⟨fun ⟨h1, h2⟩ => ⟨h1, ?_⟩, fun ⟨h1, h2⟩ => ⟨h1, by omega⟩⟩
  have := pOk_idem hp h1
  have h3 := pOk_le hp h1
  have : nth p j ≠ (k : Int) := fun e => hk (by rw [e] at this; simpa using this)
  omega

/-- The union of the first 'm' blocks of the list that Blocks answers. -/
def unionTo (l : List Nat) (m : Nat) : Nat := (l.take m).foldl (· ||| ·) 0
theorem unionTo_succ {l : List Nat} {m : Nat} (h : m < l.length) : unionTo l (m + 1) = unionTo l m ||| nthN l m := by
  unfold unionTo
  rw [nthN_eq h, List.take_succ_eq_append_getElem h, List.foldl_append]
  rfl
theorem foldl_or_append (l : List Nat) (x : Nat) : (l ++ [x]).foldl (· ||| ·) 0 = l.foldl (· ||| ·) 0 ||| x := by
  rw [List.foldl_append]; rfl
/-- The blocks with a lowest point below 'k': their union is what is covered. -/
theorem blocksTo_union {p : List Int} (hp : pOk p) (k : Nat) (hk : k ≤ p.length) : (blocksTo p k).foldl (· ||| ·) 0 = covered p k := by
  induction k with
  | zero =>
    show 0 = covered p 0
    refine Nat.eq_of_testBit_eq fun j => ?_
    rw [covered_bit, Nat.zero_testBit]
    symm
    rw [Bool.and_eq_false_iff]
    by_cases h : j < p.length
    · right; have := (hp j h).1; simp; omega
    · left; simp; omega
  | succ k ih =>
    by_cases h : nth p k = (k : Int)
    · rw [blocksTo_yes h, foldl_or_append, ih (by omega), (covered_step h).1]
    · rw [blocksTo_no h, ih (by omega), covered_skip hp h]

theorem blocks_at {p : List Int} (k : Nat) : ∀ m, m < (blocksTo p k).length → ∃ i, i < k ∧ nth p i = (i : Int) ∧ (blocksTo p k).take m = blocksTo p i ∧ nthN (blocksTo p k) m = blockOf p i := by
  induction k with
  | zero => exact fun m hm => absurd hm (by simp [blocksTo])
  | succ k ih =>
    intro m hm
    by_cases h : nth p k = (k : Int)
    · rw [blocksTo_yes h] at hm ⊢
      by_cases hlt : m < (blocksTo p k).length
      · obtain ⟨i, h1, h2, h3, h4⟩ := ih m hlt
        exact ⟨i, by omega, h2, by rw [List.take_append_of_le_length (by omega)]; exact h3, by rw [nthN_append_left hlt]; exact h4⟩
      · have : m = (blocksTo p k).length := by simp at hm; omega
        subst this
        exact ⟨k, by omega, h, by simp, nthN_append_last _ _⟩
    · rw [blocksTo_no h] at hm ⊢
      obtain ⟨i, h1, h2, h3, h4⟩ := ih m hm
      exact ⟨i, by omega, h2, h3, h4⟩
theorem blocks_facts {p : List Int} (hp : pOk p) {m : Nat} (hm : m < (blocksTo p p.length).length) :
    nthN (blocksTo p p.length) m ≠ 0 ∧ unionTo (blocksTo p p.length) m &&& nthN (blocksTo p p.length) m = 0 := by
  obtain ⟨i, h1, h2, h3, h4⟩ := blocks_at p.length m hm
  rw [h4]
  unfold unionTo
  rw [h3, blocksTo_union hp i (by omega)]
  refine ⟨fun e => ?_, (covered_step h2).2⟩
  have : (blockOf p i).testBit i = true := by rw [blockOf_bit]; simp [h1]
  rw [e, Nat.zero_testBit] at this
  cases this
theorem unionTo_lt {p : List Int} (h64 : p.length ≤ 64) {m : Nat} (hm : m ≤ (blocksTo p p.length).length) : unionTo (blocksTo p p.length) m < 18446744073709551616 := by
  have : ∀ m, m ≤ (blocksTo p p.length).length → unionTo (blocksTo p p.length) m < 2 ^ p.length := by
    intro m
    induction m with
    | zero => intro _; exact Nat.two_pow_pos _
    | succ m ih =>
      intro h
      rw [unionTo_succ (by omega)]
      refine Nat.or_lt_two_pow (ih (by omega)) ?_
      obtain ⟨i, _, _, e⟩ := blocksTo_mem.1 (nthN_mem (p := blocksTo p p.length) (k := m) (by omega))
      rw [e]
      exact maskTo_lt _ _
  exact Nat.lt_of_lt_of_le (this m hm) (Nat.pow_le_pow_right (n := 2) (by omega) h64)
theorem union_full {p : List Int} (hp : pOk p) : unionTo (blocksTo p p.length) (blocksTo p p.length).length = covered p p.length := by
  unfold unionTo
  rw [List.take_length, blocksTo_union hp p.length (Nat.le_refl _)]
theorem union_bit {p : List Int} (hp : pOk p) {i : Nat} (hi : i < p.length) : (unionTo (blocksTo p p.length) (blocksTo p p.length).length).testBit i = true := by
  rw [union_full hp, covered_bit]
  have := pOk_le hp hi
  simp only [Bool.and_eq_true, decide_eq_true_eq]
  omega

set_option maxRecDepth 100000 in
set_option maxHeartbeats 8000000 in
theorem back_any (w : World) (v : Value) (keys : List Int) (h : Ints .i64 w v keys) :
    Calls Try.prog 6 #[v] w fun e w' => e = .returned (.bool true) ∧ Ext w w' := by
  have Hk := Lib.hid h
  obtain ⟨A, c, rfl, hs, hf⟩ := h
  have hle := hs.le
  have hcap := hs.cap
  clear hs hf
  by_cases hbig : 64 < keys.length
  · go_enter Try.func6, Try.ntmps6
    go_wp2_with fail
    refine (awake3 _).mono ?_
    rintro e w1 ⟨rfl, hX⟩
    go_wp2_with fail
    go_ret
    exact ⟨rfl, hX⟩
  · have h64 : keys.length ≤ 64 := by omega
    go_enter Try.func6, Try.ntmps6
    go_wp2_with fail
    refine (of_any _ _ keys Hk.out h64).mono ?_
    rintro e w1 ⟨v1, rfl, h1, hX⟩
    obtain ⟨p, hpk⟩ : ∃ p, p = ofKeys keys := ⟨_, rfl⟩
    have hlen : p.length = keys.length := by rw [hpk]; exact ofKeys_len keys
    have hok : pOk p := by rw [hpk]; exact ofKeys_ok keys
    have hiff : ∀ i j, i < keys.length → j < keys.length → (nth p i = nth p j ↔ nth keys i = nth keys j) := fun i j hi hj => by
      rw [hpk]
      unfold ofKeys
      rw [pDiv_iff hi hj, upTo_nth hi, upTo_nth hj]
      simp
    rw [← hpk] at h1
    have Hlen := Lib.hid hlen
    have Hok := Lib.hid hok
    have Hiff := Lib.hid hiff
    have hp64 : p.length ≤ 64 := by omega
    clear hpk hiff hlen hok
    go_wp2_with fail
    refine (relation_ok _ _ p h1 hp64 Hok.out).mono ?_
    rintro e w2 ⟨v2, rfl, h2, hy⟩
    have hX := hX.trans hy
    have h1 := h1.ext hy
    clear hy
    go_wp2_with fail
    refine (pof_any _ _ (relOf p) h2).mono ?_
    rintro e w3 ⟨v3, rfl, h3, hy⟩
    rw [(ofErr_relOf Hok.out hp64).1]
    rw [(ofErr_relOf Hok.out hp64).2] at h3
    have hX := hX.trans hy
    have h1 := h1.ext hy
    clear hy h2
    go_wp2_with fail
    refine (equal_yes _ _ _ p h1 h3).mono ?_
    rintro e w4 ⟨rfl, hy⟩
    have hX := hX.trans hy
    have h1 := h1.ext hy
    clear hy h3
    go_wp2_with fail
    refine (blocks_ok _ _ p h1 hp64 Hok.out).mono ?_
    rintro e w5 ⟨v5, rfl, h5, hy⟩
    have hX := hX.trans hy
    have h1 := h1.ext hy
    clear hy
    obtain ⟨l, hl⟩ : ∃ l, l = blocksTo p p.length := ⟨_, rfl⟩
    rw [← hl] at h5
    have hll : l.length ≤ 64 := by rw [hl]; have := blocksTo_len p p.length; omega
    have hfacts : ∀ m, m < l.length → nthN l m ≠ 0 ∧ unionTo l m &&& nthN l m = 0 := fun m hm => by rw [hl] at hm ⊢; exact blocks_facts Hok.out hm
    have hult : ∀ m, m ≤ l.length → unionTo l m < 18446744073709551616 := fun m hm => by rw [hl] at hm ⊢; exact unionTo_lt hp64 hm
    have hubit : ∀ i, i < p.length → (unionTo l l.length).testBit i = true := fun i hi => by rw [hl]; exact union_bit Hok.out hi
    have Hl := Lib.hid hl
    have Hfacts := Lib.hid hfacts
    have Hult := Lib.hid hult
    have Hubit := Lib.hid hubit
    clear hl hfacts hult hubit
    obtain ⟨A5, c5, rfl, hs5, hf5⟩ := h5
    have hle5 := hs5.le
    have hcap5 := hs5.cap
    have HX := Lib.hid hX
    have H1 := Lib.hid h1
    clear hX h1
    go_wp2
    go_loopw [7, 42] (fun u v wr => ∃ m : Nat, m ≤ l.length ∧ v = .int .i64 m ∧ u = .int .u64 (unionTo l m : Nat) ∧ Ext w5 wr) (fun _ v _ => l.length - (intOf v).toNat)
    case atStart => exact ⟨0, Nat.zero_le _, rfl, rfl, Ext.refl _⟩
    case round =>
      obtain ⟨m, hm, rfl, rfl, hx⟩ := hrel
      by_cases hlt : m < l.length
      · obtain ⟨ad, rfl, hb, hc⟩ := (hs5.ext hx).get hlt
        obtain ⟨U, hU⟩ : ∃ U, U = unionTo l m := ⟨_, rfl⟩
        obtain ⟨b, hb1⟩ : ∃ b, b = nthN l m := ⟨_, rfl⟩
        obtain ⟨U2, hU2⟩ : ∃ U, U = unionTo l (m + 1) := ⟨_, rfl⟩
        have hf := Hfacts.out m hlt
        have hUlt := Hult.out m hm
        have hblt := hf5 m hlt
        rw [← hb1, ← hU] at hf
        rw [← hU] at hUlt ⊢
        rw [← hb1] at hblt hc
        have t1 : ((b : Int) == 0) = false := by simp; omega
        have t2 := u64_and U b hUlt hblt
        rw [hf.2] at t2
        have t3 := u64_or U b hUlt hblt
        rw [show U ||| b = U2 by rw [hU2, unionTo_succ hlt, hU, hb1]] at t3
        have HU2 := Lib.hid hU2
        clear hU hb1 hU2 hf hUlt hblt
        go_wp2
        go_roundw
        case rel => exact ⟨m + 1, by omega, by go_num, by rw [HU2.out], hx⟩
        case measure => simp [intOf]; omega
      · obtain rfl : m = l.length := by omega
        obtain ⟨U, hU⟩ : ∃ U, U = unionTo l l.length := ⟨_, rfl⟩
        have hUlt := Hult.out l.length (Nat.le_refl _)
        rw [← hU] at hUlt ⊢
        have HU := Lib.hid hU
        have HUlt := Lib.hid hUlt
        clear hU hUlt
        go_wp2
        go_loopw [60] (fun v wr => ∃ i : Nat, i ≤ keys.length ∧ v = .int .i64 i ∧ Ext w5 wr) (fun v _ => keys.length - (intOf v).toNat)
        case atStart => exact ⟨0, Nat.zero_le _, rfl, hx⟩
        case round =>
          obtain ⟨i, hi, rfl, hx⟩ := hrel
          obtain ⟨wo, rfl⟩ : ∃ wo : World, wo = wr := ⟨_, rfl⟩
          by_cases hlt : i < keys.length
          · have hip : i < p.length := by have := Hlen.out; omega
            have t1 := u64_bit0 U i HUlt.out
            rw [HU.out, Hubit.out i hip, ← HU.out] at t1
            have t2 := u64_bit0 (blockOf p i) i (blockOf_lt p i hp64)
            rw [show (blockOf p i).testBit i = true by rw [blockOf_bit]; simp [hip]] at t2
            have C1 := Lib.hid (block_ok _ _ p i (H1.out.ext hx) hp64 Hok.out hip)
            go_wp2_with fail
            refine C1.out.mono ?_
            rintro e w7 ⟨rfl, hy⟩
            have hx2 := hx.trans hy
            go_wp2
            clear t1 t2
            go_loopw [78] (fun v wr => ∃ j : Nat, j ≤ i ∧ v = .int .i64 j ∧ Ext w5 wr) (fun v _ => i - (intOf v).toNat)
            case atStart => exact ⟨0, Nat.zero_le _, rfl, hx2⟩
            case round =>
              obtain ⟨j, hj, rfl, hx3⟩ := hrel
              by_cases hlt2 : j < i
              · have hk1 := Hk.out.ext ((HX.out.trans hx3))
                obtain ⟨A9, c9, e9, hs9, _⟩ := hk1
                injection e9 with e1 _ e3
                subst e1; subst e3
                obtain ⟨ad, rfl, hb, hci⟩ := hs9.get hlt
                obtain ⟨ad', e, _, hcj⟩ := hs9.get (i := j) (by omega)
                injection e with e
                subst e
                clear hs9
                have hjk : j < keys.length := by omega
                have hbit := u64_bit1 (blockOf p i) j (blockOf_lt p i hp64)
                have hb2 : (blockOf p i).testBit j = (nth keys i == nth keys j) := by
                  rw [blockOf_bit]
                  have := Hiff.out i j hlt (by omega)
                  have hl := Hlen.out
                  rw [Bool.eq_iff_iff]
                  simp only [Bool.and_eq_true, decide_eq_true_eq, beq_iff_eq]
                  exact ⟨fun h => this.1 h.2.symm, fun h => ⟨by omega, (this.2 h).symm⟩⟩
                rw [hb2] at hbit
                have C2 := Lib.hid (block_ok wr.drew _ p i ((H1.out.ext hx3).ext (Ext.refl wr).drew) hp64 Hok.out hip)
                clear hb2
                cases hbb : (nth keys i == nth keys j) with
                | true =>
                  rw [hbb] at hbit
                  go_wp2
                  go_region_with (go_at_call 23; refine C2.out.mono ?_; rintro e w9 ⟨rfl, hy⟩; have a1 : w9.cell? (ad.add i) = some (.int .i64 (nth keys i)) := (hy.cell (by rw [addBlock]; exact hb)).trans hci; have a2 : w9.cell? (ad.add j) = some (.int .i64 (nth keys j)) := (hy.cell (by rw [addBlock]; exact hb)).trans hcj)
                  all_goals
                    go_wp2
                    go_roundw
                    case rel => exact ⟨j + 1, by omega, by go_num, hx3.trans ((Ext.refl wr).drew.trans hy)⟩
                    case measure => simp [intOf]; omega
                | false =>
                  rw [hbb] at hbit
                  go_wp2
                  go_region_with (go_at_call 23; refine C2.out.mono ?_; rintro e w9 ⟨rfl, hy⟩; have a1 : w9.cell? (ad.add i) = some (.int .i64 (nth keys i)) := (hy.cell (by rw [addBlock]; exact hb)).trans hci; have a2 : w9.cell? (ad.add j) = some (.int .i64 (nth keys j)) := (hy.cell (by rw [addBlock]; exact hb)).trans hcj)
                  all_goals
                    go_wp2
                    go_roundw
                    case rel => exact ⟨j + 1, by omega, by go_num, hx3.trans ((Ext.refl wr).drew.trans hy)⟩
                    case measure => simp [intOf]; omega
              · obtain rfl : j = i := by omega
                go_wp2
                go_roundw
                case rel => exact ⟨j + 1, by omega, by go_num, hx3⟩
                case measure => simp [intOf]; omega
          · go_wp2_with fail
            refine (count_ok _ _ p (H1.out.ext hx) hp64 Hok.out).mono ?_
            rintro e w7 ⟨rfl, hy⟩
            have hx2 := hx.trans hy
            go_wp2_with fail
            refine (blocks_ok _ _ p (H1.out.ext hx2) hp64 Hok.out).mono ?_
            rintro e w8 ⟨v8, rfl, ⟨A8, c8, rfl, hs8, hf8⟩, hy⟩
            have hx3 := hx2.trans hy
            have hle8 := hs8.le
            have hcap8 := hs8.cap
            clear hs8 hf8
            go_wp2_with fail
            refine (awake3 _).mono ?_
            rintro e w9 ⟨rfl, hy⟩
            go_wp2_with fail
            go_ret
            exact ⟨rfl, (HX.out.trans hx3).trans hy⟩

end Go.Proofs.Ytdlhfihddipjaaa
