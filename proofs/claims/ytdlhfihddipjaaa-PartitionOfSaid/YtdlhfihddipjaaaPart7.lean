/-
  The contract of the reference of Of.
-/
import Derived.Test.YtdlhfihddipjaaaPart6
namespace Go.Proofs.Ytdlhfihddipjaaa
open Go.RowKit

set_option maxHeartbeats 1000000 in
theorem rof_big (w : World) (v : Value) (r : List Nat) (h : Sets w v r) (hl : 64 < r.length) :
    Calls Try.prog 28 #[v] w fun e w' => e = .returned (.tuple #[.slice none 0 0, .int .i64 8]) ∧ Ext w w' := by
  obtain ⟨A, c, rfl, hs, hf⟩ := h
  have hle := hs.le
  have hcap := hs.cap
  go_enter Try.func28, Try.ntmps28
  go_wp2
  go_ret2
  exact ⟨rfl, Ext.refl w⟩

set_option maxRecDepth 100000 in
set_option maxHeartbeats 2000000 in
theorem rof_wide (w : World) (v : Value) (r : List Nat) (h : Sets w v r) (hw : ofWide r) :
    Calls Try.prog 28 #[v] w fun e w' => e = .returned (.tuple #[.slice none 0 0, .int .i64 3]) ∧ Ext w w' := by
  obtain ⟨A, c, rfl, hs, hf⟩ := h
  have hle := hs.le
  have hcap := hs.cap
  obtain ⟨h64, hex⟩ := hw
  go_enter Try.func28, Try.ntmps28
  go_wp2
  go_loop [16] (fun v => ∃ k : Nat, k ≤ r.length ∧ v = .int .i64 k ∧ Hid (∀ j, j < k → nthN r j < 2 ^ r.length)) (fun v => r.length - (intOf v).toNat)
  case atStart => exact ⟨0, Nat.zero_le _, rfl, fun j hj => absurd hj (by omega)⟩
  case round =>
    obtain ⟨k, hk, rfl, hgo⟩ := hrel
    by_cases hlt : k < r.length
    · obtain ⟨ad, rfl, hb, hc⟩ := hs.get hlt
      have t := shr_ne (nthN r k) r.length
      by_cases hbad : 2 ^ r.length ≤ nthN r k
      · rw [decide_eq_true hbad] at t
        clear hbad
        go_wp2
        go_ret2
        exact ⟨rfl, Ext.refl w⟩
      · rw [decide_eq_false hbad] at t
        have Hb := Lib.hid hbad
        clear hbad
        go_wp2
        go_round
        case rel => exact ⟨k + 1, by omega, by go_num, fun j hj => by
          by_cases e : j = k
          · have := Hb.out; rw [e]; omega
          · exact hgo.out j (by omega)⟩
        case measure => simp [intOf]; omega
    · obtain ⟨i, hi, hbad⟩ := hex
      have := hgo.out i (by omega)
      omega

theorem ofTo_succ (r : List Nat) (k : Nat) : upTo (k + 1) (fun i => (ofLow r i : Int)) = upTo k (fun i => (ofLow r i : Int)) ++ [(ofLow r k : Int)] := by simp [upTo, List.range_succ]

set_option maxRecDepth 100000 in
set_option maxHeartbeats 8000000 in
theorem rof_main (w : World) (v : Value) (r : List Nat) (h : Sets w v r) (hl : r.length ≤ 64) (hw : ¬ ofWide r) :
    Calls Try.prog 28 #[v] w fun e w' => ∃ v', e = .returned (.tuple #[v', .int .i64 (ofErr r)]) ∧ Ints .i64 w' v' (ofRes r) ∧ Ext w w' := by
  have Hs := Lib.hid h
  obtain ⟨A, c, rfl, hs, hf⟩ := h
  have hle := hs.le
  have hcap := hs.cap
  have Hf := Lib.hid hf
  clear hf
  obtain ⟨i0, hi0, hz0, hz1, hz2⟩ := info_parts Try.infoInt
  have Hw := Lib.hid hw
  clear hw
  have hsm : ∀ k, k < r.length → r.length < 64 → nthN r k < 2 ^ r.length := fun k hk h64 => by
    rcases Nat.lt_or_ge (nthN r k) (2 ^ r.length) with h | h
    · exact h
    · exact absurd ⟨h64, k, hk, h⟩ Hw.out
  have Hsm := Lib.hid hsm
  clear hsm
  rcases Nat.lt_or_ge r.length 64 with h64 | h64
  all_goals
    go_enter Try.func28, Try.ntmps28
    go_wp2
    go_loop [16] (fun v => ∃ k : Nat, k ≤ r.length ∧ v = .int .i64 k) (fun v => r.length - (intOf v).toNat)
    case atStart => exact ⟨0, Nat.zero_le _, rfl⟩
    case round =>
      obtain ⟨k, hk, rfl⟩ := hrel
      by_cases hlt : k < r.length
      · obtain ⟨ad, rfl, hb, hc⟩ := hs.get hlt
        have t : r.length < 64 → ((nthN r k : Int) / 2 ^ r.length != 0) = false := fun h64 => by rw [shr_ne, decide_eq_false]; have := Hsm.out k hlt h64; omega
        go_wp2
        all_goals
          go_round
          case rel => exact ⟨k + 1, by omega, by go_num⟩
          case measure => simp [intOf]; omega
      · clear hs
        go_wp2
        go_loopw [6, 33] (fun p v wr => ∃ k : Nat, k ≤ r.length ∧ v = .int .i64 k ∧ wr.ownsRow w.heap.size 3 1 p k ((upTo k fun i => (ofLow r i : Int)).map (Value.int .i64)) ∧ Ext w wr) (fun _ v _ => r.length - (intOf v).toNat)
        case atStart => exact ⟨0, Nat.zero_le _, rfl, World.ownsRow_nil _ _ _ _, Ext.refl w⟩
        case round =>
          obtain ⟨k, hk, rfl, hown, hx⟩ := hrel
          by_cases hlt : k < r.length
          · have hs0 := Hs.out.ext hx
            obtain ⟨A', c', e1, hs1, _⟩ := hs0
            injection e1 with e1 _ e3
            subst e1; subst e3
            obtain ⟨ad, rfl, hb, hc⟩ := hs1.get hlt
            obtain ⟨s, hs2⟩ : ∃ s, s = nthN r k := ⟨_, rfl⟩
            have hslt : s < 18446744073709551616 := by rw [hs2]; exact Hf.out k hlt
            rw [← hs2] at hc
            have Hs2 := Lib.hid hs2
            have Hslt := Lib.hid hslt
            have Hown := Lib.hid hown
            clear hs2 hslt hs1 hown
            go_wp2
            go_loop [8, 9] (fun l v => ∃ j low : Nat, j ≤ k + 1 ∧ low ≤ k ∧ j ≤ low + 1 ∧ v = .int .i64 ((j : Int) - 1) ∧ l = .int .i64 low ∧ Hid ((low = k ∨ s.testBit low = true) ∧ ∀ i, j ≤ i → i < low → s.testBit i = false)) (fun _ v => (intOf v + 1).toNat)
            case atStart => exact ⟨k + 1, k, Nat.le_refl _, Nat.le_refl _, Nat.le_refl _, by congr 1; omega, rfl, .inl rfl, fun i h1 h2 => absurd h1 (by omega)⟩
            case round =>
              obtain ⟨j, low, hj, hlo, hjl, rfl, rfl, hinv⟩ := hrel
              by_cases hj0 : j = 0
              · have hlow : ofLow r k = low := lowest_char hlo (by rw [← Hs2.out]; exact hinv.out.1) (fun i hi => by rw [← Hs2.out]; exact hinv.out.2 i (by omega) hi)
                have Hlow := Lib.hid hlow
                subst hj0
                clear hlow
                go_wp2_with (at_builtin; refine wpList_append_own _ rfl (.tmp 51) (.tmp 53) _ rfl w.heap.size 3 i0 (.int .i64 0) 1 8 Try.underlying22 hi0 hz0 hz1 hz2 rfl (by omega) u6 k ((upTo k fun i => (ofLow r i : Int)).map (Value.int .i64)) rfl (Hown.out.alloc _) ⟨wr.heap.size, 0, none⟩ 1 1 [.int .i64 low] rfl rfl (cell_one_new _ _ _) (by simp [Value.oneCell']) (by unfold maxLen; omega) (by omega) (by have := hx.size; simp; omega) ?_; intro v2 w2 hown2 hg2 _)
                go_roundw
                case rel =>
                  refine ⟨k + 1, by omega, by go_num, ?_, hx.append Hown.out (Nat.le_refl _) hg2⟩
                  rw [ofTo_succ, Hlow.out]; simpa using hown2
                case measure => simp [intOf]; omega
              · obtain ⟨i, rfl⟩ : ∃ i, j = i + 1 := ⟨j - 1, by omega⟩
                have HE : Hid ((((i + 1 : Nat) : Int) - 1) = (i : Int)) := by show (((i + 1 : Nat) : Int) - 1) = (i : Int); omega
                rw [HE.out]
                have hbit := u64_bit1 s i Hslt.out
                clear hj0
                cases hbv : s.testBit i with
                | true =>
                  rw [hbv] at hbit
                  have Hbv := Lib.hid hbv
                  clear hbv
                  go_wp2
                  go_round
                  case rel => exact ⟨i, i, by omega, by omega, by omega, rfl, rfl, .inr Hbv.out, fun q h1 h2 => absurd h1 (by omega)⟩
                  case measure => simp [intOf]
                | false =>
                  rw [hbv] at hbit
                  have Hbv := Lib.hid hbv
                  clear hbv
                  go_wp2
                  go_round
                  case rel => exact ⟨i, low, by omega, by omega, by omega, rfl, rfl, hinv.out.1, fun q h1 h2 => by
                    by_cases e : q = i
                    · rw [e]; exact Hbv.out
                    · exact hinv.out.2 q (by omega) h2⟩
                  case measure => simp [intOf]
          · have hkl : k = r.length := by omega
            have hints : Ints .i64 wr u6 (ofList r) := by
              refine Ints.of_own (xs := ofList r) (n := r.length) (by rw [← hkl]; rw [hkl] at hown ⊢; exact hown) (by omega) (fun i hi => ?_)
              rw [ofList_len] at hi
              have := ofLow_le r i
              rw [ofList_nth hi]; exact fits_small (by omega) (by omega)
            have Hi := Lib.hid hints
            clear hints hown
            subst hkl
            by_cases hp : pOk (ofList r)
            · have C1 := Lib.hid (rcheck_ok _ _ _ Hi.out (by rw [ofList_len]; exact hl) hp)
              have Hp := Lib.hid hp
              by_cases hr : relOf (ofList r) = r
              · have he := ofErr_ok hl Hw.out hp hr
                have He := Lib.hid he
                have HR := Lib.hid hr
                clear hp hr he
                go_wp2_with fail
                refine C1.out.mono ?_
                rintro e w2 ⟨rfl, rfl⟩
                go_wp2
                go_loopw [61] (fun v w2 => ∃ k : Nat, k ≤ r.length ∧ v = .int .i64 k ∧ Ext wr w2) (fun v _ => r.length - (intOf v).toNat)
                case atStart => exact ⟨0, Nat.zero_le _, rfl, Ext.refl _⟩
                case round =>
                  obtain ⟨k, hk, rfl, hx2⟩ := hrel
                  by_cases hlt : k < r.length
                  · have hs0 := Hs.out.ext (hx.trans hx2)
                    obtain ⟨A', c', e1, hs1, _⟩ := hs0
                    injection e1 with e1 _ e3
                    subst e1; subst e3
                    obtain ⟨ad, rfl, hb, hc⟩ := hs1.get hlt
                    have hbk : nthN r k = blockOf (ofList r) k := by rw [← relOf_nth (by rw [ofList_len]; exact hlt), HR.out]
                    rw [hbk] at hc
                    have t : ((blockOf (ofList r) k : Int) != (blockOf (ofList r) k : Int)) = false := by simp
                    have C2 := Lib.hid (rblock_ok wr.drew u6 (ofList r) k ((Hi.out.ext hx2).ext (Ext.refl wr).drew) (by rw [ofList_len]; exact hl) Hp.out (by rw [ofList_len]; exact hlt))
                    clear hbk hs1
                    go_wp2
                    go_region_with (go_at_call 73; refine C2.out.mono ?_; rintro e w3 ⟨rfl, hy⟩; have hcc : w3.cell? (ad.add k) = some (.int .u64 (blockOf (ofList r) k : Nat)) := (hy.cell (by rw [addBlock]; exact hb)).trans hc)
                    all_goals
                      go_wp2
                      go_roundw
                      case rel => exact ⟨k + 1, by omega, by go_num, hx2.trans ((Ext.refl wr).drew.trans hy)⟩
                      case measure => simp [intOf]; omega
                  · go_wp2
                    go_ret2
                    exact ⟨u6, by rw [He.out.1]; rfl, by rw [He.out.2]; exact Hi.out.ext hx2, hx.trans hx2⟩
              · have he := ofErr_logic hl Hw.out (fun h => hr h.2)
                have He := Lib.hid he
                have HR := Lib.hid hr
                clear hp hr he
                go_wp2_with fail
                refine C1.out.mono ?_
                rintro e w2 ⟨rfl, rfl⟩
                go_wp2
                go_loopw [61] (fun v w2 => ∃ k : Nat, k ≤ r.length ∧ v = .int .i64 k ∧ Ext wr w2 ∧ Hid (∀ i, i < k → nthN r i = blockOf (ofList r) i)) (fun v _ => r.length - (intOf v).toNat)
                case atStart => exact ⟨0, Nat.zero_le _, rfl, Ext.refl _, fun i hi => absurd hi (by omega)⟩
                case round =>
                  obtain ⟨k, hk, rfl, hx2, hgo⟩ := hrel
                  by_cases hlt : k < r.length
                  · have hs0 := Hs.out.ext (hx.trans hx2)
                    obtain ⟨A', c', e1, hs1, _⟩ := hs0
                    injection e1 with e1 _ e3
                    subst e1; subst e3
                    obtain ⟨ad, rfl, hb, hc⟩ := hs1.get hlt
                    have C2 := Lib.hid (rblock_ok wr.drew u6 (ofList r) k ((Hi.out.ext hx2).ext (Ext.refl wr).drew) (by rw [ofList_len]; exact hl) Hp.out (by rw [ofList_len]; exact hlt))
                    clear hs1
                    by_cases hbk : nthN r k = blockOf (ofList r) k
                    · have t : ((nthN r k : Int) != (blockOf (ofList r) k : Int)) = false := by rw [hbk]; simp
                      have Hbk := Lib.hid hbk
                      clear hbk
                      go_wp2
                      go_region_with (go_at_call 73; refine C2.out.mono ?_; rintro e w3 ⟨rfl, hy⟩; have hcc : w3.cell? (ad.add k) = some (.int .u64 (nthN r k : Nat)) := (hy.cell (by rw [addBlock]; exact hb)).trans hc)
                      all_goals
                        go_wp2
                        go_roundw
                        case rel => exact ⟨k + 1, by omega, by go_num, hx2.trans ((Ext.refl wr).drew.trans hy), fun i hi => by
                          by_cases e : i = k
                          · rw [e]; exact Hbk.out
                          · exact hgo.out i (by omega)⟩
                        case measure => simp [intOf]; omega
                    · have t : ((nthN r k : Int) != (blockOf (ofList r) k : Int)) = true := by rw [bne_iff_ne]; omega
                      clear hbk
                      go_wp2
                      go_region_with (go_at_call 73; refine C2.out.mono ?_; rintro e w3 ⟨rfl, hy⟩; have hcc : w3.cell? (ad.add k) = some (.int .u64 (nthN r k : Nat)) := (hy.cell (by rw [addBlock]; exact hb)).trans hc)
                      all_goals
                        go_wp2
                        go_ret2
                        exact ⟨.slice none 0 0, by rw [He.out.1]; rfl, by rw [He.out.2]; exact Ints.nil _ _, hx.trans (hx2.trans ((Ext.refl wr).drew.trans hy))⟩
                  · refine absurd (ext_nthN (by rw [relOf_len, ofList_len]) fun i hi => ?_) HR.out
                    rw [relOf_len] at hi
                    rw [relOf_nth hi]
                    rw [ofList_len] at hi
                    exact (hgo.out i (by omega)).symm
            · have he := ofErr_logic hl Hw.out (fun h => hp h.1)
              have He := Lib.hid he
              have C1 := Lib.hid (rcheck_bad _ _ _ Hi.out (by rw [ofList_len]; exact hl) hp)
              clear hp he
              go_wp2_with fail
              refine C1.out.mono ?_
              rintro e w2 ⟨rfl, rfl⟩
              go_wp2
              go_ret2
              exact ⟨.slice none 0 0, by rw [He.out.1]; rfl, by rw [He.out.2]; exact Ints.nil _ _, hx⟩

theorem rof_any (w : World) (v : Value) (r : List Nat) (h : Sets w v r) :
    Calls Try.prog 28 #[v] w fun e w' => ∃ v', e = .returned (.tuple #[v', .int .i64 (ofErr r)]) ∧ Ints .i64 w' v' (ofRes r) ∧ Ext w w' := by
  by_cases hl : r.length ≤ 64
  · by_cases hw : ofWide r
    · refine (rof_wide w v r h hw).mono ?_
      rintro e w1 ⟨rfl, hx⟩
      obtain ⟨e1, e2⟩ := ofErr_wide hl hw
      exact ⟨_, by rw [e1], by rw [e2]; exact Ints.nil _ _, hx⟩
    · exact rof_main w v r h hl hw
  · refine (rof_big w v r h (by omega)).mono ?_
    rintro e w1 ⟨rfl, hx⟩
    obtain ⟨e1, e2⟩ := ofErr_big (r := r) (by omega)
    exact ⟨_, by rw [e1], by rw [e2]; exact Ints.nil _ _, hx⟩

/-- The error and the list that Discrete and Trivial answer. -/
def sizedErr (n : Int) : Int := if n < 0 ∨ 64 < n then 8 else 0
def sizedRes (f : Nat → Int) (n : Int) : List Int := if n < 0 ∨ 64 < n then [] else upTo n.toNat f

theorem pdiscrete_any (w : World) (n : Int) :
    Calls Try.prog 29 #[.int .i64 n] w fun e w' => ∃ v, e = .returned (.tuple #[v, .int .i64 (sizedErr n)]) ∧ Ints .i64 w' v (sizedRes (fun i => (i : Int)) n) ∧ Ext w w' := by
  unfold sizedErr sizedRes
  by_cases h : n < 0 ∨ 64 < n
  · rw [if_pos h, if_pos h]
    exact (discrete_no w n h).mono fun e w1 ⟨he, hx⟩ => ⟨_, he, Ints.nil _ _, hx⟩
  · rw [if_neg h, if_neg h]
    obtain ⟨m, rfl⟩ := Int.eq_ofNat_of_zero_le (show 0 ≤ n by omega)
    exact discrete_ok w m (by omega)
theorem rdiscrete_any (w : World) (n : Int) :
    Calls Try.prog 30 #[.int .i64 n] w fun e w' => ∃ v, e = .returned (.tuple #[v, .int .i64 (sizedErr n)]) ∧ Ints .i64 w' v (sizedRes (fun i => (i : Int)) n) ∧ Ext w w' := by
  unfold sizedErr sizedRes
  by_cases h : n < 0 ∨ 64 < n
  · rw [if_pos h, if_pos h]
    exact (rdiscrete_no w n h).mono fun e w1 ⟨he, hx⟩ => ⟨_, he, Ints.nil _ _, hx⟩
  · rw [if_neg h, if_neg h]
    obtain ⟨m, rfl⟩ := Int.eq_ofNat_of_zero_le (show 0 ≤ n by omega)
    exact rdiscrete_ok w m (by omega)
theorem ptrivial_any (w : World) (n : Int) :
    Calls Try.prog 31 #[.int .i64 n] w fun e w' => ∃ v, e = .returned (.tuple #[v, .int .i64 (sizedErr n)]) ∧ Ints .i64 w' v (sizedRes (fun _ => 0) n) ∧ Ext w w' := by
  unfold sizedErr sizedRes
  by_cases h : n < 0 ∨ 64 < n
  · rw [if_pos h, if_pos h]
    exact (trivial_no w n h).mono fun e w1 ⟨he, hx⟩ => ⟨_, he, Ints.nil _ _, hx⟩
  · rw [if_neg h, if_neg h]
    obtain ⟨m, rfl⟩ := Int.eq_ofNat_of_zero_le (show 0 ≤ n by omega)
    exact trivial_ok w m (by omega)
theorem rtrivial_any (w : World) (n : Int) :
    Calls Try.prog 32 #[.int .i64 n] w fun e w' => ∃ v, e = .returned (.tuple #[v, .int .i64 (sizedErr n)]) ∧ Ints .i64 w' v (sizedRes (fun _ => 0) n) ∧ Ext w w' := by
  unfold sizedErr sizedRes
  by_cases h : n < 0 ∨ 64 < n
  · rw [if_pos h, if_pos h]
    exact (rtrivial_no w n h).mono fun e w1 ⟨he, hx⟩ => ⟨_, he, Ints.nil _ _, hx⟩
  · rw [if_neg h, if_neg h]
    obtain ⟨m, rfl⟩ := Int.eq_ofNat_of_zero_le (show 0 ≤ n by omega)
    exact rtrivial_ok w m (by omega)

end Go.Proofs.Ytdlhfihddipjaaa
