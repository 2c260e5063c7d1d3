/-
  Contracts: ranking.Join; the reference's Same.
-/
import Derived.Test.YtdlhfihddipjaabRank5
import Derived.OwnWalk
namespace Go.Proofs.Ytdlhfihddipjaab
open Go.RowKit

def sums (r s : List Int) (m : Nat) : List Int := (List.range m).map fun j => nth r (j % r.length) + nth s (j / r.length)
theorem sums_len (r s : List Int) (m : Nat) : (sums r s m).length = m := by simp [sums]
theorem sums_at {r s : List Int} {q k m : Nat} (hk : k < r.length) (h : q * r.length + k < m) : nth (sums r s m) (q * r.length + k) = nth r k + nth s q := by
  unfold sums
  rw [nth_ofFn m _ _ h]
  have e1 : (q * r.length + k) % r.length = k := by rw [Nat.mul_comm, Nat.mul_add_mod]; exact Nat.mod_eq_of_lt hk
  have e2 : (q * r.length + k) / r.length = q := by rw [Nat.mul_comm, Nat.mul_add_div (by omega), Nat.div_eq_of_lt hk]; omega
  rw [e1, e2]
theorem sums_succ {r s : List Int} {q k : Nat} (hk : k < r.length) : sums r s (q * r.length + k + 1) = sums r s (q * r.length + k) ++ [nth r k + nth s q] := by
  have e1 : (q * r.length + k) % r.length = k := by rw [Nat.mul_comm, Nat.mul_add_mod]; exact Nat.mod_eq_of_lt hk
  have e2 : (q * r.length + k) / r.length = q := by rw [Nat.mul_comm, Nat.mul_add_div (by omega), Nat.div_eq_of_lt hk]; omega
  show (List.range (q * r.length + k + 1)).map _ = _
  rw [List.range_succ, List.map_append]
  simp only [List.map_cons, List.map_nil, e1, e2]
  rfl
theorem cell_split {r s : List Int} {m : Nat} (h : m < s.length * r.length) : ∃ q k, q < s.length ∧ k < r.length ∧ m = q * r.length + k := by
  have hp : 0 < r.length := by
    rcases Nat.eq_zero_or_pos r.length with e | e
    · rw [e] at h; omega
    · exact e
  refine ⟨m / r.length, m % r.length, ?_, Nat.mod_lt _ hp, ?_⟩
  · exact Nat.div_lt_of_lt_mul (by rwa [Nat.mul_comm])
  · have := Nat.div_add_mod m r.length
    rw [Nat.mul_comm] at this
    exact this.symm
theorem cell_lt {L M q k : Nat} (hq : q < M) (hk : k < L) : q * L + k < M * L := by
  have : (q + 1) * L ≤ M * L := Nat.mul_le_mul_right L (by omega)
  rw [Nat.succ_mul] at this
  omega

def joinT (r s : List Int) (N : Int) : Int × List Int × Int := if (limR (sums r s (s.length * r.length))).2 ≠ 0 then (0, [], 8) else (N, sums r s (s.length * r.length), 0)
def joinR (n : Int) (r : List Int) (k : Int) (s : List Int) : Int × List Int × Int := if rkErr n r ≠ 0 then (0, [], rkErr n r) else if rkErr k s ≠ 0 then (0, [], rkErr k s) else if 4 < n + k then (0, [], 8) else joinT r s (n + k)
theorem joinT_big {r s : List Int} {N : Int} {q k : Nat} (hq : q < s.length) (hk : k < r.length) (h : 1000 < nth r k + nth s q) : joinT r s N = (0, [], 8) := by
  have : (limR (sums r s (s.length * r.length))) = ([], 8) := by
    unfold limR
    rw [if_pos (any_nth.2 ⟨q * r.length + k, by rw [sums_len]; exact cell_lt hq hk, decide_eq_true (by rw [sums_at hk (cell_lt hq hk)]; exact h)⟩)]
  unfold joinT
  rw [this]
  rfl
theorem joinT_ok {r s : List Int} {N : Int} (h : ∀ q, q < s.length → ∀ k, k < r.length → nth r k + nth s q ≤ 1000) : joinT r s N = (N, sums r s (s.length * r.length), 0) := by
  have : (limR (sums r s (s.length * r.length))) = (sums r s (s.length * r.length), 0) := by
    unfold limR
    rw [if_neg]
    rw [any_nth]
    rintro ⟨i, hi, hq⟩
    rw [sums_len] at hi
    obtain ⟨q, k, h1, h2, rfl⟩ := cell_split hi
    rw [decide_eq_true_eq, sums_at h2 hi] at hq
    have := h q h1 k h2
    omega
  unfold joinT
  rw [this]
  rfl

set_option maxRecDepth 100000 in
set_option maxHeartbeats 2000000 in
theorem Join_any (w : World) (v v2 : Value) (n k : Int) (r s : List Int) (h : Ints .i64 w v r) (h2 : Ints .i64 w v2 s) :
    Calls Try.prog 22 #[.int .i64 n, v, .int .i64 k, v2] w fun e w' => ∃ v', e = .returned (.tuple #[.int .i64 (joinR n r k s).1, v', .int .i64 (joinR n r k s).2.2]) ∧ Ints .i64 w' v' (joinR n r k s).2.1 ∧ Ext w w' := by
  obtain ⟨i0, hi0, hz0, hz1, hz2⟩ := info_parts Try.infoInt
  have C1 := Lib.hid (rkCheck_any w v n r h)
  have C2 := Lib.hid (rkCheck_any w v2 k s h2)
  unfold joinR
  by_cases h0 : rkErr n r = 0
  · rw [if_neg (by simpa using h0)]
    rw [h0] at C1
    by_cases h1 : rkErr k s = 0
    · rw [if_neg (by simpa using h1)]
      rw [h1] at C2
      obtain ⟨m, rfl, hm, hr⟩ := rkErr_zero h0
      obtain ⟨m2, rfl, hm2, hr2⟩ := rkErr_zero h1
      have hl : r.length ≤ 16 := by rw [hr.1.1]; exact pow_small hm
      have hl2 : s.length ≤ 16 := by rw [hr2.1.1]; exact pow_small hm2
      by_cases hbig : (4 : Int) < m + m2
      · rw [if_pos hbig]
        clear hr hr2 h h2 h0 h1
        go_enter Try.func22, Try.ntmps22
        go_wp2_with fail
        refine C1.out.mono ?_
        rintro e w1 ⟨rfl, rfl⟩
        go_wp2_with fail
        refine C2.out.mono ?_
        rintro e w1 ⟨rfl, rfl⟩
        go_wp2_with fail
        go_ret3
        exact ⟨.slice none 0 0, rfl, Ints.nil _ _, Ext.refl _⟩
      · rw [if_neg hbig]
        have Hr := Lib.hid hr.1.2
        have Hr2 := Lib.hid hr2.1.2
        obtain ⟨A, c, rfl, hs, hf⟩ := h
        have hle := hs.le
        have hcap := hs.cap
        obtain ⟨A2, c2, rfl, hs2, hf2⟩ := h2
        have hle2 := hs2.le
        have hcap2 := hs2.cap
        obtain ⟨z, hz⟩ : ∃ z, z = joinT r s (m + m2) := ⟨_, rfl⟩
        rw [← hz]
        have Hz := Lib.hid hz
        clear hr hr2 h0 h1 hz hf hf2
        go_enter Try.func22, Try.ntmps22
        go_wp2_with fail
        refine C1.out.mono ?_
        rintro e w1 ⟨rfl, rfl⟩
        go_wp2_with fail
        refine C2.out.mono ?_
        rintro e w1 ⟨rfl, rfl⟩
        go_wp2
        go_loopw [13, 36] (fun o i wr => ∃ q : Nat, q ≤ s.length ∧ i = .int .i64 q ∧ wr.ownsRow w.heap.size 3 1 o (q * r.length) ((sums r s (q * r.length)).map (Value.int .i64)) ∧ Hid (∀ j, j < q → ∀ i, i < r.length → nth r i + nth s j ≤ 1000) ∧ Ext w wr) (fun _ i _ => s.length - (intOf i).toNat)
        case atStart => exact ⟨0, Nat.zero_le _, rfl, by rw [Nat.zero_mul]; exact World.ownsRow_nil _ _ _ _, fun j hj => absurd hj (by omega), Ext.refl w⟩
        case round =>
          obtain ⟨q, hq, rfl, hown, hgo, hx⟩ := hrel
          by_cases hlt : q < s.length
          · obtain ⟨ad2, rfl, hb2, hc2⟩ := (hs2.ext hx).get hlt
            have gs := Hr2.out q hlt
            have HS : Hid (∀ k, k < r.length → sums r s (q * r.length + k + 1) = sums r s (q * r.length + k) ++ [nth r k + nth s q]) := fun k hk => sums_succ hk
            have hB : q * r.length + r.length ≤ 256 := by
              have h1 := Nat.mul_le_mul (show q + 1 ≤ 16 by omega) hl
              rw [Nat.succ_mul] at h1
              omega
            have hnext : (q + 1) * r.length = q * r.length + r.length := Nat.succ_mul _ _
            obtain ⟨B, hBB⟩ : ∃ B, B = q * r.length := ⟨_, rfl⟩
            rw [← hBB] at hown HS hB hnext
            have Hnext := Lib.hid hnext
            clear hnext hBB
            obtain ⟨y, hy⟩ : ∃ y, y = nth s q := ⟨_, rfl⟩
            rw [← hy] at hc2 gs HS
            have Hy := Lib.hid hy
            have Hown := Lib.hid hown
            clear hy hown
            go_wp2
            go_loopw [13, 42] (fun o i wr2 => ∃ k : Nat, k ≤ r.length ∧ i = .int .i64 k ∧ wr2.ownsRow w.heap.size 3 1 o (B + k) ((sums r s (B + k)).map (Value.int .i64)) ∧ Hid (∀ i, i < k → nth r i + y ≤ 1000) ∧ Ext w wr2) (fun _ i _ => r.length - (intOf i).toNat)
            case atStart => exact ⟨0, Nat.zero_le _, rfl, Hown.out, fun j hj => absurd hj (by omega), hx⟩
            case round =>
              obtain ⟨k, hk, rfl, hown, hgo2, hx2⟩ := hrel
              by_cases hlk : k < r.length
              · obtain ⟨ad, rfl, hb, hc⟩ := (hs.ext hx2).get hlk
                have gr := Hr.out k hlk
                have HSk := Lib.hid (HS.out k hlk)
                have Hown2 := Lib.hid hown
                clear hown
                obtain ⟨x, hxx⟩ : ∃ x, x = nth r k := ⟨_, rfl⟩
                rw [← hxx] at hc gr HSk
                have Hx := Lib.hid hxx
                clear hxx
                have hw : wrap64 (x + y) = x + y := IntWalk.wrap64_in _ ⟨by omega, by omega⟩
                by_cases hbg : 1000 < x + y
                · go_wp2
                  go_ret3
                  have e2 : z = (0, [], 8) := by rw [Hz.out]; exact joinT_big hlt hlk (by rw [← Hx.out, ← Hy.out]; exact hbg)
                  exact ⟨.slice none 0 0, by rw [e2]; rfl, by rw [e2]; exact Ints.nil _ _, hx2⟩
                · go_wp2_with (at_builtin; refine wpList_append_own _ rfl (.tmp 50) (.tmp 54) _ rfl w.heap.size 3 i0 (.int .i64 0) 1 8 Try.underlying22 hi0 hz0 hz1 hz2 rfl (by omega) u13 (B + k) ((sums r s (B + k)).map (Value.int .i64)) rfl (Hown2.out.alloc _) ⟨wr.heap.size, 0, none⟩ 1 1 [.int .i64 (x + y)] rfl rfl (cell_one_new _ _ _) (by simp [Value.oneCell']) (by unfold maxLen; omega) (by omega) (by have := hx2.size; simp; omega) ?_; intro v2 w3 hown3 hg3 _)
                  go_roundw
                  case rel =>
                    refine ⟨k + 1, by omega, by go_num, ?_, fun j hj => ?_, hx2.append Hown2.out (Nat.le_refl _) hg3⟩
                    · rw [show B + (k + 1) = B + k + 1 by omega, HSk.out]; simpa using hown3
                    · by_cases e : j = k
                      · rw [e, ← Hx.out]; omega
                      · exact hgo2.out j (by omega)
                  case measure => simp [intOf]; omega
              · obtain rfl : k = r.length := by omega
                have Hown2 := Lib.hid hown
                clear hown
                go_wp2
                go_roundw
                case rel =>
                  refine ⟨q + 1, by omega, by go_num, ?_, fun j hj => ?_, hx2⟩
                  · rw [Hnext.out]; exact Hown2.out
                  · by_cases e : j = q
                    · intro i hi; rw [e, ← Hy.out]; exact hgo2.out i hi
                    · exact hgo.out j (by omega)
                case measure => simp [intOf]; omega
          · obtain rfl : q = s.length := by omega
            have e2 : Hid (z = ((m : Int) + m2, sums r s (s.length * r.length), 0)) := by show z = _; rw [Hz.out]; exact joinT_ok hgo.out
            have hI : Hid (Ints .i64 wr u13 (sums r s (s.length * r.length))) := Ints.of_own hown (by have := Nat.mul_le_mul hl2 hl; omega) fun i hi => by
              rw [sums_len] at hi
              obtain ⟨q, k, h1, h2, rfl⟩ := cell_split hi
              rw [sums_at h2 hi]
              have := Hr.out k h2
              have := Hr2.out q h1
              exact fits_i64 (by omega)
            have hw : wrap64 ((m : Int) + m2) = m + m2 := IntWalk.wrap64_in _ ⟨by omega, by omega⟩
            clear hown
            go_wp2
            go_ret3
            exact ⟨_, by rw [e2.out]; rfl, by rw [e2.out]; exact hI.out, hx⟩
    · rw [if_pos (by simpa using h1)]
      have t : (rkErr k s != 0) = true := by rw [bne_iff_ne]; exact h1
      obtain ⟨z, hz⟩ : ∃ z, z = rkErr k s := ⟨_, rfl⟩
      rw [← hz] at t C2 ⊢
      clear h0 h1 hz h h2
      go_enter Try.func22, Try.ntmps22
      go_wp2_with fail
      refine C1.out.mono ?_
      rintro e w1 ⟨rfl, rfl⟩
      go_wp2_with fail
      refine C2.out.mono ?_
      rintro e w1 ⟨rfl, rfl⟩
      go_wp2_with fail
      go_ret3
      exact ⟨.slice none 0 0, rfl, Ints.nil _ _, Ext.refl _⟩
  · rw [if_pos (by simpa using h0)]
    have t : (rkErr n r != 0) = true := by rw [bne_iff_ne]; exact h0
    obtain ⟨z, hz⟩ : ∃ z, z = rkErr n r := ⟨_, rfl⟩
    rw [← hz] at t C1 ⊢
    clear h0 hz h h2 C2
    go_enter Try.func22, Try.ntmps22
    go_wp2_with fail
    refine C1.out.mono ?_
    rintro e w1 ⟨rfl, rfl⟩
    go_wp2_with fail
    go_ret3
    exact ⟨.slice none 0 0, rfl, Ints.nil _ _, Ext.refl _⟩

set_option maxRecDepth 100000 in
set_option maxHeartbeats 2000000 in
theorem Same37_any (w : World) (v v2 : Value) (a b : List Int) (h : Ints .i64 w v a) (h2 : Ints .i64 w v2 b) :
    Calls Try.prog 24 #[v, v2] w fun e w' => e = .returned (.bool (decide (a = b))) ∧ Ext w w' := by
  obtain ⟨A, c, rfl, hs, hf⟩ := h
  have hle := hs.le
  have hcap := hs.cap
  obtain ⟨A2, c2, rfl, hs2, hf2⟩ := h2
  have hle2 := hs2.le
  have hcap2 := hs2.cap
  obtain ⟨z, hz⟩ : ∃ z, z = decide (a = b) := ⟨_, rfl⟩
  rw [← hz]
  have Hz := Lib.hid hz
  clear hz hf hf2
  by_cases hl : a.length = b.length
  · have t : ((a.length : Int) != (b.length : Int)) = false := by simp [hl]
    go_enter Try.func24, Try.ntmps24
    go_wp2
    go_loopw [5] (fun i wr => ∃ k : Nat, k ≤ a.length ∧ i = .int .i64 k ∧ Hid (∀ j, j < k → nth a j = nth b j) ∧ Ext w wr) (fun i _ => a.length - (intOf i).toNat)
    case atStart => exact ⟨0, Nat.zero_le _, rfl, fun j hj => absurd hj (by omega), Ext.refl w⟩
    case round =>
      obtain ⟨k, hk, rfl, hgo, hx⟩ := hrel
      by_cases hlt : k < a.length
      · obtain ⟨ad, rfl, hb, hc⟩ := (hs.ext hx).get hlt
        obtain ⟨ad2, rfl, hb2, hc2⟩ := (hs2.ext hx).get (show k < b.length by omega)
        have hk2 : (k : Int) < b.length := by omega
        by_cases e : nth a k = nth b k
        · have t2 : (nth a k != nth b k) = false := by simp [e]
          have He := Lib.hid e
          clear e
          go_wp2
          go_quiet (fail)
          go_wp2
          go_roundw
          case rel => exact ⟨k + 1, by omega, by go_num, fun j hj => by
            by_cases e : j = k
            · rw [e]; exact He.out
            · exact hgo.out j (by omega), hx.drewN _⟩
          case measure => simp [intOf]; omega
        · have t2 : (nth a k != nth b k) = true := by rw [bne_iff_ne]; exact e
          have He := Lib.hid e
          clear e
          go_wp2
          go_quiet (fail)
          go_wp2
          go_ret
          exact ⟨by rw [Hz.out, decide_eq_false (fun k => He.out (by rw [k]))]; rfl, hx.drewN _⟩
      · obtain rfl : k = a.length := by omega
        go_wp2
        go_ret
        exact ⟨by rw [Hz.out, decide_eq_true (ext_nth hl hgo.out)]; rfl, hx⟩
  · have t : ((a.length : Int) != (b.length : Int)) = true := by rw [bne_iff_ne]; omega
    have Hl := Lib.hid hl
    clear hl
    go_enter Try.func24, Try.ntmps24
    go_wp2
    go_ret
    exact ⟨by rw [Hz.out, decide_eq_false (fun k => Hl.out (by rw [k]))]; rfl, Ext.refl w⟩

end Go.Proofs.Ytdlhfihddipjaab
