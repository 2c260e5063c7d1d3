/-
  Contract of the reference of the package ranking: Join.
-/
import Derived.Test.YtdlhfihddipjaabRank14
import Derived.Test.YtdlhfihddipjaabRk12l
import Derived.Test.YtdlhfihddipjaabRkP
import Derived.OwnWalk
import Derived.Deep.RegionLaw
namespace Go.Proofs.Ytdlhfihddipjaab
open Go.RowKit

section
variable {P : Program} {ops : Array Oper} {o : Oper} {a : Act} {w : World} {K : Act → World → Prop} {Q : Exit → Act → World → Prop} {E : Prop}
/-- An append onto a row of the call's own, as one step of a region that draws its order. -/
theorem step_append_mine (hg : o.guard = none) (s x : Operand) (t : TypeId) (hop : o.op = .call { callee := .builtin .append, args := #[s, x], argTypes := #[t, t] })
    (base : Nat) (e : TypeId) (i : TypeInfo) (z : Value) (size bytes : Nat) (ht : P.underlying t = some (.slice e)) (hi : P.info? e = some i) (hz : i.zero = some z)
    (hsize : i.size = size) (hby : i.bytes = bytes) (hzs : z.cells.size = size) (hsz : 0 < size)
    (v : Value) (n : Nat) (xs : List Value) (hs : a.eval s = v) (hown : w.ownsRow base e size v n xs)
    (ad : Addr) (m c : Nat) (news : List Value) (hx : a.eval x = .slice (some ad) m c) (hl : news.length = m * size) (hnews : ∀ j u, news[j]? = some u → w.cell? (ad.add j) = some u) (h1 : ∀ u ∈ news, u.oneCell' = true)
    (h63 : n + m ≤ maxLen) (hbytes : (n + m) * bytes ≤ 140737488355328) (hbase : base ≤ w.heap.size)
    (hK : ∀ v' w', w'.ownsRow base e size v' (n + m) (xs ++ news) → w.grownBy w' v.ownBlock → K (a.put o.dst v') w') :
    if Region.wanted o (yielded ops a.tmps) = true then Oper.wp P o a w K Q else E := by
  have hw : Region.wanted o (yielded ops a.tmps) = true := by simp [Region.wanted, hg]
  rw [if_pos hw]
  exact wp_append_own w s x t hop base e i z size bytes ht hi hz hsize hby hzs hsz v n xs hs hown ad m c news hx hl hnews h1 h63 hbytes hbase fun v' w' h2 h3 _ => hK v' w' h2 h3
end

set_option maxRecDepth 100000 in
set_option maxHeartbeats 2000000 in
theorem refJoin_any (w : World) (v v2 : Value) (n k : Int) (r s : List Int) (h : Ints .i64 w v r) (h2 : Ints .i64 w v2 s) :
    Calls Try.prog 23 #[.int .i64 n, v, .int .i64 k, v2] w fun e w' => ∃ v', e = .returned (.tuple #[.int .i64 (joinR n r k s).1, v', .int .i64 (joinR n r k s).2.2]) ∧ Ints .i64 w' v' (joinR n r k s).2.1 ∧ Ext w w' := by
  obtain ⟨i0, hi0, hz0, hz1, hz2⟩ := info_parts Try.infoInt
  have C1 := Lib.hid (rkCheck37_any w v n r h)
  have C2 := Lib.hid (rkCheck37_any w v2 k s h2)
  unfold joinR
  by_cases h0 : rkErr n r = 0
  · rw [if_neg (by simpa using h0)]
    rw [h0] at C1
    by_cases h1 : rkErr k s = 0
    · rw [if_neg (by simpa using h1)]
      rw [h1] at C2
      obtain ⟨m, rfl, hm, hr⟩ := rkErr_zero h0
      obtain ⟨m2, rfl, hm2, hr2⟩ := rkErr_zero h1
      have hl : r.length ≤ 16 := by rw [hr.1.1]; exact pow_small hm
      have hl2 : s.length ≤ 16 := by rw [hr2.1.1]; exact pow_small hm2
      by_cases hbig : (4 : Int) < m + m2
      · rw [if_pos hbig]
        clear hr hr2 h h2 h0 h1
        go_enter Try.func23, Try.ntmps23
        go_wp2_with fail
        refine C1.out.mono ?_
        rintro e w1 ⟨rfl, rfl⟩
        go_wp2_with fail
        refine C2.out.mono ?_
        rintro e w1 ⟨rfl, rfl⟩
        go_wp2_with fail
        go_ret3
        exact ⟨.slice none 0 0, rfl, Ints.nil _ _, Ext.refl _⟩
      · rw [if_neg hbig]
        have Hr := Lib.hid hr.1.2
        have Hr2 := Lib.hid hr2.1.2
        obtain ⟨A, c, rfl, hs, hf⟩ := h
        have hle := hs.le
        have hcap := hs.cap
        obtain ⟨A2, c2, rfl, hs2, hf2⟩ := h2
        have hle2 := hs2.le
        have hcap2 := hs2.cap
        obtain ⟨z, hz⟩ : ∃ z, z = joinT r s (m + m2) := ⟨_, rfl⟩
        rw [← hz]
        have Hz := Lib.hid hz
        clear hr hr2 h0 h1 hz hf hf2
        go_enter Try.func23, Try.ntmps23
        go_wp2_with fail
        refine C1.out.mono ?_
        rintro e w1 ⟨rfl, rfl⟩
        go_wp2_with fail
        refine C2.out.mono ?_
        rintro e w1 ⟨rfl, rfl⟩
        go_wp2
        go_loopw [13, 14] (fun o i wr => ∃ q : Nat, q ≤ s.length ∧ i = .int .i64 q ∧ wr.ownsRow w.heap.size 3 1 o (q * r.length) ((sums r s (q * r.length)).map (Value.int .i64)) ∧ Ext w wr) (fun _ i _ => s.length - (intOf i).toNat)
        case atStart => exact ⟨0, Nat.zero_le _, rfl, by rw [Nat.zero_mul]; exact World.ownsRow_nil _ _ _ _, Ext.refl w⟩
        case round =>
          obtain ⟨q, hq, rfl, hown, hx⟩ := hrel
          by_cases hlt : q < s.length
          · obtain ⟨ad2, rfl, hb2, hc2⟩ := (hs2.ext hx).get hlt
            have hs2q := hs2
            have hqs : (q : Int) < s.length := by omega
            have gs := Hr2.out q hlt
            have HS : Hid (∀ k, k < r.length → sums r s (q * r.length + k + 1) = sums r s (q * r.length + k) ++ [nth r k + nth s q]) := fun k hk => sums_succ hk
            have hB : q * r.length + r.length ≤ 256 := by
              have h1 := Nat.mul_le_mul (show q + 1 ≤ 16 by omega) hl
              rw [Nat.succ_mul] at h1
              omega
            have hnext : (q + 1) * r.length = q * r.length + r.length := Nat.succ_mul _ _
            obtain ⟨B, hBB⟩ : ∃ B, B = q * r.length := ⟨_, rfl⟩
            rw [← hBB] at hown HS hB hnext
            have Hnext := Lib.hid hnext
            clear hnext hBB
            obtain ⟨y, hy⟩ : ∃ y, y = nth s q := ⟨_, rfl⟩
            rw [← hy] at hc2 gs HS
            have Hy := Lib.hid hy
            have Hown := Lib.hid hown
            clear hy hown
            go_wp2
            go_loopw [13, 15] (fun o i wr2 => ∃ k : Nat, k ≤ r.length ∧ i = .int .i64 k ∧ wr2.ownsRow w.heap.size 3 1 o (B + k) ((sums r s (B + k)).map (Value.int .i64)) ∧ Ext w wr2) (fun _ i _ => r.length - (intOf i).toNat)
            case atStart => exact ⟨0, Nat.zero_le _, rfl, Hown.out, hx⟩
            case round =>
              obtain ⟨k, hk, rfl, hown, hx2⟩ := hrel
              by_cases hlk : k < r.length
              · obtain ⟨ad, rfl, hb, hc⟩ := (hs.ext hx2).get hlk
                have gr := Hr.out k hlk
                have HSk := Lib.hid (HS.out k hlk)
                have Hown2 := Lib.hid hown
                clear hown
                obtain ⟨x, hxx⟩ : ∃ x, x = nth r k := ⟨_, rfl⟩
                rw [← hxx] at hc gr HSk
                have Hx := Lib.hid hxx
                clear hxx
                have hw : wrap64 (x + y) = x + y := IntWalk.wrap64_in _ ⟨by omega, by omega⟩
                have hc2' : wr.cell? (ad2.add q) = some (.int .i64 y) := by
                  obtain ⟨adx, eqx, _, h⟩ := (hs2q.ext hx2).get hlt
                  injection eqx with eqx
                  subst eqx
                  rw [Hy.out]; exact h
                have hcd : wr.drew.cell? (ad2.add q) = some (.int .i64 y) := hc2'
                have hce : wr.drew.cell? (ad.add k) = some (.int .i64 x) := hc
                have hw' : IntKind.i64.wrap (x + y) = x + y := by rw [IntKind.wrap_i64]; omega
                clear hc2 hc2'
                go_wp2
                go_region_law (first | (refine step_append_mine rfl (.tmp 46) (.tmp 56) _ rfl w.heap.size 3 i0 (.int .i64 0) 1 8 Try.underlying22 hi0 hz0 hz1 hz2 rfl (by omega) u13 (B + k) ((sums r s (B + k)).map (Value.int .i64)) (by simp [Act.eval, Act.put]) ?hown ⟨wr.heap.size, 0, none⟩ 1 1 [.int .i64 (x + y)] (by simp [Act.eval, Act.put]) rfl ?hnews (by simp [Value.oneCell']) (by unfold maxLen; omega) (by omega) ?hbase ?_; (case hown => exact own_ext Hown2.out (((Ext.refl wr).alloc _).drew)); (case hnews => exact cell_one_new _ _ _); (case hbase => (have := hx2.size; simp; omega)); intro v2 w3 hown3 hg3))
                all_goals
                  go_wp2
                  go_roundw
                  case rel =>
                    refine ⟨k + 1, by omega, by go_num, ?_, hx2.drew.append (own_ext Hown2.out (Ext.refl wr).drew) (Nat.le_refl _) hg3⟩
                    rw [show B + (k + 1) = B + k + 1 by omega, HSk.out]; simpa using hown3
                  case measure => simp [intOf]; omega
              · obtain rfl : k = r.length := by omega
                have Hown2 := Lib.hid hown
                clear hown
                go_wp2
                go_roundw
                case rel =>
                  exact ⟨q + 1, by omega, by go_num, by rw [Hnext.out]; exact Hown2.out, hx2⟩
                case measure => simp [intOf]; omega
          · obtain rfl : q = s.length := by omega
            have hI : Hid (Ints .i64 wr u13 (sums r s (s.length * r.length))) := Ints.of_own hown (by have := Nat.mul_le_mul hl2 hl; omega) fun i hi => by
              rw [sums_len] at hi
              obtain ⟨q, k, h1, h2, rfl⟩ := cell_split hi
              rw [sums_at h2 hi]
              have := Hr.out k h2
              have := Hr2.out q h1
              exact fits_i64 (by omega)
            have hw : wrap64 ((m : Int) + m2) = m + m2 := IntWalk.wrap64_in _ ⟨by omega, by omega⟩
            have C3 := limited_any wr u13 _ hI.out
            have hzz : z = if (limR (sums r s (s.length * r.length))).2 ≠ 0 then (0, [], 8) else ((m : Int) + m2, sums r s (s.length * r.length), 0) := by rw [Hz.out]; rfl
            have h8 : (limR (sums r s (s.length * r.length))).2 ≠ 0 → (limR (sums r s (s.length * r.length))).2 = 8 := fun h => by unfold limR at h ⊢; split at h <;> simp_all
            have h9 : (limR (sums r s (s.length * r.length))).2 = 0 → (limR (sums r s (s.length * r.length))).1 = sums r s (s.length * r.length) := fun h => by rw [(limR_zero h).1]
            obtain ⟨L, hL⟩ : ∃ L, L = limR (sums r s (s.length * r.length)) := ⟨_, rfl⟩
            rw [← hL] at C3 hzz h8 h9
            have C3 := Lib.hid C3
            clear hown
            by_cases e : L.2 = 0
            · rw [if_neg (by simpa using e)] at hzz
              have t : (L.2 != 0) = false := by rw [e]; rfl
              have H9 := Lib.hid (h9 e)
              have HZ := Lib.hid hzz
              clear h8 h9 hL e hzz
              go_wp2_with fail
              refine C3.out.mono ?_
              rintro e w4 ⟨v4, rfl, hJ, rfl⟩
              have HJ := Lib.hid hJ
              clear hJ
              go_wp2
              go_ret3
              exact ⟨_, by rw [HZ.out]; rfl, by rw [HZ.out]; have := HJ.out; rwa [H9.out] at this, hx⟩
            · rw [if_pos (by simpa using e)] at hzz
              have t : (L.2 != 0) = true := by rw [bne_iff_ne]; exact e
              have H8 := Lib.hid (h8 e)
              have HZ := Lib.hid hzz
              clear h8 h9 hL e hzz
              go_wp2_with fail
              refine C3.out.mono ?_
              rintro e w4 ⟨v4, rfl, hJ, rfl⟩
              clear hJ
              go_wp2
              go_ret3
              exact ⟨.slice none 0 0, by rw [HZ.out, H8.out]; rfl, by rw [HZ.out]; exact Ints.nil _ _, hx⟩
    · rw [if_pos (by simpa using h1)]
      have t : (rkErr k s != 0) = true := by rw [bne_iff_ne]; exact h1
      obtain ⟨z, hz⟩ : ∃ z, z = rkErr k s := ⟨_, rfl⟩
      rw [← hz] at t C2 ⊢
      clear h0 h1 hz h h2
      go_enter Try.func23, Try.ntmps23
      go_wp2_with fail
      refine C1.out.mono ?_
      rintro e w1 ⟨rfl, rfl⟩
      go_wp2_with fail
      refine C2.out.mono ?_
      rintro e w1 ⟨rfl, rfl⟩
      go_wp2_with fail
      go_ret3
      exact ⟨.slice none 0 0, rfl, Ints.nil _ _, Ext.refl _⟩
  · rw [if_pos (by simpa using h0)]
    have t : (rkErr n r != 0) = true := by rw [bne_iff_ne]; exact h0
    obtain ⟨z, hz⟩ : ∃ z, z = rkErr n r := ⟨_, rfl⟩
    rw [← hz] at t C1 ⊢
    clear h0 hz h h2 C2
    go_enter Try.func23, Try.ntmps23
    go_wp2_with fail
    refine C1.out.mono ?_
    rintro e w1 ⟨rfl, rfl⟩
    go_wp2_with fail
    go_ret3
    exact ⟨.slice none 0 0, rfl, Ints.nil _ _, Ext.refl _⟩

end Go.Proofs.Ytdlhfihddipjaab
