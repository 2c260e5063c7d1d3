/-
  The agreement texts: the reference's canonical partition and Split.
-/
import Derived.Test.YtdlhfihddipjaabAg6
namespace Go.Proofs.Ytdlhfihddipjaab
open Go.RowKit

theorem upTo_succ24 (n : Nat) (f : Nat → Int) : upTo (n + 1) f = upTo n f ++ [f n] := by simp [upTo, List.range_succ]

set_option maxRecDepth 100000 in
set_option maxHeartbeats 4000000 in
theorem canonical_any (w : World) (v v2 : Value) (a b : List Int) (h : Ints .i64 w v a) (h2 : Ints .i64 w v2 b) (hl : a.length = b.length) (h64 : a.length ≤ 64) :
    Calls Try.prog 117 #[v, v2] w fun e w' => ∃ v', e = .returned v' ∧ Ints .i64 w' v' (pDiv a.length a b) ∧ (0 < a.length → Zero v') ∧ Ext w w' := by
  obtain ⟨i0, hi0, hz0, hz1, hz2⟩ := info_parts Try.infoInt
  obtain ⟨A, c, rfl, hs, hf⟩ := h
  have hle := hs.le
  have hcap := hs.cap
  obtain ⟨A2, c2, rfl, hs2, hf2⟩ := h2
  have hle2 := hs2.le
  have hcap2 := hs2.cap
  have Hl := Lib.hid hl
  clear hf hf2 hl
  go_enter Try.func117, Try.ntmps117
  go_wp2
  go_loopw [5, 11] (fun p v wr => ∃ k : Nat, k ≤ a.length ∧ v = .int .i64 k ∧ wr.ownsRow w.heap.size 3 1 p k ((upTo k fun i => (lowOf a b i : Int)).map (Value.int .i64)) ∧ Ext w wr) (fun _ v _ => a.length - (intOf v).toNat)
  case atStart => exact ⟨0, Nat.zero_le _, rfl, World.ownsRow_nil _ _ _ _, Ext.refl w⟩
  case round =>
    obtain ⟨k, hk, rfl, hown, hx⟩ := hrel
    by_cases hlt : k < a.length
    · have Hown := Lib.hid hown
      clear hown
      go_wp2
      go_loopw [7, 8] (fun l v w2 => ∃ j low : Nat, j ≤ k + 1 ∧ low ≤ k ∧ j ≤ low + 1 ∧ v = .int .i64 ((j : Int) - 1) ∧ l = .int .i64 low ∧ Hid (same2 a b low k = true ∧ ∀ i, j ≤ i → i < low → same2 a b i k = false) ∧ Ext wr w2) (fun _ v _ => (intOf v + 1).toNat)
      case atStart => exact ⟨k + 1, k, Nat.le_refl _, Nat.le_refl _, Nat.le_refl _, by congr 1; omega, rfl, ⟨same2_refl a b k, fun i h1 h2 => absurd h1 (by omega)⟩, Ext.refl _⟩
      case round =>
        obtain ⟨j, low, hj, hlo, hjl, rfl, rfl, hinv, hxr⟩ := hrel
        have hxw := hx.trans hxr
        by_cases hj0 : j = 0
        · have hlow : lowOf a b k = low := lowest_unique (P := fun m => same2 a b m k) hlo hinv.out.1 (fun i hi => hinv.out.2 i (by omega) hi)
          have Hlow := Lib.hid hlow
          have hown2 := own_ext24 (Hown.out) hxr
          subst hj0
          clear hlow
          go_wp2_with (at_builtin; refine wpList_append_own _ rfl (.tmp 41) (.tmp 43) _ rfl w.heap.size 3 i0 (.int .i64 0) 1 8 Try.underlying22 hi0 hz0 hz1 hz2 rfl (by omega) u5 k ((upTo k fun i => (lowOf a b i : Int)).map (Value.int .i64)) rfl (hown2.alloc _) ⟨wr.heap.size, 0, none⟩ 1 1 [.int .i64 low] rfl rfl (cell_one_new _ _ _) (by simp [Value.oneCell']) (by unfold maxLen; omega) (by omega) (by have := hxw.size; simp; omega) ?_; intro v2 w2 hown3 hg2 _)
          go_roundw
          case rel =>
            refine ⟨k + 1, by omega, by go_num, ?_, hxw.append hown2 (Nat.le_refl _) hg2⟩
            rw [upTo_succ24, Hlow.out]; simpa using hown3
          case measure => simp [intOf]; omega
        · obtain ⟨i, rfl⟩ : ∃ i, j = i + 1 := ⟨j - 1, by omega⟩
          have HE : Hid ((((i + 1 : Nat) : Int) - 1) = (i : Int)) := by show (((i + 1 : Nat) : Int) - 1) = (i : Int); omega
          rw [HE.out]
          obtain ⟨ad, rfl, _, hci⟩ := (hs.ext hxw).get (show i < a.length by omega)
          obtain ⟨adx, eqx, _, hck⟩ := (hs.ext hxw).get hlt
          obtain rfl : ad = adx := by injection eqx
          obtain ⟨ad2, rfl, _, hdi⟩ := (hs2.ext hxw).get (show i < b.length by have := Hl.out; omega)
          obtain ⟨ady, eqy, _, hdk⟩ := (hs2.ext hxw).get (show k < b.length by have := Hl.out; omega)
          obtain rfl : ad2 = ady := by injection eqy
          have b1 : (i : Int) < b.length := by have := Hl.out; omega
          have b2 : (k : Int) < b.length := by have := Hl.out; omega
          have b3 : (i : Int) < a.length := by omega
          have hS : same2 a b i k = (nth a i == nth a k && nth b i == nth b k) := rfl
          clear hj0 eqx eqy
          cases e1 : (nth a i == nth a k) with
          | true =>
            cases e2 : (nth b i == nth b k) with
            | true =>
              have hg : Hid (same2 a b i k = true) := by show same2 a b i k = true; rw [hS, e1, e2]; rfl
              clear hS
              go_wp2
              go_quiet (fail)
              go_wp2
              go_roundw
              case rel => exact ⟨i, i, by omega, by omega, by omega, rfl, rfl, ⟨hg.out, fun q h1 h2 => absurd h1 (by omega)⟩, hxr.drewN _⟩
              case measure => simp [intOf]
            | false =>
              have hg : Hid (same2 a b i k = false) := by show same2 a b i k = false; rw [hS, e1, e2]; rfl
              clear hS
              go_wp2
              go_quiet (fail)
              go_wp2
              go_roundw
              case rel => exact ⟨i, low, by omega, by omega, by omega, rfl, rfl, ⟨hinv.out.1, fun q h1 h2 => by
                by_cases e : q = i
                · rw [e]; exact hg.out
                · exact hinv.out.2 q (by omega) h2⟩, hxr.drewN _⟩
              case measure => simp [intOf]
          | false =>
            have hg : Hid (same2 a b i k = false) := by show same2 a b i k = false; rw [hS, e1]; rfl
            clear hS
            go_wp2
            go_quiet (fail)
            go_wp2
            go_roundw
            case rel => exact ⟨i, low, by omega, by omega, by omega, rfl, rfl, ⟨hinv.out.1, fun q h1 h2 => by
              by_cases e : q = i
              · rw [e]; exact hg.out
              · exact hinv.out.2 q (by omega) h2⟩, hxr.drewN _⟩
            case measure => simp [intOf]
    · obtain rfl : k = a.length := by omega
      have hI : Hid (Ints .i64 wr u5 (pDiv a.length a b)) := by
        refine Ints.of_own (xs := pDiv a.length a b) hown (by omega) fun i hi => ?_
        rw [pDiv_len] at hi
        have := lowOf_le a b i
        rw [pDiv_nth hi]; exact fits_small (by omega) (by omega)
      have hZ : Hid (0 < a.length → Zero u5) := fun h0 => by
        obtain ⟨g, cap, _, e, _⟩ := own_row hown h0
        exact ⟨g, _, cap, e⟩
      clear hown
      go_wp2
      go_ret
      exact ⟨_, rfl, hI.out, hZ.out, hx⟩

set_option maxHeartbeats 1000000 in
theorem rsplit_ok (w : World) (v1 v2 : Value) (a b : List Int) (h : Ints .i64 w v1 a) (h' : Ints .i64 w v2 b) (hl : a.length = b.length) (h64 : a.length ≤ 64) (ha : pOk a) :
    Calls Try.prog 114 #[v1, v2] w fun e w' => ∃ v, e = .returned (.tuple #[v, .int .i64 0]) ∧ Ints .i64 w' v (pDiv a.length a b) ∧ (0 < a.length → Zero v) ∧ Ext w w' := by
  have C1 := Lib.hid (rcheck_ok w v1 a h h64 ha)
  have C2 := Lib.hid (canonical_any w v1 v2 a b h h' hl h64)
  obtain ⟨A, c, rfl, hs, _⟩ := h
  have hle := hs.le
  have hcap := hs.cap
  obtain ⟨A2, c2, rfl, hs2, _⟩ := h'
  have hle2 := hs2.le
  have hcap2 := hs2.cap
  have t : ((b.length : Int) != (a.length : Int)) = false := by simp [hl]
  clear hs hs2 hl
  go_enter Try.func114, Try.ntmps114
  go_wp2_with fail
  refine C1.out.mono ?_
  rintro e w1 ⟨rfl, rfl⟩
  go_wp2_with fail
  refine C2.out.mono ?_
  rintro e w1 ⟨v', rfl, hI, hZ, hx⟩
  have HI := Lib.hid hI
  have HZ := Lib.hid hZ
  clear hI hZ
  go_wp2
  go_ret2
  exact ⟨_, rfl, HI.out, HZ.out, hx⟩

end Go.Proofs.Ytdlhfihddipjaab
