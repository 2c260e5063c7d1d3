/-
  The agreement texts: lists of fractions compared; whether all agents agree.
-/
import Derived.Test.YtdlhfihddipjaabAg7
namespace Go.Proofs.Ytdlhfihddipjaab
open Go.RowKit

theorem Fracs.get {w : World} {A : Option Addr} {n c : Nat} {fs : List (Nat × Nat)} (h : Fracs w (.slice A n c) fs) {i : Nat} (hi : i < fs.length) :
    ∃ ad, A = some ad ∧ ad.block < w.heap.size ∧ w.cell? (ad.add (i * 2)) = some (.int .i64 ((nthF fs i).1 : Nat)) ∧ w.cell? ((ad.add (i * 2)).add 1) = some (.int .i64 ((nthF fs i).2 : Nat)) ∧ w.cell? ⟨(ad.add (i * 2)).block, (ad.add (i * 2)).off + 1, none⟩ = some (.int .i64 ((nthF fs i).2 : Nat)) := by
  obtain ⟨A0, c0, e, _, _, h3⟩ := h
  injection e with e1 e2 e3
  subst e1
  obtain ⟨ad, e, hb, hc⟩ := h3 (by omega)
  refine ⟨ad, e, hb, ?_, ?_, ?_⟩
  · rw [Nat.mul_comm]; exact (hc i hi).1
  · rw [Addr.add_add, Nat.mul_comm]; exact (hc i hi).2
  · have e1 : (⟨(ad.add (i * 2)).block, (ad.add (i * 2)).off + 1, none⟩ : Addr) = (ad.add (i * 2)).add 1 := by
      generalize ad.add (i * 2) = q
      unfold Addr.add
      simp
    rw [e1, Addr.add_add, Nat.mul_comm]; exact (hc i hi).2

set_option maxRecDepth 100000 in
set_option maxHeartbeats 2000000 in
theorem SameFractions_any (w : World) (v v2 : Value) (a b : List (Nat × Nat)) (h : Fracs w v a) (h2 : Fracs w v2 b) :
    Calls Try.prog 37 #[v, v2] w fun e w' => e = .returned (.bool (decide (a = b))) ∧ Ext w w' := by
  have H := Lib.hid h
  have H2 := Lib.hid h2
  obtain ⟨A, c, rfl, hle, hcap, _⟩ := h
  obtain ⟨A2, c2, rfl, hle2, hcap2, _⟩ := h2
  obtain ⟨z, hz⟩ : ∃ z, z = decide (a = b) := ⟨_, rfl⟩
  rw [← hz]
  have Hz := Lib.hid hz
  clear hz
  by_cases hl : a.length = b.length
  · have t : ((a.length : Int) != (b.length : Int)) = false := by simp [hl]
    have Hl := Lib.hid hl
    clear hl
    go_enter Try.func37, Try.ntmps37
    go_wp2
    go_loopw [5] (fun i wr => ∃ k : Nat, k ≤ a.length ∧ i = .int .i64 k ∧ Hid (∀ j, j < k → nthF a j = nthF b j) ∧ Ext w wr) (fun i _ => a.length - (intOf i).toNat)
    case atStart => exact ⟨0, Nat.zero_le _, rfl, fun j hj => absurd hj (by omega), Ext.refl w⟩
    case round =>
      obtain ⟨k, hk, rfl, hgo, hx⟩ := hrel
      by_cases hlt : k < a.length
      · obtain ⟨ad, rfl, _, hc, hd, hd'⟩ := (H.out.ext hx).get hlt
        obtain ⟨ad2, rfl, _, hc2, hd2, hd2'⟩ := (H2.out.ext hx).get (show k < b.length by have := Hl.out; omega)
        have hk2 : (k : Int) < b.length := by have := Hl.out; omega
        obtain ⟨fa, hfa⟩ : ∃ f, f = nthF a k := ⟨_, rfl⟩
        obtain ⟨fb, hfb⟩ : ∃ f, f = nthF b k := ⟨_, rfl⟩
        rw [← hfa] at hc hd hd'
        rw [← hfb] at hc2 hd2 hd2'
        obtain ⟨x1, x2⟩ := fa
        obtain ⟨y1, y2⟩ := fb
        have Hfa := Lib.hid hfa
        have Hfb := Lib.hid hfb
        clear hfa hfb hd hd2
        dsimp only at hc hd' hc2 hd2'
        by_cases e1 : x1 = y1
        · have i1 : ((x1 : Int) = (y1 : Int)) = True := eq_true (by omega)
          by_cases e2 : x2 = y2
          · have i2 : ((x2 : Int) = (y2 : Int)) = True := eq_true (by omega)
            have hg : Hid (nthF a k = nthF b k) := by show _ = _; rw [← Hfa.out, ← Hfb.out, e1, e2]
            clear e1 e2
            go_wp2
            go_region
            all_goals
              go_wp2
              go_roundw
              case rel => exact ⟨k + 1, by omega, by go_num, fun j hj => by
                by_cases e : j = k
                · rw [e]; exact hg.out
                · exact hgo.out j (by omega), hx.drew⟩
              case measure => simp [intOf]; omega
          · have i2 : ((x2 : Int) = (y2 : Int)) = False := eq_false (by omega)
            have hg : Hid (nthF a k ≠ nthF b k) := by show _ ≠ _; rw [← Hfa.out, ← Hfb.out]; intro q; exact e2 (congrArg Prod.snd q)
            clear e1 e2
            go_wp2
            go_region
            all_goals
              go_wp2
              go_ret
              exact ⟨by rw [Hz.out, decide_eq_false (fun q => hg.out (by rw [q]))]; rfl, hx.drew⟩
        · have i1 : ((x1 : Int) = (y1 : Int)) = False := eq_false (by omega)
          have hg : Hid (nthF a k ≠ nthF b k) := by show _ ≠ _; rw [← Hfa.out, ← Hfb.out]; intro q; exact e1 (congrArg Prod.fst q)
          clear e1
          go_wp2
          go_region
          all_goals
            go_wp2
            go_ret
            exact ⟨by rw [Hz.out, decide_eq_false (fun q => hg.out (by rw [q]))]; rfl, hx.drew⟩
      · obtain rfl : k = a.length := by omega
        have hq : Hid (a = b) := ext_nthF Hl.out hgo.out
        go_wp2
        go_ret
        exact ⟨by rw [Hz.out, decide_eq_true hq.out]; rfl, hx⟩
  · have t : ((a.length : Int) != (b.length : Int)) = true := by rw [bne_iff_ne]; omega
    have Hl := Lib.hid hl
    clear hl
    go_enter Try.func37, Try.ntmps37
    go_wp2
    go_ret
    exact ⟨by rw [Hz.out, decide_eq_false (fun k => Hl.out (by rw [k]))]; rfl, Ext.refl w⟩

end Go.Proofs.Ytdlhfihddipjaab
