/-
  The agreement texts: equality of models (of equal ones).
-/
import Derived.Test.YtdlhfihddipjaabAgM
import Derived.BigQuiet
namespace Go.Proofs.Ytdlhfihddipjaab
open Go.RowKit

set_option maxRecDepth 100000 in
set_option maxHeartbeats 2000000 in
theorem sameSets13_yes (w : World) (v v2 : Value) (a : List Nat) (h : Sets w v a) (h2 : Sets w v2 a) :
    Calls Try.prog 93 #[v, v2] w fun e w' => e = .returned (.bool true) ∧ ∃ m, w' = w.drewN m := by
  obtain ⟨A, c, rfl, hs, hf⟩ := h
  have hle := hs.le
  have hcap := hs.cap
  obtain ⟨A2, c2, rfl, hs2, hf2⟩ := h2
  have hle2 := hs2.le
  have hcap2 := hs2.cap
  clear hf hf2
  go_enter Try.func93, Try.ntmps93
  go_wp2
  go_loopw [5] (fun i wr => ∃ k : Nat, k ≤ a.length ∧ i = .int .i64 k ∧ ∃ m, wr = w.drewN m) (fun i _ => a.length - (intOf i).toNat)
  case atStart => exact ⟨0, Nat.zero_le _, rfl, 0, rfl⟩
  case round =>
    obtain ⟨k, hk, rfl, m, hwr⟩ := hrel
    have hx : Ext w wr := by rw [hwr]; exact (Ext.refl w).drewN m
    have HWr := Lib.hid hwr
    clear hwr
    by_cases hlt : k < a.length
    · obtain ⟨ad, rfl, hb, hc⟩ := (hs.ext hx).get hlt
      obtain ⟨ad2, rfl, hb2, hc2⟩ := (hs2.ext hx).get hlt
      go_wp2
      go_quiet (fail)
      go_wp2
      go_roundw
      case rel => exact ⟨k + 1, by omega, by go_num, m + nq, by rw [HWr.out, World.drewN_drewN]⟩
      case measure => simp [intOf]; omega
    · obtain rfl : k = a.length := by omega
      go_wp2
      go_ret
      exact ⟨rfl, m, HWr.out⟩

theorem cellsM (w : World) (a b c : Value) (t : TypeId) : (w.alloc (.cells #[a, b, c] t)).cell? ⟨w.heap.size, 0, none⟩ = some a ∧ (w.alloc (.cells #[a, b, c] t)).cell? ⟨w.heap.size, 1, none⟩ = some b ∧ (w.alloc (.cells #[a, b, c] t)).cell? ⟨w.heap.size, 2, none⟩ = some c :=
  ⟨(MBlk.made w a b c t).c0, (MBlk.made w a b c t).c1, (MBlk.made w a b c t).c2⟩

set_option maxRecDepth 100000 in
set_option maxHeartbeats 4000000 in
theorem same13_yes (w : World) (x y z x' y' z' : Value) (n : Int) (V : List Nat) (R : List (List Nat)) (h : Mdl w x y z n V R) (h2 : Mdl w x' y' z' n V R) :
    Calls Try.prog 45 #[.agg #[x, y, z], .agg #[x', y', z']] w fun e w' => e = .returned (.bool true) ∧ Ext w w' := by
  have HEq : Hid (∀ w1 v v2 a, Sets w1 v a → Sets w1 v2 a → Calls Try.prog 93 #[v, v2] w1 fun e w' => e = .returned (.bool true) ∧ ∃ m, w' = w1.drewN m) := sameSets13_yes
  obtain ⟨rfl, h1, h3⟩ := h
  obtain ⟨rfl, h2, h4⟩ := h2
  have H1 := Lib.hid h1
  have H2 := Lib.hid h2
  have H3 := Lib.hid h3
  have H4 := Lib.hid h4
  obtain ⟨A, c, rfl, hs, _⟩ := h1
  obtain ⟨A', c', rfl, hs', _⟩ := h2
  obtain ⟨A2, c2, vs, rfl, hs2, _⟩ := h3
  have hle2 := hs2.le
  have hcap2 := hs2.cap
  obtain ⟨A2', c2', vs', rfl, hs2', _⟩ := h4
  have hle2' := hs2'.le
  have hcap2' := hs2'.cap
  clear hs hs' hs2 hs2'
  obtain ⟨q0, q1, q2⟩ := cellsM w (.int .i64 n) (.slice A V.length c) (.slice A2 R.length c2) 71
  obtain ⟨p0, p1, p2⟩ := cellsM (w.alloc (.cells #[.int .i64 n, .slice A V.length c, .slice A2 R.length c2] 71)) (.int .i64 n) (.slice A' V.length c') (.slice A2' R.length c2') 71
  have up := fun (p : Addr) (hp : p.block < (w.alloc (.cells #[.int .i64 n, .slice A V.length c, .slice A2 R.length c2] 71)).heap.size) => ((Ext.refl (w.alloc (.cells #[.int .i64 n, .slice A V.length c, .slice A2 R.length c2] 71))).alloc (.cells #[.int .i64 n, .slice A' V.length c', .slice A2' R.length c2'] 71)).cell hp
  have q0 := (up ⟨w.heap.size, 0, none⟩ (by simp)).trans q0
  have q1 := (up ⟨w.heap.size, 1, none⟩ (by simp)).trans q1
  have q2 := (up ⟨w.heap.size, 2, none⟩ (by simp)).trans q2
  clear up
  obtain ⟨W1, hW1⟩ : ∃ W1, W1 = (w.alloc (.cells #[.int .i64 n, .slice A V.length c, .slice A2 R.length c2] 71)).alloc (.cells #[.int .i64 n, .slice A' V.length c', .slice A2' R.length c2'] 71) := ⟨_, rfl⟩
  have hx1 : Ext w W1 := by rw [hW1]; exact ((Ext.refl w).alloc _).alloc _
  have CE := Lib.hid (HEq.out W1 _ _ _ (H1.out.ext hx1) (H2.out.ext hx1))
  rw [hW1] at CE
  rw [← hW1] at q2 p2
  rw [show (w.alloc (.cells #[.int .i64 n, .slice A V.length c, .slice A2 R.length c2] 71)).heap.size = w.heap.size + 1 from by simp] at p0 p1 p2
  have hsz : W1.heap.size = w.heap.size + 2 := by rw [hW1]; simp
  have HX1 := Lib.hid hx1
  have HSZ := Lib.hid hsz
  have HQ2 := Lib.hid q2
  have HP2 := Lib.hid p2
  have HW1 := Lib.hid hW1
  clear hx1 hsz q2 p2 hW1
  go_enter Try.func45, Try.ntmps45
  go_wp2_with fail
  refine CE.out.mono ?_
  rintro x w2 ⟨rfl, m, hw2⟩
  rw [← HW1.out] at hw2
  have hy : Ext W1 w2 := by rw [hw2]; exact (Ext.refl W1).drewN m
  have hx2 := HX1.out.trans hy
  have hS1 := HSZ.out
  have q2 := (hy.cell (show w.heap.size < _ by omega)).trans HQ2.out
  have p2 := (hy.cell (show w.heap.size + 1 < _ by omega)).trans HP2.out
  have Hyx := Lib.hid hy
  clear hw2 hy CE
  go_wp2
  go_loopw [5] (fun i wr => ∃ k : Nat, k ≤ R.length ∧ i = .int .i64 k ∧ Ext w2 wr) (fun i _ => R.length - (intOf i).toNat)
  case atStart => exact ⟨0, Nat.zero_le _, rfl, Ext.refl _⟩
  case round =>
    obtain ⟨k, hk, rfl, hxr⟩ := hrel
    have hx := hx2.trans hxr
    have h2l : W1.heap.size ≤ w2.heap.size := Hyx.out.size
    have q2 := (hxr.cell (show w.heap.size < _ by omega)).trans q2
    have p2 := (hxr.cell (show w.heap.size + 1 < _ by omega)).trans p2
    by_cases hlt : k < R.length
    · obtain ⟨ad, B1, d1, rfl, hb, hce, hle', hcap', hIc⟩ := (H3.out.ext hx).get hlt
      obtain ⟨ad2, B2, d2, rfl, hb2, hce2, hle3', hcap3', hIc2⟩ := (H4.out.ext hx).get hlt
      obtain ⟨n1, hn1⟩ : ∃ n, n = (nthR R k).length := ⟨_, rfl⟩
      rw [← hn1] at hce hle' hIc hce2 hle3' hIc2
      have CE : Hid (∀ n, Calls Try.prog 93 #[.slice B1 n1 d1, .slice B2 n1 d2] (wr.drewN n) fun e w' => e = .returned (.bool true) ∧ ∃ m, w' = (wr.drewN n).drewN m) := fun n => HEq.out (wr.drewN n) _ _ _ (hIc.ext ((Ext.refl wr).drewN n)) (hIc2.ext ((Ext.refl wr).drewN n))
      clear hIc hIc2 hn1
      go_wp2
      go_quiet ((go_at_call 93; exact Calls.quiet_of (CE.out _)))
      go_wp2
      go_roundw
      case rel => exact ⟨k + 1, by omega, by go_num, hxr.drewN _⟩
      case measure => simp [intOf]; omega
    · obtain rfl : k = R.length := by omega
      go_wp2
      go_ret
      exact ⟨rfl, hx⟩

end Go.Proofs.Ytdlhfihddipjaab
