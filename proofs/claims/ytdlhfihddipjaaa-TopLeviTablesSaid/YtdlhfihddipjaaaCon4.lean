/-
  Contracts: slices.ContainsFunc at []uint64; contraction.Check, opposite, Levi, Harper of a fitting table.
-/
import Derived.Test.YtdlhfihddipjaaaCon3
namespace Go.Proofs.Ytdlhfihddipjaaa
open Go.RowKit

section
variable {g : Nat} {c : Value}

set_option maxRecDepth 100000 in
set_option maxHeartbeats 1000000 in
theorem indexFuncS_no (w : World) (v : Value) (p : List Nat) (h : Sets w v p) (hcf : ∀ (a : Array Value) (w : World), (callFunc g a).run Try.prog w = .ok (.enter g a) w) (hQ : ∀ i, i < p.length → Calls Try.prog g #[.int .u64 (nthN p i : Nat), c] w fun e w' => e = .returned (.bool false) ∧ w = w') :
    Calls Try.prog 112 #[v, .func (.func g) #[] #[c]] w fun e w' => e = .returned (.int .i64 (-1)) ∧ w = w' := by
  obtain ⟨A, cc, rfl, hs, hf⟩ := h
  have hle := hs.le
  have hcap := hs.cap
  have HQ := Lib.hid hQ
  clear hQ
  go_enter Try.func112, Try.ntmps112
  go_wp2
  go_loop [8] (fun i => ∃ k : Nat, k ≤ p.length ∧ i = .int .i64 k) (fun i => p.length - (intOf i).toNat)
  case atStart => exact ⟨0, Nat.zero_le _, rfl⟩
  case round =>
    obtain ⟨k, hk, rfl⟩ := hrel
    by_cases hlt : k < p.length
    · obtain ⟨ad, rfl, hb, hc⟩ := hs.get hlt
      go_wp2_with fail
      refine (HQ.out k hlt).mono ?_
      rintro e w1 ⟨rfl, rfl⟩
      go_wp2
      go_round
      case rel => exact ⟨k + 1, by omega, by go_num⟩
      case measure => simp [intOf]; omega
    · go_wp2
      go_ret
      exact ⟨rfl, rfl⟩

set_option maxRecDepth 100000 in
set_option maxHeartbeats 1000000 in
theorem containsFuncS_no (w : World) (v : Value) (p : List Nat) (h : Sets w v p) (hcf : ∀ (a : Array Value) (w : World), (callFunc g a).run Try.prog w = .ok (.enter g a) w) (hQ : ∀ i, i < p.length → Calls Try.prog g #[.int .u64 (nthN p i : Nat), c] w fun e w' => e = .returned (.bool false) ∧ w = w') :
    Calls Try.prog 110 #[v, .func (.func g) #[] #[c]] w fun e w' => e = .returned (.bool false) ∧ w = w' := by
  have C := Lib.hid (indexFuncS_no w v p h hcf hQ)
  clear h hcf hQ
  go_enter Try.func110, Try.ntmps110
  go_wp2_with fail
  refine C.out.mono ?_
  rintro e w1 ⟨rfl, rfl⟩
  go_wp2
  go_ret
  exact ⟨rfl, rfl⟩
end

set_option maxHeartbeats 1000000 in
theorem conClosure (w : World) (g : Nat) (m x : Nat) (hm : m ≤ 4) (hc : w.cell? ⟨g, 0, none⟩ = some (.int .i64 m)) (hx : x < 2 ^ 2 ^ m) :
    Calls Try.prog 111 #[.int .u64 x, .pointer (some ⟨g, 0, none⟩)] w fun e w' => e = .returned (.bool false) ∧ w = w' := by
  have C := Lib.hid (conAll_ok w m hm)
  have ha := u64_andNot x (full (2 ^ m)) (by have := pow64 hm; omega) (full_lt64 (by have := pow_small hm; omega))
  rw [sdiff_full.2 hx] at ha
  obtain ⟨f, hf⟩ : ∃ f, f = full (2 ^ m) := ⟨_, rfl⟩
  rw [← hf] at C ha
  clear hf hx
  go_enter Try.func111, Try.ntmps111
  go_wp2_with fail
  refine C.out.mono ?_
  rintro e w1 ⟨rfl, rfl⟩
  go_wp2
  go_ret
  exact ⟨rfl, rfl⟩

set_option maxRecDepth 100000 in
set_option maxHeartbeats 2000000 in
theorem conCheck_ok (w : World) (v : Value) (m k : Nat) (t : List Nat) (h : Sets w v t) (hm : m ≤ 3) (hl : t.length = 2 ^ 2 ^ m) (ht : ∀ i, i < t.length → nthN t i < 2 ^ 2 ^ m) (hk : k < 2 ^ 2 ^ m) :
    Calls Try.prog 109 #[.int .i64 m, .int .u64 k, v] w fun e w' => e = .returned (.int .i64 0) ∧ Ext w w' := by
  have hmf : ∀ (fn : Fn) (first cap : Array Value) (w : World), (Instr.makeFunc fn first cap).run Try.prog w = .ok (.func fn first cap) w := fun _ _ _ _ => rfl
  have hH : ∀ w1 : World, Ext w w1 → ∀ g, w1.cell? ⟨g, 0, none⟩ = some (.int .i64 m) → Calls Try.prog 110 #[v, .func (.func 111) #[] #[.pointer (some ⟨g, 0, none⟩)]] w1 fun e w' => e = .returned (.bool false) ∧ w1 = w' :=
    fun w1 hx g hc => containsFuncS_no w1 v t (h.ext hx) (fun _ _ => by kernel_rfl) fun i hi => conClosure w1 g m _ (by omega) hc (ht i hi)
  have HH := Lib.hid hH
  have hC : ∀ w1 : World, Calls Try.prog 81 #[.int .i64 m] w1 fun e w' => e = .returned (.int .u64 (full (2 ^ m) : Nat)) ∧ w1 = w' := fun w1 => conAll_ok w1 m (by omega)
  have HC := Lib.hid hC
  have ha := u64_andNot k (full (2 ^ m)) (by have := pow64 (show m ≤ 4 by omega); omega) (full_lt64 (by have := pow_small (show m ≤ 4 by omega); omega))
  rw [sdiff_full.2 hk] at ha
  have hN16 := pow_small (show m ≤ 4 by omega)
  have hM := pow_small3 hm
  have hw1 := u64_wrap_pow m (by omega)
  have hw2 := wrap64_pow (2 ^ m) (by omega)
  have hmin : min (2 ^ m) 64 = 2 ^ m := by omega
  obtain ⟨f, hf⟩ : ∃ f, f = full (2 ^ m) := ⟨_, rfl⟩
  obtain ⟨N, hN⟩ : ∃ N, N = 2 ^ m := ⟨_, rfl⟩
  rw [← hf] at HC ha
  rw [← hN] at hw1 hw2 hmin hl hM hN16
  obtain ⟨M, hMe⟩ : ∃ M, M = 2 ^ N := ⟨_, rfl⟩
  rw [← hMe] at hw2 hl hM
  obtain ⟨A, c, rfl, hs, hfr⟩ := h
  have hle := hs.le
  have hcap := hs.cap
  have t : ((t.length : Int) != (M : Int)) = false := by simp [hl]
  have t3 : decide ((3 : Int) < (m : Int)) = false := by simp; omega
  clear hf hN hMe hk ht hH hC hs hfr hl
  have hx0 := (Ext.refl w).alloc (.cells #[.int .i64 m] 3)
  have hc0 : (w.alloc (.cells #[.int .i64 m] 3)).cell? ⟨w.heap.size, 0, none⟩ = some (.int .i64 m) := cell_of_row _ _ _ _ _ _ (heap_alloc_new w (.cells #[.int .i64 m] 3))
  go_enter Try.func109, Try.ntmps109
  go_wp2_with fail
  refine (HC.out _).mono ?_
  rintro e w1 ⟨rfl, rfl⟩
  go_wp2_with fail
  refine (HH.out _ hx0 _ hc0).mono ?_
  rintro e w1 ⟨rfl, rfl⟩
  go_wp2
  go_ret
  exact ⟨rfl, hx0⟩


section
variable {g : Nat} {cap : Array Value} {Q : Nat → Nat → Nat}
set_option maxRecDepth 100000 in
set_option maxHeartbeats 1000000 in
theorem opposite_any (w : World) (v : Value) (m k : Nat) (t : List Nat) (h : Sets w v t) (hm : m ≤ 3) (hl : t.length = 2 ^ 2 ^ m) (ht : ∀ i, i < t.length → nthN t i < 2 ^ 2 ^ m) (hk : k < 2 ^ 2 ^ m) (hcf : ∀ (a : Array Value) (w : World), (callFunc g a).run Try.prog w = .ok (.enter g a) w) (hQ : ∀ w1 : World, Ext w w1 → ∀ a b, a < 2 ^ 2 ^ m → b < 2 ^ 2 ^ m → Calls Try.prog g (#[.int .u64 (a : Nat), .int .u64 (b : Nat)] ++ cap) w1 fun e w' => e = .returned (.int .u64 (Q a b : Nat)) ∧ w1 = w') (hQlt : ∀ a b, a < 2 ^ 2 ^ m → b < 2 ^ 2 ^ m → Q a b < 2 ^ 2 ^ m) :
    Calls Try.prog 100 #[.int .i64 m, .int .u64 k, v, .func (.func g) #[] cap] w fun e w' => ∃ v', e = .returned (.tuple #[v', .int .i64 0]) ∧ Sets w' v' (tab (2 ^ 2 ^ m) fun a => Q a (nthN t (sdiff (full (2 ^ m)) a))) ∧ Ext w w' := by
  have C1 := Lib.hid (conCheck_ok w v m k t h hm hl ht hk)
  have hC : ∀ w1 : World, Calls Try.prog 81 #[.int .i64 m] w1 fun e w' => e = .returned (.int .u64 (full (2 ^ m) : Nat)) ∧ w1 = w' := fun w1 => conAll_ok w1 m (by omega)
  have HC := Lib.hid hC
  have hM := pow_small3 hm
  have hN16 := pow_small (show m ≤ 4 by omega)
  obtain ⟨i0, hi0, hz0, hz1, hz2⟩ := info_parts Try.infoU64
  have hfs := full_succ (2 ^ m) (by omega)
  have hsd : ∀ x, x < 2 ^ 2 ^ m → bits .andNot .u64 (full (2 ^ m) : Nat) (x : Nat) = (sdiff (full (2 ^ m)) x : Nat) ∧ sdiff (full (2 ^ m)) x < 2 ^ 2 ^ m := fun x hx => ⟨u64_andNot _ x (full_lt64 (by omega)) (by omega), sdiff_lt (full_lt _)⟩
  have HQ := Lib.hid hQ
  have Hcf := Lib.hid hcf
  have Hsd := Lib.hid hsd
  have Ht := Lib.hid ht
  have Hlt := Lib.hid hQlt
  clear hC hQ hsd ht hQlt hcf
  obtain ⟨M, hMe⟩ : ∃ M, M = 2 ^ 2 ^ m := ⟨_, rfl⟩
  obtain ⟨f, hf⟩ : ∃ f, f = full (2 ^ m) := ⟨_, rfl⟩
  rw [← hMe] at hM hfs HQ Hsd Ht Hlt hl ⊢
  rw [← hf] at HC hfs Hsd ⊢
  clear hMe hf hk
  obtain ⟨A, c, rfl, hs, hfr⟩ := h
  have hle := hs.le
  have hcap := hs.cap
  have Hs := Lib.hid hs
  have Hl := Lib.hid hl
  clear hs hfr hl
  go_enter Try.func100, Try.ntmps100
  go_wp2_with fail
  refine C1.out.mono ?_
  rintro e w1 ⟨rfl, hx1⟩
  go_wp2_with fail
  refine (HC.out _).mono ?_
  rintro e w2 ⟨rfl, rfl⟩
  go_wp2
  go_loopw [11, 12, 23] (fun t1 _ v wr => ∃ x : Nat, x ≤ M ∧ v = .int .u64 x ∧ wr.ownsRow w.heap.size 31 1 t1 x ((tab x fun a => Q a (nthN t (sdiff f a))).map fun y : Nat => Value.int .u64 y) ∧ Ext w wr) (fun _ _ v _ => M - (intOf v).toNat)
  case atStart => exact ⟨0, Nat.zero_le _, rfl, World.ownsRow_nil _ _ _ _, hx1⟩
  case round =>
    obtain ⟨x, hx, rfl, hown, hxw⟩ := hrel
    by_cases hlt : x < M
    · obtain ⟨hbt, hd⟩ := Hsd.out x hlt
      obtain ⟨d, hde⟩ : ∃ d, d = sdiff f x := ⟨_, rfl⟩
      rw [← hde] at hbt hd
      have hdl : d < t.length := by rw [Hl.out]; exact hd
      obtain ⟨ad, rfl, hb, hc⟩ := (Hs.out.ext hxw).get hdl
      have hnt := Ht.out d hdl
      have HQ1 := Lib.hid (HQ.out wr hxw x (nthN t d) hlt hnt)
      have hin := u64_wrap_small (x + 1) (by omega)
      have e : ((x + 1 : Nat) : Int) = (x : Int) + 1 := by omega
      rw [e] at hin
      have Hown := Lib.hid hown
      have Hde := Lib.hid hde
      clear hown e hnt hde
      go_wp2_with fail
      refine (HC.out _).mono ?_
      rintro e w2 ⟨rfl, rfl⟩
      have hcf := Hcf.out
      go_wp2_with fail
      refine HQ1.out.mono ?_
      rintro e w2 ⟨rfl, rfl⟩
      clear hcf
      have hown2 := Hown.out
      go_wp2_with (at_builtin; refine wpList_append_own _ rfl (.tmp 26) (.tmp 37) _ rfl w.heap.size 31 i0 (.int .u64 0) 1 8 Try.underlying34 hi0 hz0 hz1 hz2 rfl (by omega) u11 x ((tab x fun a => Q a (nthN t (sdiff f a))).map fun y : Nat => Value.int .u64 y) rfl (hown2.alloc _) ⟨wr.heap.size, 0, none⟩ 1 1 [.int .u64 (Q x (nthN t d) : Nat)] rfl rfl (cell_one_new _ _ _) (by simp [Value.oneCell']) (by unfold maxLen; omega) (by omega) (by have := hxw.size; simp; omega) ?_; intro v2 w3 hown3 hg3 _)
      go_roundw
      case rel =>
        refine ⟨x + 1, by omega, by go_num, ?_, hxw.append hown2 (Nat.le_refl _) hg3⟩
        rw [tab_succ]; rw [← Hde.out]; simpa using hown3
      case measure => simp [intOf]; omega
    · obtain rfl : x = M := by omega
      go_wp2
      go_ret2
      exact ⟨_, rfl, Sets.of_own (xs := tab x fun a => Q a (nthN t (sdiff f a))) hown (by omega) (fun i hi => by
        rw [tab_len] at hi
        rw [tab_nth hi]
        have h1 := Hlt.out i _ hi (Ht.out (sdiff f i) (by rw [Hl.out]; exact (Hsd.out i hi).2))
        omega), hxw⟩
end

end Go.Proofs.Ytdlhfihddipjaaa
