/-
  The agreement texts: equality of slices of integers, of slices of slices, of priors.
-/
import Derived.Test.YtdlhfihddipjaabAgD
namespace Go.Proofs.Ytdlhfihddipjaab
open Go.RowKit

set_option maxRecDepth 100000 in
set_option maxHeartbeats 2000000 in
theorem same03_quiet (w : World) (v v2 : Value) (a b : List Int) (h : Ints .i64 w v a) (h2 : Ints .i64 w v2 b) :
    Calls Try.prog 78 #[v, v2] w fun e w' => e = .returned (.bool (decide (a = b))) ∧ ∃ m, w' = w.drewN m := by
  obtain ⟨A, c, rfl, hs, hf⟩ := h
  have hle := hs.le
  have hcap := hs.cap
  obtain ⟨A2, c2, rfl, hs2, hf2⟩ := h2
  have hle2 := hs2.le
  have hcap2 := hs2.cap
  obtain ⟨z, hz⟩ : ∃ z, z = decide (a = b) := ⟨_, rfl⟩
  rw [← hz]
  have Hz := Lib.hid hz
  clear hz hf hf2
  by_cases hl : a.length = b.length
  · have t : ((a.length : Int) != (b.length : Int)) = false := by simp [hl]
    go_enter Try.func78, Try.ntmps78
    go_wp2
    go_loopw [13] (fun i wr => ∃ k : Nat, k ≤ a.length ∧ i = .int .i64 k ∧ Hid (∀ j, j < k → nth a j = nth b j) ∧ ∃ m, wr = w.drewN m) (fun i _ => a.length - (intOf i).toNat)
    case atStart => exact ⟨0, Nat.zero_le _, rfl, fun j hj => absurd hj (by omega), 0, rfl⟩
    case round =>
      obtain ⟨k, hk, rfl, hgo, m, hwr⟩ := hrel
      have hx : Ext w wr := by rw [hwr]; exact (Ext.refl w).drewN m
      have HWr := Lib.hid hwr
      clear hwr
      by_cases hlt : k < a.length
      · obtain ⟨ad, rfl, hb, hc⟩ := (hs.ext hx).get hlt
        obtain ⟨ad2, rfl, hb2, hc2⟩ := (hs2.ext hx).get (show k < b.length by omega)
        have hk2 : (k : Int) < b.length := by omega
        by_cases e : nth a k = nth b k
        · have t2 : (nth a k != nth b k) = false := by simp [e]
          have He := Lib.hid e
          clear e
          go_wp2
          go_quiet (fail)
          go_wp2
          go_roundw
          case rel => exact ⟨k + 1, by omega, by go_num, fun j hj => by
            by_cases e : j = k
            · rw [e]; exact He.out
            · exact hgo.out j (by omega), m + nq, by rw [HWr.out, World.drewN_drewN]⟩
          case measure => simp [intOf]; omega
        · have t2 : (nth a k != nth b k) = true := by rw [bne_iff_ne]; exact e
          have He := Lib.hid e
          clear e
          go_wp2
          go_quiet (fail)
          go_wp2
          go_ret
          exact ⟨by rw [Hz.out, decide_eq_false (fun k => He.out (by rw [k]))]; rfl, m + nq, by rw [HWr.out, World.drewN_drewN]⟩
      · obtain rfl : k = a.length := by omega
        go_wp2
        go_ret
        exact ⟨by rw [Hz.out, decide_eq_true (ext_nth hl hgo.out)]; rfl, m, HWr.out⟩
  · have t : ((a.length : Int) != (b.length : Int)) = true := by rw [bne_iff_ne]; omega
    have Hl := Lib.hid hl
    clear hl
    go_enter Try.func78, Try.ntmps78
    go_wp2
    go_ret
    exact ⟨by rw [Hz.out, decide_eq_false (fun k => Hl.out (by rw [k]))]; rfl, 0, rfl⟩


theorem same03_any (w : World) (v v2 : Value) (a b : List Int) (h : Ints .i64 w v a) (h2 : Ints .i64 w v2 b) :
    Calls Try.prog 78 #[v, v2] w fun e w' => e = .returned (.bool (decide (a = b))) ∧ Ext w w' :=
  (same03_quiet w v v2 a b h h2).mono fun _ _ ⟨he, m, hm⟩ => ⟨he, by rw [hm]; exact (Ext.refl w).drewN m⟩

set_option maxRecDepth 100000 in
set_option maxHeartbeats 2000000 in
theorem eqInts_any (w : World) (v v2 : Value) (a b : List Int) (h : Ints .i64 w v a) (h2 : Ints .i64 w v2 b) :
    Calls Try.prog 75 #[v, v2] w fun e w' => e = .returned (.bool (decide (a = b))) ∧ Ext w w' := by
  obtain ⟨A, c, rfl, hs, hf⟩ := h
  have hle := hs.le
  have hcap := hs.cap
  obtain ⟨A2, c2, rfl, hs2, hf2⟩ := h2
  have hle2 := hs2.le
  have hcap2 := hs2.cap
  obtain ⟨z, hz⟩ : ∃ z, z = decide (a = b) := ⟨_, rfl⟩
  rw [← hz]
  have Hz := Lib.hid hz
  clear hz hf hf2
  by_cases hl : a.length = b.length
  · have t : ((a.length : Int) != (b.length : Int)) = false := by simp [hl]
    go_enter Try.func75, Try.ntmps75
    go_wp2
    go_loopw [13] (fun i wr => ∃ k : Nat, k ≤ a.length ∧ i = .int .i64 k ∧ Hid (∀ j, j < k → nth a j = nth b j) ∧ Ext w wr) (fun i _ => a.length - (intOf i).toNat)
    case atStart => exact ⟨0, Nat.zero_le _, rfl, fun j hj => absurd hj (by omega), Ext.refl w⟩
    case round =>
      obtain ⟨k, hk, rfl, hgo, hx⟩ := hrel
      by_cases hlt : k < a.length
      · obtain ⟨ad, rfl, hb, hc⟩ := (hs.ext hx).get hlt
        obtain ⟨ad2, rfl, hb2, hc2⟩ := (hs2.ext hx).get (show k < b.length by omega)
        have hk2 : (k : Int) < b.length := by omega
        by_cases e : nth a k = nth b k
        · have t2 : (nth a k != nth b k) = false := by simp [e]
          have He := Lib.hid e
          clear e
          go_wp2
          go_quiet (fail)
          go_wp2
          go_roundw
          case rel => exact ⟨k + 1, by omega, by go_num, fun j hj => by
            by_cases e : j = k
            · rw [e]; exact He.out
            · exact hgo.out j (by omega), hx.drewN _⟩
          case measure => simp [intOf]; omega
        · have t2 : (nth a k != nth b k) = true := by rw [bne_iff_ne]; exact e
          have He := Lib.hid e
          clear e
          go_wp2
          go_quiet (fail)
          go_wp2
          go_ret
          exact ⟨by rw [Hz.out, decide_eq_false (fun k => He.out (by rw [k]))]; rfl, hx.drewN _⟩
      · obtain rfl : k = a.length := by omega
        go_wp2
        go_ret
        exact ⟨by rw [Hz.out, decide_eq_true (ext_nth hl hgo.out)]; rfl, hx⟩
  · have t : ((a.length : Int) != (b.length : Int)) = true := by rw [bne_iff_ne]; omega
    have Hl := Lib.hid hl
    clear hl
    go_enter Try.func75, Try.ntmps75
    go_wp2
    go_ret
    exact ⟨by rw [Hz.out, decide_eq_false (fun k => Hl.out (by rw [k]))]; rfl, Ext.refl w⟩


set_option maxRecDepth 100000 in
set_option maxHeartbeats 2000000 in
theorem eqFunc_any (w : World) (v v2 : Value) (a b : List (List Int)) (h : Rows w v a) (h2 : Rows w v2 b) :
    Calls Try.prog 74 #[v, v2, .func (.func 75) #[] #[]] w fun e w' => e = .returned (.bool (decide (a = b))) ∧ Ext w w' := by
  have HEq : Hid (∀ w1 v v2 a b, Ints .i64 w1 v a → Ints .i64 w1 v2 b → Calls Try.prog 75 #[v, v2] w1 fun e w' => e = .returned (.bool (decide (a = b))) ∧ Ext w1 w') := eqInts_any
  have H := Lib.hid h
  have H2 := Lib.hid h2
  obtain ⟨A, c, vs, rfl, hs, _⟩ := h
  have hle := hs.le
  have hcap := hs.cap
  obtain ⟨A2, c2, vs2, rfl, hs2, _⟩ := h2
  have hle2 := hs2.le
  have hcap2 := hs2.cap
  clear hs hs2
  obtain ⟨z, hz⟩ : ∃ z, z = decide (a = b) := ⟨_, rfl⟩
  rw [← hz]
  have Hz := Lib.hid hz
  clear hz
  by_cases hl : a.length = b.length
  · have t : ((a.length : Int) != (b.length : Int)) = false := by simp [hl]
    have Hl := Lib.hid hl
    clear hl
    go_enter Try.func74, Try.ntmps74
    go_wp2
    go_loopw [17] (fun i wr => ∃ k : Nat, k ≤ a.length ∧ i = .int .i64 k ∧ Hid (∀ j, j < k → nthL a j = nthL b j) ∧ Ext w wr) (fun i _ => a.length - (intOf i).toNat)
    case atStart => exact ⟨0, Nat.zero_le _, rfl, fun j hj => absurd hj (by omega), Ext.refl w⟩
    case round =>
      obtain ⟨k, hk, rfl, hgo, hx⟩ := hrel
      by_cases hlt : k < a.length
      · have hlb : k < b.length := by have := Hl.out; omega
        obtain ⟨ad, A', c', rfl, hb, hce, hle', hcap', hIc⟩ := (H.out.ext hx).get hlt
        obtain ⟨ad2, A2', c2', rfl, hb2, hce2, hle2', hcap2', hIc2⟩ := (H2.out.ext hx).get hlb
        have CE := Lib.hid (HEq.out wr _ _ _ _ hIc hIc2)
        obtain ⟨y, hy⟩ : ∃ y, y = decide (nthL a k = nthL b k) := ⟨_, rfl⟩
        rw [← hy] at CE
        have Hy := Lib.hid hy
        clear hy hIc hIc2
        go_wp2_with fail
        refine CE.out.mono ?_
        rintro x w3 ⟨rfl, hy3⟩
        have hx3 := hx.trans hy3
        clear CE
        cases y with
        | true =>
          have he : Hid (nthL a k = nthL b k) := by show nthL a k = nthL b k; exact of_decide_eq_true Hy.out.symm
          go_wp2
          go_roundw
          case rel => exact ⟨k + 1, by omega, by go_num, fun j hj => by
            by_cases e : j = k
            · rw [e]; exact he.out
            · exact hgo.out j (by omega), hx3⟩
          case measure => simp [intOf]; omega
        | false =>
          have he : Hid (nthL a k ≠ nthL b k) := by show nthL a k ≠ nthL b k; exact of_decide_eq_false Hy.out.symm
          go_wp2
          go_ret
          exact ⟨by rw [Hz.out, decide_eq_false (fun k => he.out (by rw [k]))]; rfl, hx3⟩
      · obtain rfl : k = a.length := by omega
        go_wp2
        go_ret
        exact ⟨by rw [Hz.out, decide_eq_true (ext_nthL Hl.out hgo.out)]; rfl, hx⟩
  · have t : ((a.length : Int) != (b.length : Int)) = true := by rw [bne_iff_ne]; omega
    have Hl := Lib.hid hl
    clear hl
    go_enter Try.func74, Try.ntmps74
    go_wp2
    go_ret
    exact ⟨by rw [Hz.out, decide_eq_false (fun k => Hl.out (by rw [k]))]; rfl, Ext.refl w⟩

set_option maxRecDepth 100000 in
set_option maxHeartbeats 4000000 in
theorem same24_any (w : World) (u1 u2 v1 v2 : Value) (V W : List Int) (D C : List (List Int)) (h : Prior w u1 u2 V D) (h2 : Prior w v1 v2 W C) :
    Calls Try.prog 29 #[.agg #[u1, u2], .agg #[v1, v2]] w fun e w' => e = .returned (.bool (decide (V = W ∧ D = C))) ∧ Ext w w' := by
  have HEq : Hid (∀ w1 v v2 a b, Ints .i64 w1 v a → Ints .i64 w1 v2 b → Calls Try.prog 78 #[v, v2] w1 fun e w' => e = .returned (.bool (decide (a = b))) ∧ ∃ m, w' = w1.drewN m) := same03_quiet
  obtain ⟨h1, h3⟩ := h
  obtain ⟨h2, h4⟩ := h2
  have H1 := Lib.hid h1
  have H2 := Lib.hid h2
  have H3 := Lib.hid h3
  have H4 := Lib.hid h4
  obtain ⟨A, c, rfl, hs, _⟩ := h1
  obtain ⟨A', c', rfl, hs', _⟩ := h2
  obtain ⟨A2, c2, vs, rfl, hs2, _⟩ := h3
  have hle2 := hs2.le
  have hcap2 := hs2.cap
  obtain ⟨A2', c2', vs', rfl, hs2', _⟩ := h4
  have hle2' := hs2'.le
  have hcap2' := hs2'.cap
  clear hs hs' hs2 hs2'
  obtain ⟨q0, q1⟩ := cellsP w (.slice A V.length c) (.slice A2 D.length c2) 45
  obtain ⟨p0, p1⟩ := cellsP (w.alloc (.cells #[.slice A V.length c, .slice A2 D.length c2] 45)) (.slice A' W.length c') (.slice A2' C.length c2') 45
  have q0 := (((Ext.refl _).alloc (.cells #[.slice A' W.length c', .slice A2' C.length c2'] 45)).cell (by simp)).trans q0
  have q1 := (((Ext.refl _).alloc (.cells #[.slice A' W.length c', .slice A2' C.length c2'] 45)).cell (by simp)).trans q1
  obtain ⟨W1, hW1⟩ : ∃ W1, W1 = (w.alloc (.cells #[.slice A V.length c, .slice A2 D.length c2] 45)).alloc (.cells #[.slice A' W.length c', .slice A2' C.length c2'] 45) := ⟨_, rfl⟩
  have hx1 : Ext w W1 := by rw [hW1]; exact ((Ext.refl w).alloc _).alloc _
  have CE := HEq.out W1 _ _ _ _ (H1.out.ext hx1) (H2.out.ext hx1)
  obtain ⟨y, hy⟩ : ∃ y, y = decide (V = W) := ⟨_, rfl⟩
  rw [← hy] at CE
  have Hy := Lib.hid hy
  have CE := Lib.hid CE
  clear hy
  rw [← hW1] at q0 q1 p0 p1
  have q1' := q1
  have p1' := p1
  rw [show (w.alloc (.cells #[.slice A V.length c, .slice A2 D.length c2] 45)).heap.size = w.heap.size + 1 from by simp] at p0 p1 p1'
  have hsz : W1.heap.size = w.heap.size + 2 := by rw [hW1]; simp
  have HX1 := Lib.hid hx1
  have HSZ := Lib.hid hsz
  have HQ1 := Lib.hid q1
  have HP1 := Lib.hid p1
  obtain ⟨z, hz⟩ : ∃ z, z = decide (V = W ∧ D = C) := ⟨_, rfl⟩
  rw [← hz]
  have Hz := Lib.hid hz
  rw [hW1] at CE
  have HW1 := Lib.hid hW1
  clear hz hx1 hsz q0 q1 q1' p0 p1 p1' hW1
  go_enter Try.func29, Try.ntmps29
  go_wp2_with fail
  refine CE.out.mono ?_
  rintro x w2 ⟨rfl, m, hw2⟩
  rw [← HW1.out] at hw2
  have hy : Ext W1 w2 := by rw [hw2]; exact (Ext.refl W1).drewN m
  have hx2 := HX1.out.trans hy
  have hS1 := HSZ.out
  have q1 := (hy.cell (show w.heap.size < _ by omega)).trans HQ1.out
  have p1 := (hy.cell (show w.heap.size + 1 < _ by omega)).trans HP1.out
  clear hw2
  have Hyx := Lib.hid hy
  clear hy
  cases y with
  | false =>
    have he : Hid (V ≠ W) := by show V ≠ W; exact of_decide_eq_false Hy.out.symm
    go_wp2
    go_ret
    exact ⟨by rw [Hz.out, decide_eq_false (fun k => he.out k.1)]; rfl, hx2⟩
  | true =>
    have he : Hid (V = W) := by show V = W; exact of_decide_eq_true Hy.out.symm
    by_cases hl : D.length = C.length
    · have t : ((D.length : Int) != (C.length : Int)) = false := by simp [hl]
      have Hl := Lib.hid hl
      clear hl
      go_wp2
      go_loopw [5] (fun i wr => ∃ k : Nat, k ≤ D.length ∧ i = .int .i64 k ∧ Hid (∀ j, j < k → nthL D j = nthL C j) ∧ Ext w2 wr) (fun i _ => D.length - (intOf i).toNat)
      case atStart => exact ⟨0, Nat.zero_le _, rfl, fun j hj => absurd hj (by omega), Ext.refl _⟩
      case round =>
        obtain ⟨k, hk, rfl, hgo, hxr⟩ := hrel
        have hx := hx2.trans hxr
        have h2l : W1.heap.size ≤ w2.heap.size := Hyx.out.size
        have q1 := (hxr.cell (show w.heap.size < _ by omega)).trans q1
        have p1 := (hxr.cell (show w.heap.size + 1 < _ by omega)).trans p1
        by_cases hlt : k < D.length
        · have hlb : k < C.length := by have := Hl.out; omega
          obtain ⟨ad, B1, d1, rfl, hb, hce, hle', hcap', hIc⟩ := (H3.out.ext hx).get hlt
          obtain ⟨ad2, B2, d2, rfl, hb2, hce2, hle3', hcap3', hIc2⟩ := (H4.out.ext hx).get hlb
          obtain ⟨n1, hn1⟩ : ∃ n, n = (nthL D k).length := ⟨_, rfl⟩
          obtain ⟨n2, hn2⟩ : ∃ n, n = (nthL C k).length := ⟨_, rfl⟩
          rw [← hn1] at hce hle' hIc
          rw [← hn2] at hce2 hle3' hIc2
          have hkc : (k : Int) < C.length := by omega
          obtain ⟨y, hy⟩ : ∃ y, y = decide (nthL D k = nthL C k) := ⟨_, rfl⟩
          have CE : Hid (∀ n, Calls Try.prog 78 #[.slice B1 n1 d1, .slice B2 n2 d2] (wr.drewN n) fun e w' => e = .returned (.bool y) ∧ ∃ m, w' = (wr.drewN n).drewN m) := fun n => by
            have := HEq.out (wr.drewN n) _ _ _ _ (hIc.ext ((Ext.refl wr).drewN n)) (hIc2.ext ((Ext.refl wr).drewN n))
            rw [← hy] at this
            exact this
          have Hy := Lib.hid hy
          clear hy hIc hIc2 hn1 hn2
          cases y with
          | true =>
            have he : Hid (nthL D k = nthL C k) := by show nthL D k = nthL C k; exact of_decide_eq_true Hy.out.symm
            go_wp2
            go_quiet ((go_at_call 78; exact Calls.quiet_of (CE.out _)))
            go_wp2
            go_roundw
            case rel => exact ⟨k + 1, by omega, by go_num, fun j hj => by
              by_cases e : j = k
              · rw [e]; exact he.out
              · exact hgo.out j (by omega), hxr.drewN _⟩
            case measure => simp [intOf]; omega
          | false =>
            have he2 : Hid (nthL D k ≠ nthL C k) := by show nthL D k ≠ nthL C k; exact of_decide_eq_false Hy.out.symm
            go_wp2
            go_quiet ((go_at_call 78; exact Calls.quiet_of (CE.out _)))
            go_wp2
            go_ret
            exact ⟨by rw [Hz.out, decide_eq_false (fun k => he2.out (by rw [k.2]))]; rfl, hx.drewN _⟩
        · obtain rfl : k = D.length := by omega
          go_wp2
          go_ret
          exact ⟨by rw [Hz.out, decide_eq_true ⟨he.out, ext_nthL Hl.out hgo.out⟩]; rfl, hx⟩
    · have t : ((D.length : Int) != (C.length : Int)) = true := by rw [bne_iff_ne]; omega
      have Hl := Lib.hid hl
      clear hl
      go_wp2
      go_ret
      exact ⟨by rw [Hz.out, decide_eq_false (fun k => Hl.out (by rw [k.2]))]; rfl, hx2⟩

end Go.Proofs.Ytdlhfihddipjaab
