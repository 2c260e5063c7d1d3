/-
  Contracts of the package revision for the doors' seats (made from the texts Rev, Rev2, Con2, Con3, Con4 by wip/tools/mkd.py).
-/
import Derived.Test.YtdlhfihddipjaacDoorGen
import Derived.Test.YtdlhfihddipjaacDoorTg1
namespace Go.Proofs.YtdlhfihddipjaacDoor
open Go.RowKit


set_option maxHeartbeats 1000000 in
theorem revClosure (x : Int) (w : World) : Calls Tryd.prog 68 #[.int .i64 x] w fun e w' => e = .returned (.bool (outOf x)) ∧ w = w' := by
  unfold outOf
  by_cases h0 : x < 0
  · go_enter Tryd.func68, Tryd.ntmps68
    go_wp2
    go_ret
    exact ⟨by simp [h0], rfl⟩
  · by_cases h1 : 1000 < x
    · go_enter Tryd.func68, Tryd.ntmps68
      go_wp2
      go_ret
      exact ⟨by simp, rfl⟩
    · go_enter Tryd.func68, Tryd.ntmps68
      go_wp2
      go_ret
      exact ⟨by simp [h0, h1], rfl⟩

set_option maxRecDepth 100000 in
set_option maxHeartbeats 1000000 in
theorem revCheck_ok (w : World) (v : Value) (m : Nat) (r : List Int) (h : Ints .i64 w v r) (hm : m ≤ 4) (hr : Ranks m r) :
    Calls Tryd.prog 45 #[.int .i64 m, v] w fun e w' => e = .returned (.int .i64 0) ∧ w = w' := by
  have C := Lib.hid (containsFunc_no (Q := outOf) w v r h (fun _ _ => by kernel_rfl) revClosure (fun i hi => by have := hr.2 i hi; unfold outOf; simp; omega))
  obtain ⟨A, c, rfl, hs, hf⟩ := h
  have hle := hs.le
  have hcap := hs.cap
  obtain ⟨N, hN⟩ : ∃ N, N = 2 ^ m := ⟨_, rfl⟩
  have hw := wrap64_pow m (by omega)
  rw [← hN] at hw
  have hl := hr.1
  rw [← hN] at hl
  have t : ((r.length : Int) != (N : Int)) = false := by simp [hl]
  clear hl hN hs hf hr
  go_enter Tryd.func45, Tryd.ntmps45
  go_wp2_with fail
  refine C.out.mono ?_
  rintro e w1 ⟨rfl, rfl⟩
  go_wp2
  go_ret
  exact ⟨rfl, rfl⟩

set_option maxRecDepth 100000 in
set_option maxHeartbeats 1000000 in
theorem revCheck_bad (w : World) (v : Value) (n : Int) (r : List Int) (h : Ints .i64 w v r) (hr : ¬ RevOk n r) :
    Calls Tryd.prog 45 #[.int .i64 n, v] w fun e w' => ∃ c, c ≠ 0 ∧ e = .returned (.int .i64 c) ∧ w = w' := by
  have H := Lib.hid h
  obtain ⟨A, c, rfl, hs, hf⟩ := h
  have hle := hs.le
  have hcap := hs.cap
  clear hs hf
  by_cases h0 : n < 0
  · clear hr
    go_enter Tryd.func45, Tryd.ntmps45
    go_wp2
    go_ret
    exact ⟨2, by omega, rfl, rfl⟩
  · by_cases h4 : 4 < n
    · clear hr
      go_enter Tryd.func45, Tryd.ntmps45
      go_wp2
      go_ret
      exact ⟨2, by omega, rfl, rfl⟩
    · obtain ⟨m, rfl⟩ := Int.eq_ofNat_of_zero_le (show 0 ≤ n by omega)
      have hm : m ≤ 4 := by omega
      obtain ⟨N, hN⟩ : ∃ N, N = 2 ^ m := ⟨_, rfl⟩
      have hw := wrap64_pow m (by omega)
      rw [← hN] at hw
      by_cases hl : r.length = N
      · have t : ((r.length : Int) != (N : Int)) = false := by simp [hl]
        have hyes : ∃ i, i < r.length ∧ outOf (nth r i) = true := by
          apply Classical.byContradiction
          intro hno
          refine hr ⟨m, rfl, hm, by rw [hl, hN], fun i hi => ?_⟩
          have : ¬ outOf (nth r i) = true := fun e => hno ⟨i, hi, e⟩
          unfold outOf at this
          simp at this
          omega
        have C := Lib.hid (containsFunc_yes (Q := outOf) w _ r H.out (fun _ _ => by kernel_rfl) revClosure hyes)
        clear hl hN hr hyes h0 h4
        go_enter Tryd.func45, Tryd.ntmps45
        go_wp2_with fail
        refine C.out.mono ?_
        rintro e w1 ⟨rfl, rfl⟩
        go_wp2
        go_ret
        exact ⟨1, by omega, rfl, rfl⟩
      · have t : ((r.length : Int) != (N : Int)) = true := by rw [bne_iff_ne]; omega
        clear hl hN hr h0 h4
        go_enter Tryd.func45, Tryd.ntmps45
        go_wp2
        go_ret
        exact ⟨3, by omega, rfl, rfl⟩

/-- The members of a set that have the least rank. -/
def bestOf (r : List Int) (s : Nat) : Nat := maskTo (fun v => s.testBit v && (List.range r.length).all fun u => !s.testBit u || decide (nth r v ≤ nth r u)) r.length

theorem bestOf_bit (r : List Int) (s v : Nat) : (bestOf r s).testBit v = true ↔ v < r.length ∧ s.testBit v = true ∧ ∀ u, u < r.length → s.testBit u = true → nth r v ≤ nth r u := by
  unfold bestOf
  rw [maskTo_bit]
  simp only [Bool.and_eq_true, decide_eq_true_eq, List.all_eq_true, List.mem_range, Bool.or_eq_true, Bool.not_eq_true']
  constructor
  · rintro ⟨h1, h2, h3⟩
    exact ⟨h1, h2, fun u hu hs => by
      rcases h3 u hu with h | h
      · rw [hs] at h; cases h
      · exact h⟩
  · rintro ⟨h1, h2, h3⟩
    exact ⟨h1, h2, fun u hu => by
      cases e : s.testBit u with
      | false => exact .inl rfl
      | true => exact .inr (h3 u hu e)⟩

theorem bestOf_lt (r : List Int) (s : Nat) : bestOf r s < 2 ^ r.length := maskTo_lt _ _

theorem bestOf_lt64 (r : List Int) (s : Nat) (h : r.length ≤ 64) : bestOf r s < 18446744073709551616 := maskTo_lt64 _ h

section
variable {r : List Int} {s k out : Nat} {b : Int}

/-- What the loop that collects the best members keeps. -/
structure BestInv (r : List Int) (s k : Nat) (out : Nat) (b : Int) : Prop where
  lt : out < 2 ^ k
  none : out = 0 → b = 0 ∧ ∀ u, u < k → s.testBit u = false
  some_ : out ≠ 0 → ∃ v, v < k ∧ s.testBit v = true ∧ nth r v = b
  least : out ≠ 0 → ∀ u, u < k → s.testBit u = true → b ≤ nth r u
  bit : out ≠ 0 → ∀ v, out.testBit v = true ↔ v < k ∧ s.testBit v = true ∧ nth r v = b

theorem BestInv.start (r : List Int) (s : Nat) : BestInv r s 0 0 0 :=
  ⟨by simp, fun _ => ⟨rfl, fun u hu => absurd hu (by omega)⟩, fun h => absurd rfl h, fun h => absurd rfl h, fun h => absurd rfl h⟩

theorem BestInv.skip (h : BestInv r s k out b) (hs : s.testBit k = false) : BestInv r s (k + 1) out b := by
  refine ⟨Nat.lt_of_lt_of_le h.lt (Nat.pow_le_pow_right (by omega) (by omega)), fun e => ⟨(h.none e).1, fun u hu => ?_⟩, fun e => ?_, fun e u hu hsu => ?_, fun e v => ?_⟩
  · by_cases c : u = k
    · rw [c]; exact hs
    · exact (h.none e).2 u (by omega)
  · obtain ⟨v, h1, h2, h3⟩ := h.some_ e
    exact ⟨v, by omega, h2, h3⟩
  · by_cases c : u = k
    · rw [c, hs] at hsu; cases hsu
    · exact h.least e u (by omega) hsu
  · rw [h.bit e v]
    refine ⟨fun ⟨h1, h2⟩ => ⟨by omega, h2⟩, fun ⟨h1, h2, h3⟩ => ⟨?_, h2, h3⟩⟩
    by_cases c : v = k
    · rw [c, hs] at h2; cases h2
    · omega

theorem BestInv.new (h : BestInv r s k out b) (hs : s.testBit k = true) (hb : out = 0 ∨ nth r k < b) : BestInv r s (k + 1) (2 ^ k) (nth r k) := by
  have hp := Nat.two_pow_pos k
  refine ⟨Nat.pow_lt_pow_right (by omega) (by omega), fun e => by omega, fun _ => ⟨k, by omega, hs, rfl⟩, fun _ u hu hsu => ?_, fun _ v => ?_⟩
  · by_cases c : u = k
    · rw [c]; omega
    · rcases hb with hb | hb
      · have := (h.none hb).2 u (by omega); rw [this] at hsu; cases hsu
      · by_cases e : out = 0
        · have := (h.none e).2 u (by omega); rw [this] at hsu; cases hsu
        · have := h.least e u (by omega) hsu; omega
  · rw [Nat.testBit_two_pow]
    simp only [decide_eq_true_eq]
    constructor
    · rintro rfl; exact ⟨by omega, hs, rfl⟩
    · rintro ⟨h1, h2, h3⟩
      by_cases c : v = k
      · exact c.symm
      · rcases hb with hb | hb
        · have := (h.none hb).2 v (by omega); rw [this] at h2; cases h2
        · by_cases e : out = 0
          · have := (h.none e).2 v (by omega); rw [this] at h2; cases h2
          · have := h.least e v (by omega) h2; omega

theorem BestInv.add (h : BestInv r s k out b) (hs : s.testBit k = true) (ho : out ≠ 0) (hb : nth r k = b) : BestInv r s (k + 1) (out ||| 2 ^ k) b := by
  have hne : out ||| 2 ^ k ≠ 0 := fun e => by
    have : (out ||| 2 ^ k).testBit k = true := by rw [Nat.testBit_or, Nat.testBit_two_pow]; simp
    rw [e, Nat.zero_testBit] at this; cases this
  refine ⟨Nat.or_lt_two_pow (Nat.lt_of_lt_of_le h.lt (Nat.pow_le_pow_right (by omega) (by omega))) (Nat.pow_lt_pow_right (by omega) (by omega)), fun e => absurd e hne, fun _ => ⟨k, by omega, hs, hb⟩, fun _ u hu hsu => ?_, fun _ v => ?_⟩
  · by_cases c : u = k
    · rw [c]; omega
    · exact h.least ho u (by omega) hsu
  · rw [Nat.testBit_or, Bool.or_eq_true, h.bit ho v, Nat.testBit_two_pow]
    simp only [decide_eq_true_eq]
    constructor
    · rintro (⟨h1, h2⟩ | rfl)
      · exact ⟨by omega, h2⟩
      · exact ⟨by omega, hs, hb⟩
    · rintro ⟨h1, h2, h3⟩
      by_cases c : v = k
      · exact .inr c.symm
      · exact .inl ⟨by omega, h2, h3⟩

theorem BestInv.more (h : BestInv r s k out b) (ho : out ≠ 0) (hb : b < nth r k) : BestInv r s (k + 1) out b := by
  refine ⟨Nat.lt_of_lt_of_le h.lt (Nat.pow_le_pow_right (by omega) (by omega)), fun e => absurd e ho, fun e => ?_, fun e u hu hsu => ?_, fun e v => ?_⟩
  · obtain ⟨v, h1, h2, h3⟩ := h.some_ e
    exact ⟨v, by omega, h2, h3⟩
  · by_cases c : u = k
    · rw [c]; omega
    · exact h.least e u (by omega) hsu
  · rw [h.bit e v]
    refine ⟨fun ⟨h1, h2⟩ => ⟨by omega, h2⟩, fun ⟨h1, h2, h3⟩ => ⟨?_, h2, h3⟩⟩
    by_cases c : v = k
    · subst c; omega
    · omega

theorem BestInv.done (h : BestInv r s r.length out b) : out = bestOf r s := by
  refine Nat.eq_of_testBit_eq fun v => ?_
  rw [Bool.eq_iff_iff, bestOf_bit]
  by_cases e : out = 0
  · rw [e, Nat.zero_testBit]
    constructor
    · intro h; cases h
    · rintro ⟨h1, h2, _⟩
      rw [(h.none e).2 v h1] at h2; cases h2
  · rw [h.bit e v]
    obtain ⟨x, x1, x2, x3⟩ := h.some_ e
    constructor
    · rintro ⟨h1, h2, h3⟩
      exact ⟨h1, h2, fun u hu hsu => by rw [h3]; exact h.least e u hu hsu⟩
    · rintro ⟨h1, h2, h3⟩
      refine ⟨h1, h2, ?_⟩
      have a1 := h3 x x1 x2
      have a2 := h.least e v h1 h2
      omega

end

set_option maxRecDepth 100000 in
set_option maxHeartbeats 4000000 in
theorem least_any (w : World) (v : Value) (r : List Int) (s : Nat) (h : Ints .i64 w v r) (hl : r.length ≤ 16) (hs64 : s < 18446744073709551616) :
    Calls Tryd.prog 46 #[v, .int .u64 s] w fun e w' => e = .returned (.int .u64 (bestOf r s : Nat)) ∧ w = w' := by
  obtain ⟨A, c, rfl, hs, hf⟩ := h
  have hle := hs.le
  have hcap := hs.cap
  have Hs64 := Lib.hid hs64
  clear hs64
  go_enter Tryd.func46, Tryd.ntmps46
  go_wp2
  go_loop [5, 6, 11] (fun o b v => ∃ k out : Nat, ∃ bb : Int, k ≤ r.length ∧ v = .int .i64 k ∧ o = .int .u64 out ∧ b = .int .i64 bb ∧ Hid (BestInv r s k out bb)) (fun _ _ v => r.length - (intOf v).toNat)
  case atStart => exact ⟨0, 0, 0, Nat.zero_le _, rfl, rfl, rfl, BestInv.start r s⟩
  case round =>
    obtain ⟨k, out, bb, hk, rfl, rfl, rfl, hinv⟩ := hrel
    by_cases hlt : k < r.length
    · obtain ⟨ad, rfl, hb, hc⟩ := hs.get hlt
      have hbit := u64_bit0 s k Hs64.out
      have hol : out < 18446744073709551616 := Nat.lt_of_lt_of_le hinv.out.lt (Nat.pow_le_pow_right (n := 2) (by omega) (show k ≤ 64 by omega))
      have hor := u64_or_pow out k hol (by omega)
      have hpw := u64_wrap_pow k (show k < 64 by omega)
      obtain ⟨pk, hpk⟩ : ∃ pk : Nat, pk = 2 ^ k := ⟨_, rfl⟩
      obtain ⟨ok, hok⟩ : ∃ ok : Nat, ok = out ||| 2 ^ k := ⟨_, rfl⟩
      rw [← hok, hpw, ← hpk] at hor
      rw [← hpk] at hpw
      have Hpk := Lib.hid hpk
      have Hok := Lib.hid hok
      clear hpk hok hol
      cases hbv : s.testBit k with
      | false =>
        rw [hbv] at hbit
        have hn := Lib.hid (hinv.out.skip hbv)
        clear hbv
        go_wp2
        go_round
        case rel => exact ⟨k + 1, out, bb, by omega, by go_num, rfl, rfl, hn⟩
        case measure => simp [intOf]; omega
      | true =>
        rw [hbv] at hbit
        have Hbv := Lib.hid hbv
        clear hbv
        by_cases h0 : out = 0
        · have hn := Lib.hid (hinv.out.new Hbv.out (.inl h0))
          have t : ((out : Int) == 0) = true := by simp [h0]
          clear h0
          go_wp2
          go_round
          case rel => exact ⟨k + 1, pk, nth r k, by omega, by go_num, rfl, rfl, by rw [Hpk.out]; exact hn⟩
          case measure => simp [intOf]; omega
        · have t : ((out : Int) == 0) = false := by simp [h0]
          by_cases h1 : nth r k < bb
          · have hn := Lib.hid (hinv.out.new Hbv.out (.inr h1))
            clear h0
            go_wp2
            go_round
            case rel => exact ⟨k + 1, pk, nth r k, by omega, by go_num, rfl, rfl, by rw [Hpk.out]; exact hn⟩
            case measure => simp [intOf]; omega
          · by_cases h2 : nth r k = bb
            · have hn := Lib.hid (hinv.out.add Hbv.out h0 h2)
              have t2 : (nth r k == bb) = true := by simp [h2]
              clear h0 h2
              go_wp2
              go_round
              case rel => exact ⟨k + 1, ok, bb, by omega, by go_num, rfl, rfl, by rw [Hok.out]; exact hn⟩
              case measure => simp [intOf]; omega
            · have hn := Lib.hid (hinv.out.more h0 (by omega))
              have t2 : (nth r k == bb) = false := by simp [h2]
              clear h0 h2
              go_wp2
              go_round
              case rel => exact ⟨k + 1, out, bb, by omega, by go_num, rfl, rfl, hn⟩
              case measure => simp [intOf]; omega
    · have hkl : k = r.length := by omega
      have hd := hinv.out
      rw [hkl] at hd
      have hd2 := Lib.hid hd.done
      clear hd hkl
      go_wp2
      go_ret
      exact ⟨by rw [← hd2.out]; rfl, rfl⟩

theorem bestOf_lt2 {m : Nat} {r : List Int} (hr : Ranks m r) (s : Nat) : bestOf r s < 2 ^ 2 ^ m := by have := bestOf_lt r s; rwa [hr.1] at this

theorem pow64 {m : Nat} (hm : m ≤ 4) : 2 ^ 2 ^ m ≤ 18446744073709551616 := by
  have := pow_small hm
  exact Nat.pow_le_pow_right (n := 2) (by omega) (show 2 ^ m ≤ 64 by omega)

/-- The list of the first 'n' values of a function. -/
def tab (n : Nat) (f : Nat → Nat) : List Nat := (List.range n).map f

theorem tab_len (n : Nat) (f : Nat → Nat) : (tab n f).length = n := by simp [tab]

theorem tab_nth {n : Nat} {f : Nat → Nat} {k : Nat} (h : k < n) : nthN (tab n f) k = f k := nthN_ofFn n f k h

theorem tab_succ (n : Nat) (f : Nat → Nat) : tab (n + 1) f = tab n f ++ [f n] := by simp [tab, List.range_succ]

theorem tab_congr {n : Nat} {f g : Nat → Nat} (h : ∀ k, k < n → f k = g k) : tab n f = tab n g := by
  refine ext_nthN (by simp [tab]) fun k hk => ?_
  rw [tab_len] at hk
  rw [tab_nth hk, tab_nth hk, h k hk]

theorem pow_small3 {m : Nat} (h : m ≤ 3) : 2 ^ 2 ^ m ≤ 256 := by
  have h1 : 2 ^ m ≤ 8 := Nat.pow_le_pow_right (n := 2) (by omega) h
  exact Nat.pow_le_pow_right (n := 2) (by omega) h1

theorem u64_wrap_small (n : Nat) (h : n < 18446744073709551616) : IntKind.u64.wrap (n : Int) = (n : Int) := by
  rw [IntKind.wrap_u64]; omega

theorem Tryd.infoU64 : (Tryd.prog.info? 22).map (fun i => (i.zero, i.size, i.bytes)) = some (some (.int .u64 0), 1, 8) := by kernel_rfl

theorem made_row (w : World) (n : Nat) (t : TypeId) (z : Value) : (w.alloc (.cells (madeCells #[z] n) t)).rowIs w.heap.size t n (fun _ => z) := World.rowIs_made w z n t

set_option maxRecDepth 100000 in
set_option maxHeartbeats 4000000 in
theorem revTable_ok (w : World) (v : Value) (m : Nat) (r : List Int) (h : Ints .i64 w v r) (hm : m ≤ 3) (hr : Ranks m r) :
    Calls Tryd.prog 20 #[.int .i64 m, v] w fun e w' => ∃ g, e = .returned (.tuple #[.slice (some ⟨g, 0, none⟩) (2 ^ 2 ^ m) (2 ^ 2 ^ m), .int .i64 0]) ∧ w.heap.size ≤ g ∧ w'.rowIs g 22 (2 ^ 2 ^ m) (fun i => .int .u64 (bestOf r i : Nat)) ∧ Ext w w' := by
  have C1 := Lib.hid (revCheck_ok w v m r h (by omega) hr)
  have H := Lib.hid h
  have hN16 := pow_small (show m ≤ 4 by omega)
  have hM := pow_small3 hm
  obtain ⟨N, hN⟩ : ∃ N, N = 2 ^ m := ⟨_, rfl⟩
  have hw1 := u64_wrap_pow m (by omega)
  rw [← hN] at hw1 hM hN16 ⊢
  obtain ⟨M, hMe⟩ : ∃ M, M = 2 ^ N := ⟨_, rfl⟩
  have hw2 := wrap64_pow N (by omega)
  rw [← hMe] at hw2 hM ⊢
  have hmin : min N 64 = N := by omega
  have hlen : r.length ≤ 16 := by rw [hr.1, ← hN]; exact hN16
  have hmk := run_make_row' (P := Tryd.prog) 25 22 (.int .u64 0) 8 Tryd.underlying25 Tryd.infoU64 rfl .i64 .i64 M (by omega) (by omega)
  clear hN hMe h hr
  have t3 : decide ((3 : Int) < (m : Int)) = false := by simp; omega
  go_enter Tryd.func20, Tryd.ntmps20
  go_wp2_with fail
  refine C1.out.mono ?_
  rintro e w1 ⟨rfl, rfl⟩
  go_wp2
  rw [hw2]
  go_loopw [23] (fun v wr => ∃ k : Nat, k ≤ M ∧ v = .int .i64 k ∧ wr.rowIs w.heap.size 22 M (fun j => .int .u64 ((if j < k then bestOf r j else 0 : Nat) : Int)) ∧ Ext w wr) (fun v _ => M - (intOf v).toNat)
  case atStart => exact ⟨0, Nat.zero_le _, rfl, (made_row w _ _ _).congr (fun i hi => by simp), (Ext.refl w).alloc _⟩
  case round =>
    obtain ⟨k, hk, rfl, hrow, hx⟩ := hrel
    by_cases hlt : k < M
    · have hc := hrow.cell hlt
      rw [if_neg (Nat.lt_irrefl k)] at hc
      have hfz := hrow.frozen k
      have C2 := Lib.hid (least_any wr v r k (H.out.ext hx) hlen (by omega))
      have hcv := u64_wrap_small k (by omega)
      go_wp2_with (go_at_call 46; refine C2.out.mono ?_; rintro e w1 ⟨rfl, rfl⟩)
      go_roundw
      case rel => exact ⟨k + 1, by omega, by go_num, (hrow.set k _).congr (fun j hj => by
        by_cases e : j = k
        · subst e; simp
        · simp only [e, if_false, Nat.lt_succ_iff_lt_or_eq, or_false]), hx.setCell (Nat.le_refl _) _⟩
      case measure => simp [intOf]; omega
    · obtain rfl : k = M := by omega
      go_wp2
      go_ret2
      exact ⟨_, rfl, Nat.le_refl _, hrow.congr fun i hi => by rw [if_pos hi], hx⟩

section
variable {g : Nat} {c : Value}

set_option maxRecDepth 100000 in
set_option maxHeartbeats 1000000 in
theorem indexFuncS_no (w : World) (v : Value) (p : List Nat) (h : Sets w v p) (hcf : ∀ (a : Array Value) (w : World), (callFunc g a).run Tryd.prog w = .ok (.enter g a) w) (hQ : ∀ i, i < p.length → Calls Tryd.prog g #[.int .u64 (nthN p i : Nat), c] w fun e w' => e = .returned (.bool false) ∧ w = w') :
    Calls Tryd.prog 69 #[v, .func (.func g) #[] #[c]] w fun e w' => e = .returned (.int .i64 (-1)) ∧ w = w' := by
  obtain ⟨A, cc, rfl, hs, hf⟩ := h
  have hle := hs.le
  have hcap := hs.cap
  have HQ := Lib.hid hQ
  clear hQ
  go_enter Tryd.func69, Tryd.ntmps69
  go_wp2
  go_loop [8] (fun i => ∃ k : Nat, k ≤ p.length ∧ i = .int .i64 k) (fun i => p.length - (intOf i).toNat)
  case atStart => exact ⟨0, Nat.zero_le _, rfl⟩
  case round =>
    obtain ⟨k, hk, rfl⟩ := hrel
    by_cases hlt : k < p.length
    · obtain ⟨ad, rfl, hb, hc⟩ := hs.get hlt
      go_wp2_with fail
      refine (HQ.out k hlt).mono ?_
      rintro e w1 ⟨rfl, rfl⟩
      go_wp2
      go_round
      case rel => exact ⟨k + 1, by omega, by go_num⟩
      case measure => simp [intOf]; omega
    · go_wp2
      go_ret
      exact ⟨rfl, rfl⟩

set_option maxRecDepth 100000 in
set_option maxHeartbeats 1000000 in
theorem containsFuncS_no (w : World) (v : Value) (p : List Nat) (h : Sets w v p) (hcf : ∀ (a : Array Value) (w : World), (callFunc g a).run Tryd.prog w = .ok (.enter g a) w) (hQ : ∀ i, i < p.length → Calls Tryd.prog g #[.int .u64 (nthN p i : Nat), c] w fun e w' => e = .returned (.bool false) ∧ w = w') :
    Calls Tryd.prog 47 #[v, .func (.func g) #[] #[c]] w fun e w' => e = .returned (.bool false) ∧ w = w' := by
  have C := Lib.hid (indexFuncS_no w v p h hcf hQ)
  clear h hcf hQ
  go_enter Tryd.func47, Tryd.ntmps47
  go_wp2_with fail
  refine C.out.mono ?_
  rintro e w1 ⟨rfl, rfl⟩
  go_wp2
  go_ret
  exact ⟨rfl, rfl⟩

end

end Go.Proofs.YtdlhfihddipjaacDoor
