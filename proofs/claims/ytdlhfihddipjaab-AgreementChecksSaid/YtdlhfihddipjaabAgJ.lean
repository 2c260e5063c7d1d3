/-
  The agreement texts: Join of the reference.
-/
import Derived.Test.YtdlhfihddipjaabAg1
import Derived.Test.YtdlhfihddipjaabPlain3c
import Derived.BigQuiet
import Derived.Test.YtdlhfihddipjaabAg6
namespace Go.Proofs.Ytdlhfihddipjaab
open Go.RowKit

/-! ### plain -/
def nsum (f : Nat → Nat) : Nat → Nat
  | 0 => 0
  | k + 1 => nsum f k + f k
theorem nsum_congr {f g : Nat → Nat} {n : Nat} (h : ∀ i, i < n → f i = g i) : nsum f n = nsum g n := by
  induction n with
  | zero => rfl
  | succ n ih => show nsum f n + f n = nsum g n + g n; rw [ih fun i hi => h i (by omega), h n (by omega)]
def setN (P : Nat → Nat) (j x : Nat) : Nat → Nat := fun k => if k = j then x else P k
theorem nsum_set {P : Nat → Nat} {n j x : Nat} (hj : j < n) (hx : x < P j) : nsum (setN P j x) n < nsum P n := by
  induction n with
  | zero => omega
  | succ n ih =>
    show nsum (setN P j x) n + setN P j x n < nsum P n + P n
    by_cases e : j = n
    · subst e
      rw [nsum_congr (f := setN P j x) (g := P) fun i hi => by unfold setN; rw [if_neg (by omega)]]
      unfold setN; rw [if_pos rfl]; omega
    · have := ih (by omega)
      rw [show setN P j x n = P n from by unfold setN; rw [if_neg (fun q => e q.symm)]]
      omega
def rel2 (a b : List Int) (i j : Nat) : Bool := nth a i == nth a j || nth b i == nth b j
theorem rel2_symm {a b : List Int} {i j : Nat} (h : rel2 a b i j = true) : rel2 a b j i = true := by
  unfold rel2 at h ⊢
  rw [Bool.or_eq_true, beq_iff_eq, beq_iff_eq] at h ⊢
  rcases h with h | h
  · exact .inl h.symm
  · exact .inr h.symm
def Compat (n : Nat) (a b : List Int) (f : Nat → Nat) : Prop := ∀ i j, i < n → j < n → rel2 a b i j = true → f i = f j
def RJ (n : Nat) (a b : List Int) (P : Nat → Nat) : Prop := ∀ i, i < n → P i ≤ i ∧ ∀ f, Compat n a b f → f (P i) = f i
theorem RJ.start {n : Nat} {a b : List Int} (ha : Prt n a) : RJ n a b fun i => (nth a i).toNat := fun i hi => by
  obtain ⟨g0, g1, g2⟩ := ha.2 i (by rw [ha.1]; exact hi)
  refine ⟨by show (nth a i).toNat ≤ i; omega, fun f hf => hf _ _ (ha.low hi) hi ?_⟩
  unfold rel2
  rw [g2]; simp
theorem RJ.step {n : Nat} {a b : List Int} {P : Nat → Nat} (h : RJ n a b P) {i j : Nat} (hi : i < n) (hj : j < n) (hr : rel2 a b i j = true) (hlt : P i < P j) : RJ n a b (setN P j (P i)) := fun k hk => by
  unfold setN
  by_cases e : k = j
  · rw [if_pos e, e]
    exact ⟨by have := (h j hj).1; omega, fun f hf => ((h i hi).2 f hf).trans (hf i j hi hj hr)⟩
  · rw [if_neg e]; exact h k hk
def Stb (n : Nat) (a b : List Int) (P : Nat → Nat) (m : Nat) : Prop := ∀ i, i < m → ∀ j, j < n → rel2 a b i j = true → ¬ P i < P j
theorem RJ.done {n : Nat} {a b : List Int} {P : Nat → Nat} (h : RJ n a b P) (hs : Stb n a b P n) (ha : Prt n a) (hb : Prt n b) : IsJoin n a b (upTo n fun i => (P i : Int)) := by
  have hc : Compat n a b P := fun i j hi hj hr => by
    have h1 := hs i hi j hj hr
    have h2 := hs j hj i hi (rel2_symm hr)
    omega
  have hn : ∀ i, i < n → nth (upTo n fun i => (P i : Int)) i = (P i : Int) := fun i hi => upTo_nth hi
  have hp : Prt n (upTo n fun i => (P i : Int)) := ⟨upTo_len _ _, fun i hi => by
    rw [upTo_len] at hi
    have h1 := (h i hi).1
    unfold pGood
    rw [hn i hi]
    refine ⟨by omega, by omega, ?_⟩
    rw [Int.toNat_natCast, hn _ (by omega), (h i hi).2 P hc]⟩
  have up : ∀ c, Prt n c → (∀ i j, i < n → j < n → nth c i = nth c j → rel2 a b i j = true) → Refines c (upTo n fun i => (P i : Int)) := fun c hcp hrel => (refines_iff hcp).2 fun i j hi hj q => by
    rw [hn i hi, hn j hj, hc i j hi hj (hrel i j hi hj q)]
  refine ⟨hp, up a ha fun i j _ _ q => by unfold rel2; rw [q]; simp, up b hb fun i j _ _ q => by unfold rel2; rw [q]; simp, fun r hr h1 h2 => ?_⟩
  intro i hi
  rw [upTo_len] at hi
  rw [hn i hi, Int.toNat_natCast]
  have hf : Compat n a b fun i => (nth r i).toNat := fun i j hi hj hrel => by
    unfold rel2 at hrel
    rw [Bool.or_eq_true, beq_iff_eq, beq_iff_eq] at hrel
    show (nth r i).toNat = (nth r j).toNat
    rcases hrel with q | q
    · rw [(refines_iff ha).1 h1 i j hi hj q]
    · rw [(refines_iff hb).1 h2 i j hi hj q]
  have h3 : (nth r (P i)).toNat = (nth r i).toNat := (h i hi).2 _ hf
  have h4 := (hr.2 i (by rw [hr.1]; exact hi)).1
  have h5 := (hr.2 (P i) (by rw [hr.1]; have := (h i hi).1; omega)).1
  omega

/-! ### memory -/
def cellN (w : World) (a : Addr) : Nat := ((w.cell? a).map fun v => (intOf v).toNat).getD 0
theorem cellN_of {w : World} {a : Addr} {k : IntKind} {m : Nat} (h : w.cell? a = some (.int k m)) : cellN w a = m := by
  unfold cellN
  rw [h]; simp [intOf]
def JR (w : World) (g cap n : Nat) (P : Nat → Nat) : Prop := ∃ F, w.rowIs g 3 cap F ∧ ∀ i, i < n → F i = .int .i64 (P i : Nat)
theorem JR.cell {w : World} {g cap n : Nat} {P : Nat → Nat} (h : JR w g cap n P) (hn : n ≤ cap) {i : Nat} (hi : i < n) : w.cell? ⟨g, i, none⟩ = some (.int .i64 (P i : Nat)) := by
  obtain ⟨F, h1, h2⟩ := h
  rw [h1.cell (by omega), h2 i hi]
theorem JR.frozen {w : World} {g cap n : Nat} {P : Nat → Nat} (h : JR w g cap n P) (i : Nat) : w.frozen? ⟨g, i, none⟩ = false := by
  obtain ⟨F, h1, h2⟩ := h
  exact h1.frozen i
theorem JR.lt {w : World} {g cap n : Nat} {P : Nat → Nat} (h : JR w g cap n P) : g < w.heap.size := by
  obtain ⟨F, h1, h2⟩ := h
  exact h1.lt
theorem JR.ext {w w1 : World} {g cap n : Nat} {P : Nat → Nat} (h : JR w g cap n P) (k : Ext w w1) : JR w1 g cap n P := by
  obtain ⟨F, h1, h2⟩ := h
  exact ⟨F, h1.of_block (k.block g h1.lt), h2⟩
theorem JR.set {w : World} {g cap n : Nat} {P : Nat → Nat} (h : JR w g cap n P) (j x : Nat) : JR (w.setCell ⟨g, j, none⟩ (.int .i64 (x : Nat))) g cap n (setN P j x) := by
  obtain ⟨F, h1, h2⟩ := h
  refine ⟨_, h1.set j _, fun i hi => ?_⟩
  unfold setN
  by_cases e : i = j
  · subst e; simp
  · simp [e, h2 i hi]
def JM (w : World) (g n : Nat) : Nat := nsum (fun i => cellN w ⟨g, i, none⟩) n
theorem JR.jm {w : World} {g cap n : Nat} {P : Nat → Nat} (h : JR w g cap n P) (hn : n ≤ cap) : JM w g n = nsum P n := nsum_congr fun i hi => cellN_of (h.cell hn hi)
theorem JR.ints {w : World} {g cap n : Nat} {P : Nat → Nat} (h : JR w g cap n P) (hn : n ≤ cap) (hc : cap ≤ 9223372036854775807) (hP : ∀ i, i < n → P i ≤ 1000000) : Ints .i64 w (.slice (some ⟨g, 0, none⟩) n cap) (upTo n fun i => (P i : Int)) := by
  obtain ⟨F, h1, h2⟩ := h
  refine ⟨_, cap, by rw [upTo_len], ?_, fun i hi => ?_⟩
  · rw [upTo_len]
    refine SlcAt.of_row_at h1 hn hc fun i hi => ?_
    rw [h2 i hi, upTo_nth hi]
  · rw [upTo_len] at hi
    have := hP i hi
    rw [upTo_nth hi]; exact fits_small (by omega) (by omega)
def boolN : Value → Nat
  | .bool true => 1
  | _ => 0

set_option maxHeartbeats 1000000 in
theorem rpair_ok (w : World) (v1 v2 : Value) (a b : List Int) (h : Ints .i64 w v1 a) (h' : Ints .i64 w v2 b) (hl : a.length = b.length) (h64 : a.length ≤ 64) (ha : pOk a) (hb : pOk b) :
    Calls Try.prog 113 #[v1, v2] w fun e w' => e = .returned (.int .i64 0) ∧ w = w' := by
  have C1 := Lib.hid (rcheck_ok w v1 a h h64 ha)
  have C2 := Lib.hid (rcheck_ok w v2 b h' (by omega) hb)
  obtain ⟨A, c, rfl, hs, hf⟩ := h
  have hle := hs.le
  have hcap := hs.cap
  obtain ⟨A', c', rfl, hs', hf'⟩ := h'
  have hle' := hs'.le
  have hcap' := hs'.cap
  have t1 : ((a.length : Int) != (b.length : Int)) = false := by simp [hl]
  clear hl ha hb
  go_enter Try.func113, Try.ntmps113
  go_wp2_with fail
  refine C1.out.mono ?_
  rintro e w1 ⟨rfl, rfl⟩
  go_wp2_with fail
  refine C2.out.mono ?_
  rintro e w1 ⟨rfl, rfl⟩
  go_wp2
  go_ret
  exact ⟨rfl, rfl⟩

set_option maxRecDepth 100000 in
set_option maxHeartbeats 4000000 in
theorem rjoin_any (w : World) (v1 v2 : Value) (n : Nat) (a b : List Int) (h : Ints .i64 w v1 a) (h' : Ints .i64 w v2 b) (n0 : 0 < n) (n64 : n ≤ 64) (ha : Prt n a) (hb : Prt n b) :
    Calls Try.prog 89 #[v1, v2] w fun e w' => ∃ v q, e = .returned (.tuple #[v, .int .i64 0]) ∧ Ints .i64 w' v q ∧ IsJoin n a b q ∧ Ext w w' := by
  obtain ⟨i0, hi0, hz0, hz1, hz2⟩ := info_parts Try.infoInt
  have C1 := Lib.hid (rpair_ok w v1 v2 a b h h' (by rw [ha.1, hb.1]) (by rw [ha.1]; exact n64) ha.2 hb.2)
  have Hpa := Lib.hid ha
  have Hpb := Lib.hid hb
  have al := ha.1
  have bl := hb.1
  have h0a : ∀ i, i < n → ((nth a i).toNat : Int) = nth a i ∧ (nth a i).toNat ≤ 64 := fun i hi => by
    obtain ⟨g0, g1, _⟩ := ha.2 i (by rw [al]; exact hi)
    omega
  obtain ⟨A, c, rfl, hs, hf⟩ := h
  obtain ⟨A', c', rfl, hs', hf'⟩ := h'
  rw [al] at hs C1 ⊢
  rw [bl] at hs' C1 ⊢
  have hle := hs.le
  have hcap := hs.cap
  have hle' := hs'.le
  have hcap' := hs'.cap
  obtain ⟨ad, rfl, hbd, _⟩ := hs.get n0
  have hown0 : w.ownsRow w.heap.size 3 1 (.slice none 0 0) 0 [] := World.ownsRow_nil _ _ _ _
  have hca : ∀ j u, (a.map (Value.int .i64))[j]? = some u → w.cell? (ad.add j) = some u := ints_cells (by rw [al]; exact hs)
  have hla : (a.map (Value.int .i64)).length = n * 1 := by simp [al]
  have hoa := ints_one .i64 a
  have H0a := Lib.hid h0a
  have Hal := Lib.hid al
  have Hs := Lib.hid hs
  have Hs' := Lib.hid hs'
  clear ha hb al bl hf hf' h0a hs hs'
  go_enter Try.func89, Try.ntmps89
  go_wp2_with fail
  refine C1.out.mono ?_
  rintro e w1 ⟨rfl, rfl⟩
  go_wp2_with (at_builtin; refine wpList_append_own _ rfl (.tmp 17) (.tmp 18) _ rfl w.heap.size 3 i0 (.int .i64 0) 1 8 Try.underlying22 hi0 hz0 hz1 hz2 rfl (by omega) (.slice none 0 0) 0 [] rfl hown0 ad n c (a.map (Value.int .i64)) rfl hla hca hoa (by unfold maxLen; omega) (by omega) (Nat.le_refl _) ?_; intro vr w2 hown hg _; obtain ⟨g, cap, F, evr, hgb, hrow, hnc, hcm, hF⟩ := own_row hown (by omega); subst evr)
  have hx2 : Ext w w2 := Below.grown (Ext.refl w) hg (Nat.le_refl _) (fun k hk => by simp [Value.ownBlock] at hk)
  rw [Nat.zero_add] at hnc
  have hJ0 : JR w2 g cap n fun i => (nth a i).toNat := ⟨F, hrow, fun i hi => by
    rw [hF i (by omega), List.nil_append, getD_map_int .i64 a i (by rw [Hal.out]; exact hi), (H0a.out i hi).1]⟩
  clear hown hg hrow hF C1 hown0 hca hla hoa
  go_wp2
  go_loopw [8] (fun ch wr => ∃ P b', ch = .bool b' ∧ JR wr g cap n P ∧ Hid (RJ n a b P ∧ (b' = false → Stb n a b P n)) ∧ Ext w wr) (fun ch wr => 2 * JM wr g n + boolN ch)
  case atStart => exact ⟨_, true, rfl, hJ0, ⟨RJ.start Hpa.out, (fun q => by cases q)⟩, hx2⟩
  case round =>
    obtain ⟨P, ch, rfl, hJ, hinv, hxr⟩ := hrel
    obtain ⟨wo, rfl⟩ : ∃ wo : World, wo = wr := ⟨_, rfl⟩
    cases ch with
    | false =>
      have hR := Lib.hid (hinv.out.1.done (hinv.out.2 rfl) Hpa.out Hpb.out)
      have hI := Lib.hid (hJ.ints hnc hcm fun i hi => by have := (hinv.out.1 i hi).1; omega)
      go_wp2
      go_ret2
      exact ⟨_, rfl, _, hI.out, hR.out, hxr⟩
    | true =>
      have hjm := Lib.hid (hJ.jm hnc)
      have hinv1 := Lib.hid hinv.out.1
      have HJ := Lib.hid hJ
      clear hinv hJ
      go_wp2
      go_loopw [8, 23] (fun ch v wr => ∃ i : Nat, i ≤ n ∧ v = .int .i64 i ∧ ∃ P' b', ch = .bool b' ∧ JR wr g cap n P' ∧ Hid (RJ n a b P' ∧ nsum P' n ≤ nsum P n ∧ (b' = true → nsum P' n < nsum P n) ∧ (b' = false → Stb n a b P' i)) ∧ Ext w wr) (fun _ v _ => n - (intOf v).toNat)
      case atStart => exact ⟨0, Nat.zero_le _, rfl, P, false, rfl, HJ.out, ⟨hinv1.out, Nat.le_refl _, (fun q => by cases q), fun _ i hi => absurd hi (by omega)⟩, hxr⟩
      case round =>
        obtain ⟨i, hi, rfl, P', b', rfl, hJ', hinv', hxr'⟩ := hrel
        obtain ⟨wi, rfl⟩ : ∃ wi : World, wi = wr := ⟨_, rfl⟩
        by_cases hlt : i < n
        · have HJ' := Lib.hid hJ'
          clear hJ'
          go_wp2
          go_loopw [8, 28] (fun ch v wr => ∃ j : Nat, j ≤ n ∧ v = .int .i64 j ∧ ∃ P2 b2, ch = .bool b2 ∧ JR wr g cap n P2 ∧ Hid (RJ n a b P2 ∧ nsum P2 n ≤ nsum P n ∧ (b2 = true → nsum P2 n < nsum P n) ∧ (b2 = false → Stb n a b P2 i ∧ ∀ j', j' < j → rel2 a b i j' = true → ¬ P2 i < P2 j')) ∧ Ext w wr) (fun _ v _ => n - (intOf v).toNat)
          case atStart => exact ⟨0, Nat.zero_le _, rfl, P', b', rfl, HJ'.out, ⟨hinv'.out.1, hinv'.out.2.1, hinv'.out.2.2.1, fun q => ⟨hinv'.out.2.2.2 q, fun j' hj' => absurd hj' (by omega)⟩⟩, hxr'⟩
          case round =>
            obtain ⟨j, hj, rfl, P2, b2, rfl, hJ2, hinv2, hxr2⟩ := hrel
            by_cases hlj : j < n
            · obtain ⟨a1, ea1, _, hai⟩ := (Hs.out.ext hxr2).get hlt
              obtain rfl : ad = a1 := by injection ea1
              obtain ⟨a2, ea2, _, haj⟩ := (Hs.out.ext hxr2).get hlj
              obtain rfl : ad = a2 := by injection ea2
              obtain ⟨ad', rfl, _, hbi⟩ := (Hs'.out.ext hxr2).get hlt
              obtain ⟨a3, ea3, _, hbj⟩ := (Hs'.out.ext hxr2).get hlj
              obtain rfl : ad' = a3 := by injection ea3
              have hri := hJ2.cell hnc hlt
              have hrj := hJ2.cell hnc hlj
              have hfj := hJ2.frozen j
              have hpi : P2 i ≤ 64 := by have := (hinv2.out.1 i hlt).1; omega
              have hpj : P2 j ≤ 64 := by have := (hinv2.out.1 j hlj).1; omega
              obtain ⟨x, hx⟩ : ∃ x, x = P2 i := ⟨_, rfl⟩
              obtain ⟨y, hy⟩ : ∃ y, y = P2 j := ⟨_, rfl⟩
              rw [← hx] at hri hpi
              rw [← hy] at hrj hpj
              have hS : rel2 a b i j = (nth a i == nth a j || nth b i == nth b j) := rfl
              have Hx := Lib.hid hx
              have Hy := Lib.hid hy
              have HJ2 := Lib.hid hJ2
              clear hx hy hJ2 ea1 ea2 ea3
              cases e1 : (nth a i == nth a j) with
              | true =>
                by_cases e3 : x < y
                · have t3 : decide ((x : Int) < (y : Int)) = true := by rw [decide_eq_true_eq]; omega
                  have hg : Hid (rel2 a b i j = true) := by show rel2 a b i j = true; rw [hS, e1]; rfl
                  have hst := Lib.hid (nsum_set (P := P2) (n := n) (x := P2 i) hlj (by rw [← Hx.out, ← Hy.out]; exact e3))
                  go_wp2
                  go_quiet (fail)
                  go_wp2
                  go_roundw
                  case rel =>
                    refine ⟨j + 1, by omega, by go_num, setN P2 j (P2 i), true, rfl, ?_, ⟨hinv2.out.1.step hlt hlj hg.out (by rw [← Hx.out, ← Hy.out]; exact e3), by have := hst.out; have := hinv2.out.2.1; omega, fun _ => by have := hst.out; have := hinv2.out.2.1; omega, (fun q => by cases q)⟩, (hxr2.drewN _).setCell (p := ⟨g, j, none⟩) hgb _⟩
                    rw [← Hx.out]
                    exact (HJ2.out.ext ((Ext.refl _).drewN _)).set j x
                  case measure => simp [intOf]; omega
                · have t3 : decide ((x : Int) < (y : Int)) = false := by rw [decide_eq_false_iff_not]; omega
                  have hg : Hid (rel2 a b i j = true → ¬ P2 i < P2 j) := fun _ => by rw [← Hx.out, ← Hy.out]; exact e3
                  go_wp2
                  go_quiet (fail)
                  go_wp2
                  go_roundw
                  case rel => exact ⟨j + 1, by omega, by go_num, P2, b2, rfl, HJ2.out.ext ((Ext.refl _).drewN _), ⟨hinv2.out.1, hinv2.out.2.1, hinv2.out.2.2.1, fun q => ⟨(hinv2.out.2.2.2 q).1, fun j' hj' => by
                    by_cases e : j' = j
                    · rw [e]; exact hg.out
                    · exact (hinv2.out.2.2.2 q).2 j' (by omega)⟩⟩, hxr2.drewN _⟩
                  case measure => simp [intOf]; omega
              | false =>
                cases e2 : (nth b i == nth b j) with
                | true =>
                  by_cases e3 : x < y
                  · have t3 : decide ((x : Int) < (y : Int)) = true := by rw [decide_eq_true_eq]; omega
                    have hg : Hid (rel2 a b i j = true) := by show rel2 a b i j = true; rw [hS, e1]; rw [e2]; rfl
                    have hst := Lib.hid (nsum_set (P := P2) (n := n) (x := P2 i) hlj (by rw [← Hx.out, ← Hy.out]; exact e3))
                    go_wp2
                    go_quiet (fail)
                    go_wp2
                    go_roundw
                    case rel =>
                      refine ⟨j + 1, by omega, by go_num, setN P2 j (P2 i), true, rfl, ?_, ⟨hinv2.out.1.step hlt hlj hg.out (by rw [← Hx.out, ← Hy.out]; exact e3), by have := hst.out; have := hinv2.out.2.1; omega, fun _ => by have := hst.out; have := hinv2.out.2.1; omega, (fun q => by cases q)⟩, (hxr2.drewN _).setCell (p := ⟨g, j, none⟩) hgb _⟩
                      rw [← Hx.out]
                      exact (HJ2.out.ext ((Ext.refl _).drewN _)).set j x
                    case measure => simp [intOf]; omega
                  · have t3 : decide ((x : Int) < (y : Int)) = false := by rw [decide_eq_false_iff_not]; omega
                    have hg : Hid (rel2 a b i j = true → ¬ P2 i < P2 j) := fun _ => by rw [← Hx.out, ← Hy.out]; exact e3
                    go_wp2
                    go_quiet (fail)
                    go_wp2
                    go_roundw
                    case rel => exact ⟨j + 1, by omega, by go_num, P2, b2, rfl, HJ2.out.ext ((Ext.refl _).drewN _), ⟨hinv2.out.1, hinv2.out.2.1, hinv2.out.2.2.1, fun q => ⟨(hinv2.out.2.2.2 q).1, fun j' hj' => by
                      by_cases e : j' = j
                      · rw [e]; exact hg.out
                      · exact (hinv2.out.2.2.2 q).2 j' (by omega)⟩⟩, hxr2.drewN _⟩
                    case measure => simp [intOf]; omega
                | false =>
                  have hg : Hid (rel2 a b i j = true → ¬ P2 i < P2 j) := fun q => by rw [hS, e1, e2] at q; cases q
                  go_wp2
                  go_quiet (fail)
                  go_wp2
                  go_roundw
                  case rel => exact ⟨j + 1, by omega, by go_num, P2, b2, rfl, HJ2.out.ext ((Ext.refl _).drewN _), ⟨hinv2.out.1, hinv2.out.2.1, hinv2.out.2.2.1, fun q => ⟨(hinv2.out.2.2.2 q).1, fun j' hj' => by
                    by_cases e : j' = j
                    · rw [e]; exact hg.out
                    · exact (hinv2.out.2.2.2 q).2 j' (by omega)⟩⟩, hxr2.drewN _⟩
                  case measure => simp [intOf]; omega
            · obtain rfl : n = j := by omega
              have HJ2 := Lib.hid hJ2
              clear hJ2
              go_wp2
              go_roundw
              case rel => exact ⟨i + 1, by omega, by go_num, P2, b2, rfl, HJ2.out, ⟨hinv2.out.1, hinv2.out.2.1, hinv2.out.2.2.1, fun q i' hi' j' hj' => by
                by_cases e : i' = i
                · rw [e]; exact (hinv2.out.2.2.2 q).2 j' hj'
                · exact (hinv2.out.2.2.2 q).1 i' (by omega) j' hj'⟩, hxr2⟩
              case measure => simp [intOf]; omega
        · obtain rfl : n = i := by omega
          have HJ' := Lib.hid hJ'
          have hjm' := Lib.hid (hJ'.jm hnc)
          clear hJ'
          go_wp2
          go_roundw
          case rel => exact ⟨P', b', rfl, HJ'.out, ⟨hinv'.out.1, hinv'.out.2.2.2⟩, hxr'⟩
          case measure =>
            rw [hjm.out, hjm'.out]
            have h1 := hinv'.out.2.1
            have h2 := hinv'.out.2.2.1
            cases b' with
            | true => have := h2 rfl; show 2 * nsum P' n + 1 < 2 * nsum P n + 1; omega
            | false => show 2 * nsum P' n + 0 < 2 * nsum P n + 1; omega

end Go.Proofs.Ytdlhfihddipjaab
