/-
  Contracts of partition.Of and of its reference.
-/
import Derived.Test.YtdlhfihddipjaaaRef3
import Derived.Test.YtdlhfihddipjaaaPart5
namespace Go.Proofs.Ytdlhfihddipjaaa
open Go.RowKit

theorem lowest_char {P : Nat → Bool} {k j : Nat} (hj : j ≤ k) (h1 : j = k ∨ P j = true) (h2 : ∀ i, i < j → P i = false) : lowest P k = j := by
  rcases h1 with rfl | h1
  · have := lowest_le P j
    rcases Nat.lt_or_ge (lowest P j) j with h | h
    · have e := h2 _ h
      have : lowest P j = j ∨ P (lowest P j) = true := by
        unfold lowest
        cases h1 : (List.range (j + 1)).find? P with
        | none => simp
        | some i => right; simpa using List.find?_some h1
      rcases this with t | t
      · exact t
      · rw [t] at e; cases e
    · omega
  · exact lowest_unique hj h1 h2

/-- The lowest point that a set of the list names for a point. -/
def ofLow (r : List Nat) (i : Nat) : Nat := lowest (fun j => (nthN r i).testBit j) i
def ofList (r : List Nat) : List Int := upTo r.length fun i => (ofLow r i : Nat)
theorem ofList_len (r : List Nat) : (ofList r).length = r.length := upTo_len _ _
theorem ofList_nth {r : List Nat} {i : Nat} (h : i < r.length) : nth (ofList r) i = (ofLow r i : Nat) := upTo_nth h
theorem ofLow_le (r : List Nat) (i : Nat) : ofLow r i ≤ i := lowest_le _ _

def ofWide (r : List Nat) : Prop := r.length < 64 ∧ ∃ i, i < r.length ∧ 2 ^ r.length ≤ nthN r i
open Classical in
/-- The error that Of answers. -/
noncomputable def ofErr (r : List Nat) : Int := if 64 < r.length then 8 else if ofWide r then 3 else if pOk (ofList r) ∧ relOf (ofList r) = r then 0 else 12
open Classical in
noncomputable def ofRes (r : List Nat) : List Int := if ofErr r = 0 then ofList r else []

theorem ofErr_big {r : List Nat} (h : 64 < r.length) : ofErr r = 8 ∧ ofRes r = [] := by
  have e : ofErr r = 8 := by unfold ofErr; rw [if_pos h]
  exact ⟨e, by unfold ofRes; rw [e]; simp⟩
theorem ofErr_wide {r : List Nat} (h : r.length ≤ 64) (hw : ofWide r) : ofErr r = 3 ∧ ofRes r = [] := by
  have e : ofErr r = 3 := by unfold ofErr; rw [if_neg (by omega), if_pos hw]
  exact ⟨e, by unfold ofRes; rw [e]; simp⟩
theorem ofErr_ok {r : List Nat} (h : r.length ≤ 64) (hw : ¬ ofWide r) (hp : pOk (ofList r)) (hr : relOf (ofList r) = r) : ofErr r = 0 ∧ ofRes r = ofList r := by
  have e : ofErr r = 0 := by unfold ofErr; rw [if_neg (by omega), if_neg hw, if_pos ⟨hp, hr⟩]
  exact ⟨e, by unfold ofRes; rw [e]; simp⟩
theorem ofErr_logic {r : List Nat} (h : r.length ≤ 64) (hw : ¬ ofWide r) (hp : ¬ (pOk (ofList r) ∧ relOf (ofList r) = r)) : ofErr r = 12 ∧ ofRes r = [] := by
  have e : ofErr r = 12 := by unfold ofErr; rw [if_neg (by omega), if_neg hw, if_neg hp]
  exact ⟨e, by unfold ofRes; rw [e]; simp⟩

set_option maxHeartbeats 1000000 in
theorem relation_bad (w : World) (v : Value) (p : List Int) (h : Ints .i64 w v p) (h64 : p.length ≤ 64) (hp : ¬ pOk p) :
    Calls Try.prog 25 #[v] w fun e w' => e = .returned (.slice none 0 0) ∧ w = w' := by
  have C1 := Lib.hid (pcheck_bad w v p h h64 hp)
  go_enter Try.func25, Try.ntmps25
  go_wp2_with fail
  refine C1.out.mono ?_
  rintro e w1 ⟨rfl, rfl⟩
  go_wp2
  go_ret
  exact ⟨rfl, rfl⟩

set_option maxHeartbeats 1000000 in
theorem pof_big (w : World) (v : Value) (r : List Nat) (h : Sets w v r) (hl : 64 < r.length) :
    Calls Try.prog 24 #[v] w fun e w' => e = .returned (.tuple #[.slice none 0 0, .int .i64 8]) ∧ Ext w w' := by
  obtain ⟨A, c, rfl, hs, hf⟩ := h
  have hle := hs.le
  have hcap := hs.cap
  go_enter Try.func24, Try.ntmps24
  go_wp2
  go_ret2
  exact ⟨rfl, Ext.refl w⟩

/-- The number in a cell. -/
def cellNat (w : World) (a : Addr) : Nat := ((w.cell? a).map fun v => (intOf v).toNat).getD 0
theorem cellNat_of {w : World} {a : Addr} {k : IntKind} {m : Nat} (h : w.cell? a = some (.int k m)) : cellNat w a = m := by
  unfold cellNat
  rw [h]
  simp [intOf]

/-- 's>>n != 0', as the walk spells it. -/
theorem shr_ne (s n : Nat) : ((s : Int) / 2 ^ n != 0) = decide (2 ^ n ≤ s) := by
  have e : (s : Int) / 2 ^ n = ((s / 2 ^ n : Nat) : Int) := by simp
  rw [e]
  by_cases h : 2 ^ n ≤ s
  · have : 0 < s / 2 ^ n := Nat.div_pos h (Nat.two_pow_pos n)
    simp [h]; omega
  · have : s / 2 ^ n = 0 := Nat.div_eq_of_lt (by omega)
    simp [h, this]

set_option maxRecDepth 100000 in
set_option maxHeartbeats 2000000 in
theorem pof_wide (w : World) (v : Value) (r : List Nat) (h : Sets w v r) (hw : ofWide r) :
    Calls Try.prog 24 #[v] w fun e w' => e = .returned (.tuple #[.slice none 0 0, .int .i64 3]) ∧ Ext w w' := by
  obtain ⟨A, c, rfl, hs, hf⟩ := h
  have hle := hs.le
  have hcap := hs.cap
  obtain ⟨h64, hex⟩ := hw
  go_enter Try.func24, Try.ntmps24
  go_wp2
  go_loop [16] (fun v => ∃ k : Nat, k ≤ r.length ∧ v = .int .i64 k ∧ Hid (∀ j, j < k → nthN r j < 2 ^ r.length)) (fun v => r.length - (intOf v).toNat)
  case atStart => exact ⟨0, Nat.zero_le _, rfl, fun j hj => absurd hj (by omega)⟩
  case round =>
    obtain ⟨k, hk, rfl, hgo⟩ := hrel
    by_cases hlt : k < r.length
    · obtain ⟨ad, rfl, hb, hc⟩ := hs.get hlt
      have t := shr_ne (nthN r k) r.length
      by_cases hbad : 2 ^ r.length ≤ nthN r k
      · rw [decide_eq_true hbad] at t
        clear hbad
        go_wp2
        go_ret2
        exact ⟨rfl, Ext.refl w⟩
      · rw [decide_eq_false hbad] at t
        have Hb := Lib.hid hbad
        clear hbad
        go_wp2
        go_round
        case rel => exact ⟨k + 1, by omega, by go_num, fun j hj => by
          by_cases e : j = k
          · have := Hb.out; rw [e]; omega
          · exact hgo.out j (by omega)⟩
        case measure => simp [intOf]; omega
    · obtain ⟨i, hi, hbad⟩ := hex
      have := hgo.out i (by omega)
      omega

set_option maxRecDepth 100000 in
set_option maxHeartbeats 8000000 in
theorem pof_main (w : World) (v : Value) (r : List Nat) (h : Sets w v r) (hl : r.length ≤ 64) (hw : ¬ ofWide r) :
    Calls Try.prog 24 #[v] w fun e w' => ∃ v', e = .returned (.tuple #[v', .int .i64 (ofErr r)]) ∧ Ints .i64 w' v' (ofRes r) ∧ Ext w w' := by
  have Hs := Lib.hid h
  obtain ⟨A, c, rfl, hs, hf⟩ := h
  have hle := hs.le
  have hcap := hs.cap
  have Hf := Lib.hid hf
  clear hf
  have hmk := run_make_row' (P := Try.prog) 22 3 (.int .i64 0) 8 Try.underlying22 Try.infoInt rfl .i64 .i64 r.length (by omega) (by omega)
  have Hw := Lib.hid hw
  clear hw
  have hsm : ∀ k, k < r.length → r.length < 64 → nthN r k < 2 ^ r.length := fun k hk h64 => by
    rcases Nat.lt_or_ge (nthN r k) (2 ^ r.length) with h | h
    · exact h
    · exact absurd ⟨h64, k, hk, h⟩ Hw.out
  have Hsm := Lib.hid hsm
  clear hsm
  rcases Nat.lt_or_ge r.length 64 with h64 | h64
  all_goals
    go_enter Try.func24, Try.ntmps24
    go_wp2
    go_loop [16] (fun v => ∃ k : Nat, k ≤ r.length ∧ v = .int .i64 k) (fun v => r.length - (intOf v).toNat)
    case atStart => exact ⟨0, Nat.zero_le _, rfl⟩
    case round =>
      obtain ⟨k, hk, rfl⟩ := hrel
      by_cases hlt : k < r.length
      · obtain ⟨ad, rfl, hb, hc⟩ := hs.get hlt
        have t : r.length < 64 → ((nthN r k : Int) / 2 ^ r.length != 0) = false := fun h64 => by rw [shr_ne, decide_eq_false]; have := Hsm.out k hlt h64; omega
        go_wp2
        all_goals
          go_round
          case rel => exact ⟨k + 1, by omega, by go_num⟩
          case measure => simp [intOf]; omega
      · clear hs
        go_wp2
        go_loopw [33] (fun v wr => ∃ k : Nat, k ≤ r.length ∧ v = .int .i64 k ∧ wr.rowIs w.heap.size 3 r.length (fun j => .int .i64 ((if j < k then ofLow r j else 0 : Nat) : Int)) ∧ Ext w wr) (fun v _ => r.length - (intOf v).toNat)
        case atStart => exact ⟨0, Nat.zero_le _, rfl, (made_row w _ _ _).congr (fun i hi => by simp), (Ext.refl w).alloc _⟩
        case round =>
          obtain ⟨k, hk, rfl, hrow, hx⟩ := hrel
          obtain ⟨wo, rfl⟩ : ∃ wo : World, wo = wr := ⟨_, rfl⟩
          by_cases hlt : k < r.length
          · have hs0 := Hs.out.ext hx
            obtain ⟨A', c', e1, hs1, _⟩ := hs0
            injection e1 with e1 _ e3
            subst e1; subst e3
            obtain ⟨ad, rfl, hb, hc⟩ := hs1.get hlt
            obtain ⟨s, hs2⟩ : ∃ s, s = nthN r k := ⟨_, rfl⟩
            have hslt : s < 18446744073709551616 := by rw [hs2]; exact Hf.out k hlt
            rw [← hs2] at hc
            have Hs2 := Lib.hid hs2
            have Hslt := Lib.hid hslt
            clear hs2 hslt hs1
            go_wp2
            go_loopw [41] (fun _ wr => ∃ m : Nat, m ≤ k ∧ wr.rowIs w.heap.size 3 r.length (fun j => .int .i64 ((if j < k then ofLow r j else if j = k then m else 0 : Nat) : Int)) ∧ Ext w wr ∧ Hid (∀ j, j < m → s.testBit j = false)) (fun _ wr => k - cellNat wr ⟨w.heap.size, k, none⟩)
            case atStart => exact ⟨0, Nat.zero_le _, hrow.congr (fun i hi => by split <;> simp), hx, fun j hj => absurd hj (by omega)⟩
            case round =>
              obtain ⟨m, hm, hrow2, hx2, hno⟩ := hrel
              have hc2 := hrow2.cell hlt
              rw [if_neg (Nat.lt_irrefl k), if_pos rfl] at hc2
              have hfz := hrow2.frozen k
              have hbit := u64_bit0 s m Hslt.out
              by_cases hmk : m < k
              · cases hbv : s.testBit m with
                | false =>
                  rw [hbv] at hbit
                  have Hbv := Lib.hid hbv
                  clear hbv
                  have hr3 := hrow2.set k (.int .i64 ((m + 1 : Nat) : Int))
                  have hcn := hr3.cell hlt
                  rw [if_pos rfl] at hcn
                  have e0 : cellNat wr ⟨w.heap.size, k, none⟩ = m := cellNat_of hc2
                  have e1 : cellNat (wr.setCell ⟨w.heap.size, k, none⟩ (.int .i64 ((m + 1 : Nat) : Int))) ⟨w.heap.size, k, none⟩ = m + 1 := cellNat_of hcn
                  have E0 := Lib.hid e0
                  have E1 := Lib.hid e1
                  have Hr3 := Lib.hid hr3
                  have Hx3 := Lib.hid (hx2.setCell (p := ⟨w.heap.size, k, none⟩) (Nat.le_refl _) (.int .i64 ((m + 1 : Nat) : Int)))
                  have HE : Hid ((m : Int) + 1 = ((m + 1 : Nat) : Int)) := by show (m : Int) + 1 = ((m + 1 : Nat) : Int); omega
                  clear hr3 hcn e0 e1
                  go_wp2
                  try go_region
                  try go_wp2
                  rw [HE.out]
                  go_roundw
                  case rel => exact ⟨m + 1, by omega, Hr3.out.congr (fun j hj => by
                    by_cases e : j = k
                    · subst e; simp
                    · simp [e]), Hx3.out, fun j hj => by
                      by_cases e : j = m
                      · rw [e]; exact Hbv.out
                      · exact hno.out j (by omega)⟩
                  case measure => rw [E0.out, E1.out]; omega
                | true =>
                  rw [hbv] at hbit
                  have hlow : ofLow r k = m := lowest_char hm (.inr (by rw [← Hs2.out]; exact hbv)) (fun j hj => by rw [← Hs2.out]; exact hno.out j hj)
                  have Hlow := Lib.hid hlow
                  clear hbv hlow
                  go_wp2
                  go_roundw
                  case rel => exact ⟨k + 1, by omega, by go_num, hrow2.congr (fun j hj => by
                    by_cases e : j = k
                    · subst e; simp [Hlow.out]
                    · simp only [e, if_false, Nat.lt_succ_iff_lt_or_eq, or_false]), hx2⟩
                  case measure => simp [intOf]; omega
              · obtain rfl : m = k := by omega
                have hlow : ofLow r m = m := lowest_char hm (.inl rfl) (fun j hj => by rw [← Hs2.out]; exact hno.out j hj)
                have Hlow := Lib.hid hlow
                clear hlow
                go_wp2
                go_roundw
                case rel => exact ⟨m + 1, by omega, by go_num, hrow2.congr (fun j hj => by
                  by_cases e : j = m
                  · subst e; simp [Hlow.out]
                  · simp only [e, if_false, Nat.lt_succ_iff_lt_or_eq, or_false]), hx2⟩
                case measure => simp [intOf]; omega
          · have hkl : k = r.length := by omega
            have hints : Ints .i64 wo (.slice (some ⟨w.heap.size, 0, none⟩) r.length r.length) (ofList r) := by
              refine Ints.of_row (hrow.congr fun i hi => ?_) (ofList_len r) (by omega) (fun i hi => ?_)
              · rw [ofList_nth hi, if_pos (by omega)]
              · rw [ofList_len] at hi
                have := ofLow_le r i
                rw [ofList_nth hi]; exact fits_small (by omega) (by omega)
            have Hi := Lib.hid hints
            clear hints hrow
            by_cases hp : pOk (ofList r)
            · have C1 := Lib.hid (relation_ok _ _ _ Hi.out (by rw [ofList_len]; exact hl) hp)
              by_cases hr : relOf (ofList r) = r
              · have he := ofErr_ok hl Hw.out hp hr
                have He := Lib.hid he
                have HR := Lib.hid hr
                clear hp hr he
                go_wp2_with fail
                refine C1.out.mono ?_
                rintro e w2 ⟨v2, rfl, hv2, hy⟩
                rw [HR.out] at hv2
                have C2 := Lib.hid (equalS_yes _ _ _ r hv2 (Hs.out.ext (hx.trans hy)))
                go_wp2_with fail
                refine C2.out.mono ?_
                rintro e w3 ⟨rfl, hy2⟩
                go_wp2
                go_ret2
                exact ⟨.slice (some ⟨w.heap.size, 0, none⟩) r.length r.length, by rw [He.out.1]; rfl, by rw [He.out.2]; exact (Hi.out.ext hy).ext hy2, (hx.trans hy).trans hy2⟩
              · have he := ofErr_logic hl Hw.out (fun h => hr h.2)
                have He := Lib.hid he
                have HR := Lib.hid hr
                clear hp hr he
                go_wp2_with fail
                refine C1.out.mono ?_
                rintro e w2 ⟨v2, rfl, hv2, hy⟩
                have C2 := Lib.hid (equalS_no _ _ _ _ r hv2 (Hs.out.ext (hx.trans hy)) HR.out)
                go_wp2_with fail
                refine C2.out.mono ?_
                rintro e w3 ⟨rfl, hy2⟩
                go_wp2
                go_ret2
                exact ⟨.slice none 0 0, by rw [He.out.1]; rfl, by rw [He.out.2]; exact Ints.nil _ _, (hx.trans hy).trans hy2⟩
            · have hne : ([] : List Nat) ≠ r := fun e => hp (by subst e; exact fun i hi => absurd hi (by simp [ofList, upTo]))
              have he := ofErr_logic hl Hw.out (fun h => hp h.1)
              have He := Lib.hid he
              have C1 := Lib.hid (relation_bad _ _ _ Hi.out (by rw [ofList_len]; exact hl) hp)
              have C2 := Lib.hid (equalS_no _ _ _ _ r (Sets.nil wo) (Hs.out.ext hx) hne)
              clear hp hne he
              go_wp2_with fail
              refine C1.out.mono ?_
              rintro e w2 ⟨rfl, rfl⟩
              go_wp2_with fail
              refine C2.out.mono ?_
              rintro e w3 ⟨rfl, hy2⟩
              go_wp2
              go_ret2
              exact ⟨.slice none 0 0, by rw [He.out.1]; rfl, by rw [He.out.2]; exact Ints.nil _ _, hx.trans hy2⟩

theorem pof_any (w : World) (v : Value) (r : List Nat) (h : Sets w v r) :
    Calls Try.prog 24 #[v] w fun e w' => ∃ v', e = .returned (.tuple #[v', .int .i64 (ofErr r)]) ∧ Ints .i64 w' v' (ofRes r) ∧ Ext w w' := by
  by_cases hl : r.length ≤ 64
  · by_cases hw : ofWide r
    · refine (pof_wide w v r h hw).mono ?_
      rintro e w1 ⟨rfl, hx⟩
      obtain ⟨e1, e2⟩ := ofErr_wide hl hw
      exact ⟨_, by rw [e1], by rw [e2]; exact Ints.nil _ _, hx⟩
    · exact pof_main w v r h hl hw
  · refine (pof_big w v r h (by omega)).mono ?_
    rintro e w1 ⟨rfl, hx⟩
    obtain ⟨e1, e2⟩ := ofErr_big (r := r) (by omega)
    exact ⟨_, by rw [e1], by rw [e2]; exact Ints.nil _ _, hx⟩

end Go.Proofs.Ytdlhfihddipjaaa
