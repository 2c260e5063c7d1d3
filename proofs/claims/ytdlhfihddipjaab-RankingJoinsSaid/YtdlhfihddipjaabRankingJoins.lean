/-
  RankingJoins returns true, for every input: no condition.
  The frame is the guide's shell of a law's proof, a struct by value opened by hand; the walk is proved in the texts that are imported.
-/
import Derived.Test.YtdlhfihddipjaabRows
import Derived.Test.YtdlhfihddipjaabLw7
import Derived.Lib.SmallJoins
import Derived.WalkKit
import Derived.ProofKit
import Derived.OpenShut
import Derived.ShutString
import Derived.ChangeOld
import Derived.Below
namespace Go.Proofs.Ytdlhfihddipjaab.rankingJoins
open Go.ChangeShapes Go.WideShapes Go.ChangeAt Go.RowKit
open Go.ChangeMaps (open_string shut_string)
set_option linter.unusedVariables false

theorem own : ownKnob Try.prog.godebug = none := by kernel_rfl
theorem laidOut : laidOutB Try.prog = true := by kernel_rfl

/-- WHAT THE WALK IS TOLD OF A SLICE OF INTEGERS THAT CAME IN: it is nil; or it leads to a row of 'cap' cells, the numbers 'zs' (the first 'len' are its elements, the rest its spare room), each fitting its kind. -/
def IsRow (k : IntKind) (w : World) (a : Option Addr) (len cap : Nat) (zs : List Int) : Prop :=
  (a = none ∧ len = 0 ∧ cap = 0 ∧ zs = []) ∨
  ∃ x, a = some x ∧ len ≤ cap ∧ cap ≤ maxLen ∧ zs.length = cap ∧ (∀ i, i < zs.length → w.cell? (x.add i) = some (.int k (zs.getD i 0))) ∧ ∀ n ∈ zs, (Lit.int k n).wf = true


theorem walk (n k : Int) (a1 : Option Addr) (len1 cap1 : Nat) (z1 : List Int) (a3 : Option Addr) (len3 cap3 : Nat) (z3 : List Int) (b1 b2 : Int) (w : World) (w1 : IsRow .i64 w a1 len1 cap1 z1) (w3 : IsRow .i64 w a3 len3 cap3 z3) (wb1 : (Lit.int .u16 b1).wf = true) (wb2 : (Lit.int .u16 b2).wf = true) :
    Calls Try.prog 5 #[.agg #[.int .i64 n, .slice a1 len1 cap1, .int .i64 k, .slice a3 len3 cap3], .int .u16 b1, .int .u16 b2] w fun e w' => e = .returned (.bool true) ∧ Below w.heap.size w w' := by
  have h1 := _root_.Go.bounds_u16 wb1
  have h2 := _root_.Go.bounds_u16 wb2
  obtain ⟨x, hx⟩ := Int.eq_ofNat_of_zero_le h1.1
  subst hx
  obtain ⟨y, hy⟩ := Int.eq_ofNat_of_zero_le h2.1
  subst hy
  exact joins37_any w _ _ n k _ _ x y (isRow_ints w1) (isRow_ints w3) (by omega) (by omega)

/-! ### THE ROW's STEP: WRITTEN OUT: LEAVE IT -/
set_option maxRecDepth 100000 in
theorem lifted (os : Os) (started : os.Started) (H : Type) (enc : TypeId × Value → H) :
    ReturnsInHanded {} Try.checked os 5 .any (Rows.rankingJoinsSpec.pre6 enc Try.prog Try.f5 Rows.rankingJoinsRow.domain false) (Rows.rankingJoinsSpec.post enc Try.prog Try.f5 false true false false) := by
  refine returnsInHanded_of_change (C := Try.checked) own started (by kernel_rfl) Try.func5
    (ChangeSpec.witness6 (enc := enc) (C := Try.checked) false ⟨#[], #[.agg #[.int .i64 0, .slice none 0 0, .int .i64 0, .slice none 0 0], .int .u16 0, .int .u16 0], []⟩ 8 (by kernel_rfl) (by kernel_rfl) (by kernel_rfl) (by kernel_rfl)) ?_
  intro W base args ds gs before hval0 hW hcnd _
  have hval : ∀ (j : Nat) t v, Try.f5.params[j]? = some t → args[j]? = some v → Value.okWide Try.prog W .any base t v := hval0
  have hW' := hW
  obtain ⟨p, q, hA0, hV, rfl, hfz, hnd⟩ := hW
  have hA : DataW.TrodAll enc Try.prog W 0 (fun _ => true) true Try.f5.params.toList args.toList ds p := hA0
  rw [Try.params5] at hA hval
  obtain ⟨v0, vs0, d0, ds0, p0, q0, hargs, rfl, rfl, h0, r0⟩ := trodAll_cons hA
  obtain ⟨v1, vs1, d1, ds1, p1, q1, rfl, rfl, rfl, h1, r1⟩ := trodAll_cons r0
  obtain ⟨v2, vs2, d2, ds2, p2, q2, rfl, rfl, rfl, h2, r2⟩ := trodAll_cons r1
  obtain ⟨rfl, rfl, rfl⟩ := trodAll_nil r2
  obtain rfl : args = #[v0, v1, v2] := by cases args; simp_all
  obtain ⟨rfl, rfl⟩ := trodVars_none hV
  have k0 := h0
  have lt0 : ∀ x ∈ p0, x.block < W.heap.size := by obtain ⟨m, hm⟩ := k0; exact DataW.trod_lt m _ _ _ hm
  obtain ⟨c0, c1, c2, c3, y0, y1, y2, y3, nf, rfl, rfl, rfl, t0, t1, t2, t3⟩ := Go.Joins.open_agg4 Try.underlying37 (by kernel_rfl) (by kernel_rfl) (hval 0 37 v0 rfl rfl) h0
  obtain ⟨n, e0, _, _⟩ := DataW.trod_int Try.underlying3 t0
  obtain ⟨k, e2, _, _⟩ := DataW.trod_int Try.underlying3 t2
  injection e0 with e0 _
  injection e2 with e2 _
  subst e0 e2
  obtain ⟨a1, len1, cap1, z1, rfl, w1⟩ : ∃ a l c zs, c1 = .slice a l c ∧ IsRow .i64 W a l c zs := by
    rcases open_ints Try.underlying22 Try.underlying3 (by kernel_rfl) t1 with ⟨hcs, _⟩ | ⟨x, l, c, zs, hcs, _, hl, hm, hz, _, hcell, hwz⟩
    · injection hcs with hcs _
      exact ⟨_, _, _, [], hcs, .inl ⟨rfl, rfl, rfl, rfl⟩⟩
    · injection hcs with hcs _
      exact ⟨_, _, _, zs, hcs, .inr ⟨_, rfl, hl, hm, by simpa using hz, hcell, hwz⟩⟩
  obtain ⟨a3, len3, cap3, z3, rfl, w3⟩ : ∃ a l c zs, c3 = .slice a l c ∧ IsRow .i64 W a l c zs := by
    rcases open_ints Try.underlying22 Try.underlying3 (by kernel_rfl) t3 with ⟨hcs, _⟩ | ⟨x, l, c, zs, hcs, _, hl, hm, hz, _, hcell, hwz⟩
    · injection hcs with hcs _
      exact ⟨_, _, _, [], hcs, .inl ⟨rfl, rfl, rfl, rfl⟩⟩
    · injection hcs with hcs _
      exact ⟨_, _, _, zs, hcs, .inr ⟨_, rfl, hl, hm, by simpa using hz, hcell, hwz⟩⟩
  obtain ⟨b1, rfl, rfl, rfl, wb1⟩ := open_int Try.underlying38 (hval 1 38 v1 rfl rfl) h1
  obtain ⟨b2, rfl, rfl, rfl, wb2⟩ := open_int Try.underlying38 (hval 2 38 v2 rfl rfl) h2
  clear hA0 hval0
  refine (walk n k a1 len1 cap1 z1 a3 len3 cap3 z3 b1 b2 W w1 w3 wb1 wb2).mono fun e W' ⟨he, bel⟩ => ?_
  subst he
  exact ⟨_, rfl, _, _, _, [], _, [], hW', trodAll_mk1 (shut_bool Try.underlying4 _), (trodAll_cons_mk (Below.trod laidOut (by kernel_rfl) (of_decide_eq_true (by kernel_rfl)) k0 bel lt0) (trodAll_cons_mk (shut_int Try.underlying38 wb1) (trodAll_cons_mk (shut_int Try.underlying38 wb2) trodAll_mk0))), rfl, bel.frame _, fun h => by cases h⟩

theorem over : Rows.rankingJoinsRow.holds Try.pinned (OpenSpec.ofChange Rows.rankingJoinsSpec) :=
  OpenClaim.holds_of_wide 5 Try.f5 rfl rfl rfl rfl rfl rfl rfl ⟨rfl, rfl, rfl, rfl, rfl⟩ rfl rfl rfl rfl rfl (by kernel_rfl) Try.func5 (by kernel_rfl)
    (of_decide_eq_true (by kernel_rfl)) (by unfold Func.isWrapper; first | (rw [if_pos (by decide +kernel)]; kernel_rfl) | (rw [if_neg (by decide +kernel)]; exact ⟨rfl, rfl⟩))
    (fun os started H enc _ => lifted os started H enc)

theorem proved : Rows.RankingJoinsSaid := over
end Go.Proofs.Ytdlhfihddipjaab.rankingJoins
