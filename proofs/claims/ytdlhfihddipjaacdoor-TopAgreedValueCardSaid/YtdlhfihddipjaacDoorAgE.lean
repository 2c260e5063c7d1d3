/-
  The agreement texts, plain: joins exist; the end of an exchange agrees.
-/
import Derived.Test.YtdlhfihddipjaacDoorAgR
import Derived.Test.YtdlhfihddipjaacDoorAg9
import Derived.Test.YtdlhfihddipjaacDoorPlain3b
namespace Go.Proofs.YtdlhfihddipjaacDoor
open Go.RowKit

theorem join_exists {n : Nat} {a b : List Int} (ha : Prt n a) (hb : Prt n b) : ∃ q, IsJoin n a b q := by
  have key : ∀ k, k ≤ n → ∃ P, JoinTo n (fn a) (fn b) k P := by
    intro k
    induction k with
    | zero => exact fun _ => ⟨_, JoinTo.start (fn_le ha.2) (fun i hi => fn_idem ha.2 (by rw [ha.1]; exact hi))⟩
    | succ k ih =>
      intro hk
      obtain ⟨P, hP⟩ := ih (by omega)
      exact ⟨_, hP.step (by omega) (fn_le hb.2 k)⟩
  obtain ⟨P, hP⟩ := key n (Nat.le_refl _)
  exact ⟨_, isJoin_of ha hb (join_done ha.2 hb.2 (by rw [ha.1, hb.1]) (by rw [ha.1]; exact hP))⟩
theorem comm_is {W : List Int} {C : List (List Int)} (hP : PrOk W C) : ∃ j, IsComm W.length C j := comm_exists C (fun a ha => hP.prt ha) fun a b ha hb => join_exists ha hb
theorem anyErr_ok {W : List Int} {C : List (List Int)} {k e : Nat} (hP : PrOk W C) (hk : k < W.length) (he : e < 2 ^ W.length) : anyErr W C k e = 0 := by
  unfold anyErr
  rw [agErr_ok hP, if_neg (by simp), if_neg (by omega)]
theorem fix_agree {W : List Int} {C : List (List Int)} {k e : Nat} (hP : PrOk W C) (hf : rnd W C e = C) (hk : k < W.length) : agreeB W C k e = true := by
  rw [agreeB_iff]
  intro a ha
  obtain ⟨j, hj⟩ := comm_is hP
  exact agree_same hP hj hk ha (by omega) (fix_const hP hf hj hk ha) (fix_const hP hf hj hk (show 0 < C.length by omega))
theorem ends_plain {W : List Int} {C : List (List Int)} {k e : Nat} (hP : PrOk W C) (hf : rnd W C e = C) (hk : k < W.length) (he : e < 2 ^ W.length) : agrR W C k e = (true, 0) := by
  unfold agrR
  rw [anyErr_ok hP hk he, if_neg (by simp), Int.toNat_natCast, fix_agree hP hf hk]
theorem exN_spec {W : List Int} {C : List (List Int)} (hP : PrOk W C) (e : Nat) : rnd W (exC W C e (exN W C e)) e = exC W C e (exN W C e) ∧ exN W C e ≤ W.length * C.length := by
  obtain ⟨k, hk⟩ := exC_stops hP e
  have : ∃ m, exC W C e (m + 1) = exC W C e m ∧ ∀ j, j < m → exC W C e (j + 1) ≠ exC W C e j := by
    induction k using Nat.strongRecOn with
    | _ k ih =>
      by_cases q : ∃ j, j < k ∧ exC W C e (j + 1) = exC W C e j
      · obtain ⟨j, h1, h2⟩ := q
        exact ih j h1 h2
      · exact ⟨k, hk, fun j hj h => q ⟨j, hj, h⟩⟩
  obtain ⟨m, h1, h2⟩ := this
  rw [exN_unique hP h1 h2]
  exact ⟨h1, exC_bound hP e h2⟩

end Go.Proofs.YtdlhfihddipjaacDoor
