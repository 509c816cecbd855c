/- The statement PointsCompares: for every input the law returns true, and its arguments read as before. No condition. -/
import Derived.Test.YtnlddjbeekfjlaaRows
import Derived.Test.YtnlddjbeekfjlaaPx
import Derived.Test.YtnlddjbeekfjlaaEngL
import Derived.WalkKit
import Derived.ProofKit
import Derived.OpenShut
import Derived.JoinedOf
import Derived.ChangeMaps5
namespace Go.Proofs.Ytnlddjbeekfjlaa.pointsCompares
open Go Go.ChangeShapes Go.WideShapes Go.ChangeAt Go.RowKit Go.Proofs.Ytnlddjbeekfjlaa
set_option linter.unusedVariables false
theorem own : ownKnob Try.prog.godebug = none := by kernel_rfl
set_option maxRecDepth 100000 in
theorem contract (H : Type) (enc : TypeId × Value → H) (W : World) (base : Nat) (args : Array Value) (ds gs : List (DataW H)) (before : List MemPlace)
    (hval : ∀ (j : Nat) t v, Try.f10.params[j]? = some t → args[j]? = some v → Value.okWide Try.prog W .any base t v)
    (hW : DataW.Whole enc Try.prog Try.f10.params.toList Rows.pointsComparesSpec.vars false W args.toList ds gs before) :
    Calls Try.prog 10 args W fun e W' => ∃ v, e = .returned v ∧ Rows.pointsComparesSpec.post enc Try.prog Try.f10 false true false false W args v W' := by
  have hW' := hW
  obtain ⟨p, q, hA0, hV, rfl, hfz, hnd⟩ := hW
  have hA : DataW.TrodAll enc Try.prog W 0 (fun _ => true) true Try.f10.params.toList args.toList ds p := hA0
  have hpar : Try.f10.params = #[22, 22] := by kernel_rfl
  rw [hpar] at hA hval
  obtain ⟨v0, vs0, d0, ds0, p0, q0, hargs, rfl, rfl, h0, r0⟩ := trodAll_cons hA
  obtain ⟨v1, vs1, d1, ds1, p1, q1, rfl, rfl, rfl, h1, r1⟩ := trodAll_cons r0
  obtain ⟨rfl, rfl, rfl⟩ := trodAll_nil r1
  obtain rfl : args = #[v0, v1] := by cases args; simp_all
  obtain ⟨rfl, rfl⟩ := trodVars_none hV
  obtain ⟨A_l, cap_l, l, rfl, hc_l, hm_l, R_l, ok_l⟩ := openSps (open_slice (n := 9) (by kernel_rfl) (by kernel_rfl) (hval 0 _ _ rfl rfl) h0)
  obtain ⟨A_m, cap_m, m, rfl, hc_m, hm_m, R_m, ok_m⟩ := openSps (open_slice (n := 9) (by kernel_rfl) (by kernel_rfl) (hval 1 _ _ rfl rfl) h1)
  refine (lawCompares_c A_l A_m cap_l cap_m l m (by unfold maxLen at hm_l; omega) (by unfold maxLen at hm_m; omega) W R_l R_m).mono ?_
  rintro e W' ⟨v, rfl, rfl, hk⟩
  exact ⟨_, rfl, post_true 9 hW' rfl rfl rfl (tb := 4) (by kernel_rfl) (by kernel_rfl) (by kernel_rfl) hk.below⟩
set_option maxRecDepth 100000 in
theorem lifted (os : Os) (started : os.Started) (H : Type) (enc : TypeId × Value → H) :
    ReturnsInHanded {} Try.checked os 10 .any (Rows.pointsComparesSpec.pre6 enc Try.prog Try.f10 Rows.pointsComparesRow.domain false) (Rows.pointsComparesSpec.post enc Try.prog Try.f10 false true false false) := by
  refine returnsInHanded_of_change (C := Try.checked) own started (by kernel_rfl) Try.func10
    (ChangeSpec.witness6 (enc := enc) (C := Try.checked) false ⟨#[], #[.slice none 0 0, .slice none 0 0], []⟩ 8 (by kernel_rfl) (by kernel_rfl) (by kernel_rfl) (by kernel_rfl)) ?_
  intro W base args ds gs before hval hW _ hk
  exact contract H enc W base args ds gs before hval hW
theorem proved : Rows.PointsComparesSaid :=
  OpenClaim.holds_of_wide 10 Try.f10 rfl rfl rfl rfl rfl rfl rfl ⟨rfl, rfl, rfl, rfl, rfl⟩ rfl rfl rfl rfl rfl (by kernel_rfl) Try.func10 (by kernel_rfl)
    (of_decide_eq_true (by kernel_rfl)) (by unfold Func.isWrapper; first | (rw [if_pos (by decide +kernel)]; kernel_rfl) | (rw [if_neg (by decide +kernel)]; exact ⟨rfl, rfl⟩))
    (fun os started H enc _ => lifted os started H enc)
end Go.Proofs.Ytnlddjbeekfjlaa.pointsCompares
