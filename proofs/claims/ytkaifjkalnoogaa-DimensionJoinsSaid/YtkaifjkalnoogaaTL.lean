/- The statement DimensionJoins: for every input the law returns true, and its arguments read as before. No condition. -/
import Derived.Test.YtkaifjkalnoogaaRows
import Derived.Test.YtkaifjkalnoogaaT
import Derived.Test.YtkaifjkalnoogaaEngL
import Derived.WalkKit
import Derived.ProofKit
import Derived.OpenShut
import Derived.JoinedOf
import Derived.ChangeMaps5
namespace Go.Proofs.Ytkaifjkalnoogaa.dimensionJoins
open Go Go.ChangeShapes Go.WideShapes Go.ChangeAt Go.RowKit Go.Proofs.Ytkaifjkalnoogaa
set_option linter.unusedVariables false
theorem own : ownKnob Try.prog.godebug = none := by kernel_rfl
theorem contract (H : Type) (enc : TypeId × Value → H) (W : World) (base : Nat) (args : Array Value) (ds gs : List (DataW H)) (before : List MemPlace)
    (hval : ∀ (j : Nat) t v, Try.f5.params[j]? = some t → args[j]? = some v → Value.okWide Try.prog W .any base t v)
    (hW : DataW.Whole enc Try.prog Try.f5.params.toList Rows.dimensionJoinsSpec.vars false W args.toList ds gs before) :
    Calls Try.prog 5 args W fun e W' => ∃ v, e = .returned v ∧ Rows.dimensionJoinsSpec.post enc Try.prog Try.f5 false true false false W args v W' := by
  have hW' := hW
  obtain ⟨p, q, hA0, hV, rfl, hfz, hnd⟩ := hW
  have hA : DataW.TrodAll enc Try.prog W 0 (fun _ => true) true Try.f5.params.toList args.toList ds p := hA0
  have hpar : Try.f5.params = #[40, 40] := by kernel_rfl
  rw [hpar] at hA hval
  obtain ⟨v0, vs0, d0, ds0, p0, q0, hargs, rfl, rfl, h0, r0⟩ := trodAll_cons hA
  obtain ⟨v1, vs1, d1, ds1, p1, q1, rfl, rfl, rfl, h1, r1⟩ := trodAll_cons r0
  obtain ⟨rfl, rfl, rfl⟩ := trodAll_nil r1
  obtain rfl : args = #[v0, v1] := by cases args; simp_all
  obtain ⟨rfl, rfl⟩ := trodVars_none hV
  obtain ⟨l0, rfl, x0⟩ := open_flat (n := 9) (k := [.string, .string, .int .i64, .int .i64, .int .i64]) (by kernel_rfl) (by kernel_rfl) (hval 0 _ _ rfl rfl) h0
  obtain ⟨_, _, rfl, ⟨af, rfl, waf⟩, _, _, rfl, ⟨aw, rfl, waw⟩, _, _, rfl, ⟨ax, rfl, wax⟩, _, _, rfl, ⟨al, rfl, wal⟩, _, _, rfl, ⟨ah, rfl, wah⟩, rfl⟩ := x0
  obtain ⟨l1, rfl, x1⟩ := open_flat (n := 9) (k := [.string, .string, .int .i64, .int .i64, .int .i64]) (by kernel_rfl) (by kernel_rfl) (hval 1 _ _ rfl rfl) h1
  obtain ⟨_, _, rfl, ⟨bf, rfl, wbf⟩, _, _, rfl, ⟨bt, rfl, wbt⟩, _, _, rfl, ⟨bx, rfl, wbx⟩, _, _, rfl, ⟨bl, rfl, wbl⟩, _, _, rfl, ⟨bh, rfl, wbh⟩, rfl⟩ := x1
  refine (lawJoins_c ⟨af, aw, ax, al, ah⟩ ⟨bf, bt, bx, bl, bh⟩ ⟨by unfold maxLen at waf; exact (by omega), by unfold maxLen at waw; exact (by omega)⟩ ⟨by unfold maxLen at wbf; exact (by omega), by unfold maxLen at wbt; exact (by omega)⟩ W).mono ?_
  rintro e W' ⟨v, rfl, rfl, hk⟩
  exact ⟨_, rfl, post_true 9 hW' rfl rfl rfl (tb := 4) (by kernel_rfl) (by kernel_rfl) (by kernel_rfl) hk.below⟩
set_option maxRecDepth 100000 in
theorem lifted (os : Os) (started : os.Started) (H : Type) (enc : TypeId × Value → H) :
    ReturnsInHanded {} Try.checked os 5 .any (Rows.dimensionJoinsSpec.pre6 enc Try.prog Try.f5 Rows.dimensionJoinsRow.domain false) (Rows.dimensionJoinsSpec.post enc Try.prog Try.f5 false true false false) := by
  refine returnsInHanded_of_change (C := Try.checked) own started (by kernel_rfl) Try.func5
    (ChangeSpec.witness6 (enc := enc) (C := Try.checked) false ⟨#[], #[.agg #[.string ⟨#[]⟩, .string ⟨#[]⟩, .int .i64 0, .int .i64 0, .int .i64 0], .agg #[.string ⟨#[]⟩, .string ⟨#[]⟩, .int .i64 0, .int .i64 0, .int .i64 0]], []⟩ 8 (by kernel_rfl) (by kernel_rfl) (by kernel_rfl) (by kernel_rfl)) ?_
  intro W base args ds gs before hval hW _ hk
  exact contract H enc W base args ds gs before hval hW
theorem proved : Rows.DimensionJoinsSaid :=
  OpenClaim.holds_of_wide 5 Try.f5 rfl rfl rfl rfl rfl rfl rfl ⟨rfl, rfl, rfl, rfl, rfl⟩ rfl rfl rfl rfl rfl (by kernel_rfl) Try.func5 (by kernel_rfl)
    (of_decide_eq_true (by kernel_rfl)) (by unfold Func.isWrapper; first | (rw [if_pos (by decide +kernel)]; kernel_rfl) | (rw [if_neg (by decide +kernel)]; exact ⟨rfl, rfl⟩))
    (fun os started H enc _ => lifted os started H enc)
end Go.Proofs.Ytkaifjkalnoogaa.dimensionJoins
