/- The statement TopRecallsWiden: for every input the law returns true, and its arguments read as before. No condition. -/
import Derived.Test.YtnndkdcciojpiaaRows
import Derived.Test.YtnndkdcciojpiaaWx
import Derived.SizedLaws
import Derived.Test.YtnndkdcciojpiaaEngL
import Derived.WalkKit
import Derived.ProofKit
import Derived.OpenShut
import Derived.JoinedOf
import Derived.ChangeMaps5
namespace Go.Proofs.Ytnndkdcciojpiaa.topRecallsWiden
open Go Go.ChangeShapes Go.WideShapes Go.ChangeAt Go.RowKit Go.Proofs.Ytnndkdcciojpiaa
set_option linter.unusedVariables false
theorem own : ownKnob Try.prog.godebug = none := by kernel_rfl
set_option maxRecDepth 100000 in
theorem contract (H : Type) (enc : TypeId × Value → H) (W : World) (base : Nat) (args : Array Value) (ds gs : List (DataW H)) (before : List MemPlace)
    (hval : ∀ (j : Nat) t v, Try.f4.params[j]? = some t → args[j]? = some v → Value.okWide Try.prog W .any base t v)
    (hW : DataW.Whole enc Try.prog Try.f4.params.toList Rows.topRecallsWidenSpec.vars false W args.toList ds gs before)
    (hsz : (DataW.weightsEach Try.prog (Try.f4.params.toList ++ Rows.topRecallsWidenSpec.plain.varTypes Try.prog) (ds ++ gs)).all (· ≤ reachBytes) = true) :
    Calls Try.prog 4 args W fun e W' => ∃ v, e = .returned v ∧ Rows.topRecallsWidenSpec.post enc Try.prog Try.f4 false true false false W args v W' := by
  have hW' := hW
  obtain ⟨p, q, hA0, hV, rfl, hfz, hnd⟩ := hW
  have hA : DataW.TrodAll enc Try.prog W 0 (fun _ => true) true Try.f4.params.toList args.toList ds p := hA0
  have hpar : Try.f4.params = #[26, 40, 5] := by kernel_rfl
  rw [hpar] at hA hval
  obtain ⟨v0, vs0, d0, ds0, p0, q0, hargs, rfl, rfl, h0, r0⟩ := trodAll_cons hA
  obtain ⟨v1, vs1, d1, ds1, p1, q1, rfl, rfl, rfl, h1, r1⟩ := trodAll_cons r0
  obtain ⟨v2, vs2, d2, ds2, p2, q2, rfl, rfl, rfl, h2, r2⟩ := trodAll_cons r1
  obtain ⟨rfl, rfl, rfl⟩ := trodAll_nil r2
  obtain rfl : args = #[v0, v1, v2] := by cases args; simp_all
  obtain ⟨rfl, rfl⟩ := trodVars_none hV
  obtain ⟨t, rfl, ok_t⟩ := Rl.openSh (open_aggZ (n := 9) (by kernel_rfl) (by kernel_rfl) (hval 0 _ _ rfl rfl) h0 (szd_each hsz (j := 0) (t := 26) (by kernel_rfl) rfl))
  obtain ⟨l1, rfl, x1⟩ := open_flat (n := 9) (k := [.int .i64, .int .i64]) (by kernel_rfl) (by kernel_rfl) (hval 1 _ _ rfl rfl) h1
  obtain ⟨_, _, rfl, ⟨lo, rfl, wlo⟩, _, _, rfl, ⟨hi, rfl, whi⟩, rfl⟩ := x1
  obtain ⟨m, rfl, rfl, rfl, wm⟩ := open_int (k := .u8) (by kernel_rfl) (hval 2 _ _ rfl rfl) h2
  have bm : 0 ≤ m ∧ m ≤ 255 := by simp [Lit.wf, IntKind.min, IntKind.max, IntKind.signed, IntKind.bits] at wm; omega
  refine (Rl.lawWiden t lo hi m bm W ok_t).mono ?_
  rintro e W' ⟨v, rfl, rfl, hk⟩
  exact ⟨_, rfl, post_true 9 hW' rfl rfl rfl (tb := 4) (by kernel_rfl) (by kernel_rfl) (by kernel_rfl) hk.below⟩
set_option maxRecDepth 100000 in
theorem lifted (os : Os) (started : os.Started) (H : Type) (enc : TypeId × Value → H) :
    ReturnsInHanded {} Try.checked os 4 .any (Rows.topRecallsWidenSpec.pre6 enc Try.prog Try.f4 Rows.topRecallsWidenRow.domain false) (Rows.topRecallsWidenSpec.post enc Try.prog Try.f4 false true false false) := by
  refine returnsInHanded_of_change_sized (C := Try.checked) own started (by kernel_rfl) Try.func4
    (ChangeSpec.witness6 (enc := enc) (C := Try.checked) false ⟨#[], #[.agg #[.slice none 0 0, .slice none 0 0, .slice none 0 0], .agg #[.int .i64 0, .int .i64 0], .int .u8 0], []⟩ 8 (by kernel_rfl) (by kernel_rfl) (by kernel_rfl) (by kernel_rfl)) ?_
  intro W base args ds gs before hval hW _ hsz hk
  exact contract H enc W base args ds gs before hval hW hsz
theorem proved : Rows.TopRecallsWidenSaid :=
  OpenClaim.holds_of_wide 4 Try.f4 rfl rfl rfl rfl rfl rfl rfl ⟨rfl, rfl, rfl, rfl, rfl⟩ rfl rfl rfl rfl rfl (by kernel_rfl) Try.func4 (by kernel_rfl)
    (of_decide_eq_true (by kernel_rfl)) (by unfold Func.isWrapper; first | (rw [if_pos (by decide +kernel)]; kernel_rfl) | (rw [if_neg (by decide +kernel)]; exact ⟨rfl, rfl⟩))
    (fun os started H enc _ => lifted os started H enc)
end Go.Proofs.Ytnndkdcciojpiaa.topRecallsWiden
