/- Parts that are recalled. No statement of the seat is proved here. -/
import Derived.Test.YtnndkdcciojpiaaWl
namespace Go.Proofs.Ytnndkdcciojpiaa.Rl
set_option linter.unusedVariables false
set_option linter.unusedSimpArgs false
open Go Go.RowKit Go.Maps
/-- the event that comes d-th from behind -/
abbrev evB (l : List Ev) (d : Nat) : Ev := l.getD (l.length - 1 - d) ev0
def nevP (l : List Ev) (d : Nat) : Prop := (evB l d).k = 3 ∨ (ckF l d).2 = 2
def susP (l : List Ev) (d : Nat) : Prop := ¬ nevP l d ∧ (evB l d).k = 0 ∧ (ckF l d).2 = 3
noncomputable def setF (Q : Nat → Prop) (key : Nat → ByteArray) : Nat → Lit → Option Value
  | 0 => fun _ => none
  | d + 1 => @ite _ (Q d) (Classical.propDecidable _) (putV (setF Q key d) (keyL (key d)) (.bool true)) (setF Q key d)
theorem setF_yes {Q : Nat → Prop} {key : Nat → ByteArray} {d : Nat} (h : Q d) : setF Q key (d + 1) = putV (setF Q key d) (keyL (key d)) (.bool true) := if_pos h
theorem setF_no {Q : Nat → Prop} {key : Nat → ByteArray} {d : Nat} (h : ¬ Q d) : setF Q key (d + 1) = setF Q key d := if_neg h
theorem setF_mem {Q : Nat → Prop} {key : Nat → ByteArray} : ∀ {d : Nat} {s : ByteArray}, (setF Q key d (keyL s)).isSome = true ↔ ∃ e, e < d ∧ Q e ∧ key e = s
  | 0, s => by simp [setF]
  | d + 1, s => by
    by_cases h : Q d
    · rw [setF_yes h]
      by_cases hs : key d = s
      · subst hs
        rw [putV_same]
        simp only [Option.isSome_some, true_iff]
        exact ⟨d, Nat.lt_succ_self _, h, rfl⟩
      · rw [putV_other (fun e => hs (keyL_inj e).symm), setF_mem]
        constructor
        · rintro ⟨e, h1, h2, h3⟩; exact ⟨e, Nat.lt_succ_of_lt h1, h2, h3⟩
        · rintro ⟨e, h1, h2, h3⟩
          rcases Nat.lt_succ_iff_lt_or_eq.1 h1 with h4 | rfl
          · exact ⟨e, h4, h2, h3⟩
          · exact absurd h3 hs
    · rw [setF_no h, setF_mem]
      constructor
      · rintro ⟨e, h1, h2, h3⟩; exact ⟨e, Nat.lt_succ_of_lt h1, h2, h3⟩
      · rintro ⟨e, h1, h2, h3⟩
        rcases Nat.lt_succ_iff_lt_or_eq.1 h1 with h4 | rfl
        · exact ⟨e, h4, h2, h3⟩
        · exact absurd h2 h
theorem setF_true {Q : Nat → Prop} {key : Nat → ByteArray} : ∀ {d : Nat} {z : Lit} {v : Value}, setF Q key d z = some v → v = .bool true
  | 0, z, v, h => by cases h
  | d + 1, z, v, h => by
    by_cases hq : Q d
    · rw [setF_yes hq] at h
      by_cases hz : z = keyL (key d)
      · subst hz
        rw [putV_same] at h
        exact (Option.some.inj h).symm
      · rw [putV_other hz] at h
        exact setF_true h
    · rw [setF_no hq] at h
      exact setF_true h
noncomputable abbrev nvF (l : List Ev) (d : Nat) : Lit → Option Value := setF (nevP l) (fun d => (evB l d).p) d
noncomputable abbrev ouF (l : List Ev) (d : Nat) : Lit → Option Value := setF (susP l) (fun d => (evB l d).p) d
/-- the parts that are recalled -/
noncomputable abbrev reF (l : List Ev) : Lit → Option Value := strike (ouF l l.length) (nvF l l.length)
theorem reF_mem {l : List Ev} {s : ByteArray} : (reF l (keyL s)).isSome = true ↔ (∃ d, d < l.length ∧ susP l d ∧ (evB l d).p = s) ∧ ¬ ∃ d, d < l.length ∧ nevP l d ∧ (evB l d).p = s := by
  rw [← setF_mem (Q := nevP l) (key := fun d => (evB l d).p), ← setF_mem (Q := susP l) (key := fun d => (evB l d).p)]
  show (if (nvF l l.length (keyL s)).isSome then none else ouF l l.length (keyL s)).isSome = true ↔ (ouF l l.length (keyL s)).isSome = true ∧ ¬ (nvF l l.length (keyL s)).isSome = true
  generalize (nvF l l.length (keyL s)).isSome = b
  cases b with
  | false => exact ⟨fun h => ⟨h, by decide⟩, fun h => h.1⟩
  | true => exact ⟨fun h => (by cases h), fun h => absurd rfl h.2⟩
set_option maxRecDepth 8000 in
theorem recalled1_c (x : Ev) (z : Int) (w : World) : Calls Try.prog 52 #[.agg #[.int .i64 x.k, .string x.g, .string x.p, .string x.l], .int .i64 z] w (RetP (Val (.bool (decide (z = 3))) w)) := by
  refine calls_of_cw (args := [.agg #[.int .i64 x.k, .string x.g, .string x.p, .string x.l], .int .i64 z]) Try.func52 rfl rfl ?_
  have S := Sat.start [] w
  (repeat' (first | apply cw_seq | apply cw_region | apply wl_nil | apply cw_ret | (apply x_move; exact rfl; exact rfl; (exact (by repeat' constructor))) | (apply x_assign; exact rfl; exact rfl; (exact (by repeat' constructor))) | (apply x_bin; exact rfl; exact rfl; exact rfl; (first | exact .z (.wrap (by omega)) | exact (by repeat' constructor))) | (apply x_box; assumption; exact rfl; exact rfl; (exact (by repeat' constructor)); (exact (by repeat' constructor)); intro _ _ _)))
  (first | refine q_retS (by assumption) rfl (by repeat (first | exact .nil | (apply RV.tmp; exact (by repeat' constructor)) | (apply RV.cell; exact rfl; exact (by repeat' constructor); exact rfl; exact rfl; exact (by repeat' constructor)))) ?_ | (simp only [thenQ, blockQ]; refine q_retS (by assumption) rfl (by repeat (first | exact .nil | (apply RV.tmp; exact (by repeat' constructor)) | (apply RV.cell; exact rfl; exact (by repeat' constructor); exact rfl; exact rfl; exact (by repeat' constructor)))) ?_))
  rename_i S3
  refine ⟨?_, Sat.keeps (by assumption)⟩
  exact congrArg Value.bool (by simp [beq_iff_eq, Bool.beq_eq_decide_eq])
set_option maxRecDepth 100000 in
theorem e_recalled1 : Ent Try.prog 52 := fun _ _ => rfl
set_option maxRecDepth 100000 in
theorem e_Delete : Ent Try.prog 67 := fun _ _ => rfl
end Go.Proofs.Ytnndkdcciojpiaa.Rl
