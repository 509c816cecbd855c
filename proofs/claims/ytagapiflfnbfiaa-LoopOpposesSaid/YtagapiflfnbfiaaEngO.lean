/- More operations: remainders, quotients. No statement of the seat is proved here. -/
import Derived.Test.YtagapiflfnbfiaaEngM
namespace Go.Proofs.Ytagapiflfnbfiaa
set_option linter.unusedVariables false
set_option linter.unusedSimpArgs false
open Go Go.RowKit
section
variable {P : Program} {ro : Option Nat} {n : Nat} {Q : Post} {D : List Deferred} {f : Fm} {w w0 w' : World} {M : List Nat} {h : List HO}
variable {ops : Array Oper} {rest : List Oper} {prest : List (Nat × Oper)} {d ty xt yt : Nat} {ps : String} {af : Array Edge} {gd : Option (Nat × Bool)} {x y : Operand}
theorem run_rem {kd : IntKind} {a b : Int} (hx : fev f x = .int kd a) (hy : fev f y = .int kd b) (ha : 0 ≤ a) (hb : 0 < b) :
    (execOp (fev f) ⟨some d, .binOp .rem xt x y yt, ty, ps, af, gd⟩).run P w = .ok (.value (.int kd (a % b))) w := by
  have e : ¬ b = 0 := by omega
  unfold execOp
  simp [hx, hy, eqGuard, binOp, Op.intDiv, e, go_sem, Int.tmod_eq_emod_of_nonneg ha]
theorem run_quo {kd : IntKind} {a b : Int} (hx : fev f x = .int kd a) (hy : fev f y = .int kd b) (ha : 0 ≤ a) (hb : 0 < b) :
    (execOp (fev f) ⟨some d, .binOp .quo xt x y yt, ty, ps, af, gd⟩).run P w = .ok (.value (.int kd (kd.wrap (a / b)))) w := by
  have e : ¬ b = 0 := by omega
  unfold execOp
  simp [hx, hy, eqGuard, binOp, Op.intDiv, e, go_sem, Int.tdiv_eq_ediv_of_nonneg ha]
theorem quo_in {a b : Int} (ha : 0 ≤ a) (hm : a ≤ 9223372036854775807) (hb : 0 < b) : IntKind.i64.wrap (a / b) = a / b := by
  refine IntWalk.i64_in _ ⟨?_, ?_⟩
  · have := Int.ediv_nonneg ha (Int.le_of_lt hb); omega
  · have := Int.ediv_le_self b ha; omega
theorem x_rem {kd : IntKind} {a b : Int} (hg : want ops f ⟨some d, .binOp .rem xt x y yt, ty, ps, af, gd⟩ = true) (hdn : Nat.blt d n = true) (hx : fev f x = .int kd a) (hy : fev f y = .int kd b) (ha : 0 ≤ a) (hb : 0 < b)
    (k : WL P ro n ops Q rest D (upd f d (.int kd (a % b))) w) : WL P ro n ops Q (⟨some d, .binOp .rem xt x y yt, ty, ps, af, gd⟩ :: rest) D f w :=
  x_bin hg hdn (run_rem hx hy ha hb) (.z .int) k
theorem y_rem {kd : IntKind} {a b : Int} (hg : want ops f ⟨some d, .binOp .rem xt x y yt, ty, ps, af, gd⟩ = true) (hx : fev f x = .int kd a) (hy : fev f y = .int kd b) (ha : 0 ≤ a) (hb : 0 < b)
    (k : PV P ro ops Q w0 M h prest D (upd f d (.int kd (a % b)))) : PV P ro ops Q w0 M h ((0, ⟨some d, .binOp .rem xt x y yt, ty, ps, af, gd⟩) :: prest) D f :=
  y_bin hg (fun _ => run_rem hx hy ha hb) (.z .int) k
theorem x_quo {a b : Int} (hg : want ops f ⟨some d, .binOp .quo xt x y yt, ty, ps, af, gd⟩ = true) (hdn : Nat.blt d n = true) (hx : fev f x = .int .i64 a) (hy : fev f y = .int .i64 b) (ha : 0 ≤ a) (hm : a ≤ 9223372036854775807) (hb : 0 < b)
    (k : WL P ro n ops Q rest D (upd f d (.int .i64 (a / b))) w) : WL P ro n ops Q (⟨some d, .binOp .quo xt x y yt, ty, ps, af, gd⟩ :: rest) D f w :=
  x_bin hg hdn (run_quo hx hy ha hb) (by rw [quo_in ha hm hb]; exact .z .int) k
theorem y_quo {a b : Int} (hg : want ops f ⟨some d, .binOp .quo xt x y yt, ty, ps, af, gd⟩ = true) (hx : fev f x = .int .i64 a) (hy : fev f y = .int .i64 b) (ha : 0 ≤ a) (hm : a ≤ 9223372036854775807) (hb : 0 < b)
    (k : PV P ro ops Q w0 M h prest D (upd f d (.int .i64 (a / b)))) : PV P ro ops Q w0 M h ((0, ⟨some d, .binOp .quo xt x y yt, ty, ps, af, gd⟩) :: prest) D f :=
  y_bin hg (fun _ => run_quo hx hy ha hb) (by rw [quo_in ha hm hb]; exact .z .int) k
end
/-- the wide kinds' bounds -/
theorem wf_u8 {m : Int} (h : (Lit.int .u8 m).wf = true) : 0 ≤ m ∧ m ≤ 255 := by
  simp only [Lit.wf, Bool.and_eq_true, decide_eq_true_eq] at h
  exact ⟨h.1, h.2⟩
theorem wf_u16 {m : Int} (h : (Lit.int .u16 m).wf = true) : 0 ≤ m ∧ m ≤ 65535 := by
  simp only [Lit.wf, Bool.and_eq_true, decide_eq_true_eq] at h
  exact ⟨h.1, h.2⟩
theorem wf_i64 {m : Int} (h : (Lit.int .i64 m).wf = true) : -9223372036854775808 ≤ m ∧ m ≤ 9223372036854775807 := by
  simp only [Lit.wf, Bool.and_eq_true, decide_eq_true_eq] at h
  exact ⟨h.1, h.2⟩
end Go.Proofs.Ytagapiflfnbfiaa
