/- All picks, by the reference. No statement of the seat is proved here. -/
import Derived.Test.YtecmgjhnfgeldaaVx
namespace Go.Proofs.Ytecmgjhnfgeldaa.Al
set_option linter.unusedVariables false
set_option linter.unusedSimpArgs false
open Go Go.RowKit
section
variable {P : Program} {ro : Option Nat} {n : Nat} {Q : Post} {D : List Deferred} {f : Fm} {w w0 : World} {M : List Nat} {h : List HO}
variable {ops : Array Oper} {rest : List Oper} {d ty : Nat} {ps : String} {af : Array Edge} {gd : Option (Nat × Bool)} {x y : Operand}
theorem x_append0b {T e size bytes k c c2 : Nat} {A A2 : Option Addr} (hg : want ops f ⟨some d, .call ⟨.builtin .append, #[x, y], #[T, T]⟩, ty, ps, af, gd⟩ = true) (hdn : Nat.blt d n = true) (hk : apk P T = some (e, size, bytes)) (hx : fev f x = .slice A k c) (hy : fev f y = .slice A2 0 c2) (hkc : k ≤ c)
    (kk : WL P ro n ops Q rest D (upd f d (.slice A k c)) w) : WL P ro n ops Q (⟨some d, .call ⟨.builtin .append, #[x, y], #[T, T]⟩, ty, ps, af, gd⟩ :: rest) D f w := by
  obtain ⟨hu, i, zv, hi, hz, hsize, hbyt, hzs, hsz⟩ := apk_parts hk
  refine wl_run (v := .slice A k c) (w' := w) hg hdn ?_ kk
  cases A <;> cases A2 <;> simp [execOp, resolve, invoke, builtin, hx, hy, Builtin.append_, run_underlying hu, sizeOf, typeInfo, hi, Builtin.lenOf, hkc, Result.andThen, Sem.run_bind, Sem.run_pure, Builtin.firstCells, storeCells, loadCells, loadCellsFrom]
end
/-- a row of ints of the call's own -/
structure IR where
  A : Option Addr
  c : Nat
  xs : List Int
def ir0 : IR := ⟨none, 0, []⟩
def irV (r : IR) : List Value := [.slice r.A r.xs.length r.c]
def irH (r : IR) : HO := .rw 0 (.slice r.A r.xs.length r.c) 3 1 (r.xs.map pkC)
/-- the picks of the first parts, as ints -/
def pkI (ps : List Pt) (k : Nat) : List (List Int) := (picksP ((ps.take k).map Pt.pl)).map fun l => l.map fun (j : Nat) => (j : Int)
def extI (l : List Int) (n : Nat) : List (List Int) := (List.range n).map fun (c : Nat) => l ++ [(c : Int)]
theorem extI_suc (l : List Int) (n : Nat) : extI l (n + 1) = extI l n ++ [l ++ [(n : Int)]] := by simp [extI, List.range_succ]
theorem pkI_suc {ps : List Pt} {k : Nat} (h : k < ps.length) : pkI ps (k + 1) = (pkI ps k).flatMap fun l => extI l (ps.getD k pt0).cs.length := by
  unfold pkI
  rw [take_suc (d := pt0) h, List.map_append, List.map_cons, List.map_nil, picksP_snoc, List.map_flatMap, List.flatMap_map]
  refine congrArg (fun f => List.flatMap f (picksP ((ps.take k).map Pt.pl))) (funext fun l => ?_)
  unfold extI
  rw [List.map_map]
  refine List.map_congr_left fun (c : Nat) _ => ?_
  simp
theorem pkI_zero (ps : List Pt) : pkI ps 0 = [[]] := rfl
theorem pkI_len : ∀ (ps : List Pt), (picksP (ps.map Pt.pl)).length = prodN ps
  | [] => rfl
  | p :: ps => by
    rw [List.map_cons, picksP, List.length_flatMap]
    simp only [List.length_map, pkI_len ps]
    rw [List.map_const', List.sum_replicate_nat, List.length_range]
    rfl
theorem prodN_take : ∀ {ps : List Pt} {k : Nat}, (∀ p ∈ ps, OkP p) → prodN (ps.take k) ≤ prodN ps
  | ps, 0, h => by rw [List.take_zero]; exact prodN_pos h
  | [], k + 1, _ => Nat.le_refl _
  | p :: ps, k + 1, h => Nat.mul_le_mul_left _ (prodN_take fun q hq => h q (List.mem_cons_of_mem _ hq))
theorem pkI_few {m : Int} {ps : List Pt} (ho : OkT m ps) (hN : prodN ps ≤ 20000) (k : Nat) : (pkI ps k).length ≤ 20000 := by
  unfold pkI
  rw [List.length_map, pkI_len]
  exact Nat.le_trans (prodN_take ho.all) hN
end Go.Proofs.Ytecmgjhnfgeldaa.Al
