/- All picks in order, as the reference makes them, in plain words. No statement of the seat is proved here. -/
import Derived.Test.YtecmgjhnfgeldaaVw
namespace Go.Proofs.Ytecmgjhnfgeldaa.Al
set_option linter.unusedVariables false
set_option linter.unusedSimpArgs false
theorem picksP_snoc : ∀ (ps : List PP) (p : PP), picksP (ps ++ [p]) = (picksP ps).flatMap fun l => (List.range p.2.length).map fun c => l ++ [c]
  | [], p => by
    show (List.range p.2.length).flatMap (fun k => ([[]] : List (List Nat)).map (k :: ·)) = _
    simp [picksP, List.flatMap_singleton', List.map_eq_flatMap]
  | q :: ps, p => by
    rw [List.cons_append, picksP, picksP, List.flatMap_assoc]
    refine congrArg (fun f => List.flatMap f (List.range q.2.length)) (funext fun k => ?_)
    rw [picksP_snoc ps p, List.map_flatMap, List.flatMap_map]
    refine congrArg (fun f => List.flatMap f (picksP ps)) (funext fun l => ?_)
    rw [List.map_map]
    rfl
end Go.Proofs.Ytecmgjhnfgeldaa.Al
