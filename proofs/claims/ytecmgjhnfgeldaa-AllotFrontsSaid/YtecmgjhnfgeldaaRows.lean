/-
  No cell of these rows narrows 'for every input' (looked for: loops, veiled, ifaces, maps, wideKeys, modest, calm, conditions, laid).
  DERIVED. THE GIVEN ROWS OF THIS SEAT. 8 by the template 'for every input the law returns true; each argument reads behind the call as it read before'; 0 by the template 'total and deterministic' (their statements: YtecmgjhnfgeldaaTotals.lean).
  GIVEN WITH THE SEED: the statements are not yours to turn. If you find one false, say at which input.
  Laid BY PROGRAM, IN A SANDBOX (cutbox-rows.mjs): the forced cells as the released guide's own fill.sh prints them over the translation 12bf690d6693c019… (all of the seat's roots in one cut). By AI agents, Wed Nov 11 2026. No macro, syntax, notation, axiom, sorry.
-/
import Derived.Test.YtecmgjhnfgeldaaChecked
import GoSem.Claim
import GoSem.ClaimJoined
import GoSem.ClaimMapViews
import Derived.JoinedTies
import Derived.KernelRfl
namespace Go.Proofs.Ytecmgjhnfgeldaa
/- THE CELL 'sum', in the pinned program and in every row, IS THE sha256 OF THE DUMP (.gsa) THAT YtecmgjhnfgeldaaProg.lean LOADS. Nothing in Lean hashes anything: it is a label: what it is worth is what the hold of that sum in a sandbox is worth. -/
noncomputable def Try.pinned : Pinned := { name := "ytecmgjhnfgeldaa", sum := "12bf690d6693c01906d8c2f07e3bae535bf1e73e1cd4fc5cc90fcff66cdcb7e2", checked := Try.checked }
namespace Rows
def none {H : Type} : Left H := { results := [], args := [] }

/-- 'metrolablaw28.AllotSolves': WHATEVER THE INPUT: true; the input reads as it did. -/
def allotSolvesSpec : ChangeSpec := { name := "allotSolves", fn := fun _ => fun
  | [d] => { results := [.lit (.bool true)], args := [d] }
  | _ => none }
def allotSolvesRow : OpenClaim := { program := "ytecmgjhnfgeldaa", sum := "12bf690d6693c01906d8c2f07e3bae535bf1e73e1cd4fc5cc90fcff66cdcb7e2", func := "metrolab/metrolablaw28.AllotSolves", spec := "allotSolves", unfollowed := true, recurses := true, apart := false }
def AllotSolvesSaid : Prop := allotSolvesRow.holds Try.pinned (OpenSpec.ofChange allotSolvesSpec)

/-- ITS FALSE NEIGHBOUR: 'it returns false'. Refute it at one input. -/
def allotSolvesWrong : ChangeSpec := { name := "allotSolves", fn := fun _ => fun
  | [d] => { results := [.lit (.bool false)], args := [d] }
  | _ => none }
def AllotSolvesWrongFalsely : Prop := allotSolvesRow.holds Try.pinned (OpenSpec.ofChange allotSolvesWrong)

/-- 'metrolablaw28.AllotFronts': WHATEVER THE INPUT: true; the input reads as it did. -/
def allotFrontsSpec : ChangeSpec := { name := "allotFronts", fn := fun _ => fun
  | [d] => { results := [.lit (.bool true)], args := [d] }
  | _ => none }
def allotFrontsRow : OpenClaim := { program := "ytecmgjhnfgeldaa", sum := "12bf690d6693c01906d8c2f07e3bae535bf1e73e1cd4fc5cc90fcff66cdcb7e2", func := "metrolab/metrolablaw28.AllotFronts", spec := "allotFronts", unfollowed := true, recurses := true, apart := false }
def AllotFrontsSaid : Prop := allotFrontsRow.holds Try.pinned (OpenSpec.ofChange allotFrontsSpec)

/-- ITS FALSE NEIGHBOUR: 'it returns false'. Refute it at one input. -/
def allotFrontsWrong : ChangeSpec := { name := "allotFronts", fn := fun _ => fun
  | [d] => { results := [.lit (.bool false)], args := [d] }
  | _ => none }
def AllotFrontsWrongFalsely : Prop := allotFrontsRow.holds Try.pinned (OpenSpec.ofChange allotFrontsWrong)

/-- 'metrolablaw28.AllotWorths': WHATEVER THE INPUT: true; the input reads as it did. -/
def allotWorthsSpec : ChangeSpec := { name := "allotWorths", fn := fun _ => fun
  | [d1, d2] => { results := [.lit (.bool true)], args := [d1, d2] }
  | _ => none }
def allotWorthsRow : OpenClaim := { program := "ytecmgjhnfgeldaa", sum := "12bf690d6693c01906d8c2f07e3bae535bf1e73e1cd4fc5cc90fcff66cdcb7e2", func := "metrolab/metrolablaw28.AllotWorths", spec := "allotWorths", unfollowed := true, recurses := true, apart := false }
def AllotWorthsSaid : Prop := allotWorthsRow.holds Try.pinned (OpenSpec.ofChange allotWorthsSpec)

/-- ITS FALSE NEIGHBOUR: 'it returns false'. Refute it at one input. -/
def allotWorthsWrong : ChangeSpec := { name := "allotWorths", fn := fun _ => fun
  | [d1, d2] => { results := [.lit (.bool false)], args := [d1, d2] }
  | _ => none }
def AllotWorthsWrongFalsely : Prop := allotWorthsRow.holds Try.pinned (OpenSpec.ofChange allotWorthsWrong)

/-- 'metrolablaw28.AllotBounds': WHATEVER THE INPUT: true; the input reads as it did. -/
def allotBoundsSpec : ChangeSpec := { name := "allotBounds", fn := fun _ => fun
  | [d] => { results := [.lit (.bool true)], args := [d] }
  | _ => none }
def allotBoundsRow : OpenClaim := { program := "ytecmgjhnfgeldaa", sum := "12bf690d6693c01906d8c2f07e3bae535bf1e73e1cd4fc5cc90fcff66cdcb7e2", func := "metrolab/metrolablaw28.AllotBounds", spec := "allotBounds", unfollowed := true, recurses := true, apart := false }
def AllotBoundsSaid : Prop := allotBoundsRow.holds Try.pinned (OpenSpec.ofChange allotBoundsSpec)

/-- ITS FALSE NEIGHBOUR: 'it returns false'. Refute it at one input. -/
def allotBoundsWrong : ChangeSpec := { name := "allotBounds", fn := fun _ => fun
  | [d] => { results := [.lit (.bool false)], args := [d] }
  | _ => none }
def AllotBoundsWrongFalsely : Prop := allotBoundsRow.holds Try.pinned (OpenSpec.ofChange allotBoundsWrong)

/-- 'metrolablaw28.AllotMeets': WHATEVER THE INPUT: true; the input reads as it did. -/
def allotMeetsSpec : ChangeSpec := { name := "allotMeets", fn := fun _ => fun
  | [d] => { results := [.lit (.bool true)], args := [d] }
  | _ => none }
def allotMeetsRow : OpenClaim := { program := "ytecmgjhnfgeldaa", sum := "12bf690d6693c01906d8c2f07e3bae535bf1e73e1cd4fc5cc90fcff66cdcb7e2", func := "metrolab/metrolablaw28.AllotMeets", spec := "allotMeets", unfollowed := true, recurses := true, apart := false }
def AllotMeetsSaid : Prop := allotMeetsRow.holds Try.pinned (OpenSpec.ofChange allotMeetsSpec)

/-- ITS FALSE NEIGHBOUR: 'it returns false'. Refute it at one input. -/
def allotMeetsWrong : ChangeSpec := { name := "allotMeets", fn := fun _ => fun
  | [d] => { results := [.lit (.bool false)], args := [d] }
  | _ => none }
def AllotMeetsWrongFalsely : Prop := allotMeetsRow.holds Try.pinned (OpenSpec.ofChange allotMeetsWrong)

/-- 'metrolablaw28.AllotAdds': WHATEVER THE INPUT: true; the input reads as it did. -/
def allotAddsSpec : ChangeSpec := { name := "allotAdds", fn := fun _ => fun
  | [d1, d2, d3] => { results := [.lit (.bool true)], args := [d1, d2, d3] }
  | _ => none }
def allotAddsRow : OpenClaim := { program := "ytecmgjhnfgeldaa", sum := "12bf690d6693c01906d8c2f07e3bae535bf1e73e1cd4fc5cc90fcff66cdcb7e2", func := "metrolab/metrolablaw28.AllotAdds", spec := "allotAdds", unfollowed := true, recurses := true, apart := false }
def AllotAddsSaid : Prop := allotAddsRow.holds Try.pinned (OpenSpec.ofChange allotAddsSpec)

/-- ITS FALSE NEIGHBOUR: 'it returns false'. Refute it at one input. -/
def allotAddsWrong : ChangeSpec := { name := "allotAdds", fn := fun _ => fun
  | [d1, d2, d3] => { results := [.lit (.bool false)], args := [d1, d2, d3] }
  | _ => none }
def AllotAddsWrongFalsely : Prop := allotAddsRow.holds Try.pinned (OpenSpec.ofChange allotAddsWrong)

/-- 'metrolablaw28.AllotValues': WHATEVER THE INPUT: true; the input reads as it did. -/
def allotValuesSpec : ChangeSpec := { name := "allotValues", fn := fun _ => fun
  | [d1, d2] => { results := [.lit (.bool true)], args := [d1, d2] }
  | _ => none }
def allotValuesRow : OpenClaim := { program := "ytecmgjhnfgeldaa", sum := "12bf690d6693c01906d8c2f07e3bae535bf1e73e1cd4fc5cc90fcff66cdcb7e2", func := "metrolab/metrolablaw28.AllotValues", spec := "allotValues", unfollowed := true, recurses := true, apart := false }
def AllotValuesSaid : Prop := allotValuesRow.holds Try.pinned (OpenSpec.ofChange allotValuesSpec)

/-- ITS FALSE NEIGHBOUR: 'it returns false'. Refute it at one input. -/
def allotValuesWrong : ChangeSpec := { name := "allotValues", fn := fun _ => fun
  | [d1, d2] => { results := [.lit (.bool false)], args := [d1, d2] }
  | _ => none }
def AllotValuesWrongFalsely : Prop := allotValuesRow.holds Try.pinned (OpenSpec.ofChange allotValuesWrong)

/-- 'metrolablaw28.AllotImproves': WHATEVER THE INPUT: true; the input reads as it did. -/
def allotImprovesSpec : ChangeSpec := { name := "allotImproves", fn := fun _ => fun
  | [d] => { results := [.lit (.bool true)], args := [d] }
  | _ => none }
def allotImprovesRow : OpenClaim := { program := "ytecmgjhnfgeldaa", sum := "12bf690d6693c01906d8c2f07e3bae535bf1e73e1cd4fc5cc90fcff66cdcb7e2", func := "metrolab/metrolablaw28.AllotImproves", spec := "allotImproves", unfollowed := true, recurses := true, apart := false }
def AllotImprovesSaid : Prop := allotImprovesRow.holds Try.pinned (OpenSpec.ofChange allotImprovesSpec)

/-- ITS FALSE NEIGHBOUR: 'it returns false'. Refute it at one input. -/
def allotImprovesWrong : ChangeSpec := { name := "allotImproves", fn := fun _ => fun
  | [d] => { results := [.lit (.bool false)], args := [d] }
  | _ => none }
def AllotImprovesWrongFalsely : Prop := allotImprovesRow.holds Try.pinned (OpenSpec.ofChange allotImprovesWrong)

/- THE SECOND FORM. 'bulk': how many values and letters a reading holds, each counted each time it is reached (what is shared counts as often as it is met; a slice's spare places count too). A statement '..UptoSaid' is the law's where the arguments, and the package variables that the reading takes, are together of bulk at most 1048576: NARROWER than '..Said'. Prove '..Said' where nothing that the law and all that it calls make is longer than what came in: it says more and counts as full. Else prove '..UptoSaid'. A law counts once. -/
mutual
def uptoBulk {H : Type} : DataW H → Nat
  | .lit (.string bytes) => bytes.length + 1
  | .lit _ => 1
  | .nil => 1
  | .ptr d => uptoBulk d + 1
  | .slice elems spare => uptoBulkAll elems + uptoBulkAll spare + 1
  | .agg parts => uptoBulkAll parts + 1
  | .iface _ d => uptoBulk d + 1
  | .map entries => uptoBulkEntries entries + 1
  | .held _ => 1
def uptoBulkAll {H : Type} : List (DataW H) → Nat
  | [] => 0
  | d :: r => uptoBulk d + uptoBulkAll r
def uptoBulkEntries {H : Type} : List (Lit × DataW H) → Nat
  | [] => 0
  | x :: r => uptoBulkEntry x + uptoBulkEntries r
def uptoBulkEntry {H : Type} : Lit × DataW H → Nat
  | (.string bytes, d) => bytes.length + uptoBulk d + 1
  | (_, d) => uptoBulk d + 1
 end
def uptoSmall : (H : Type) → List (DataW H) → Bool := fun _ ds => decide (uptoBulkAll ds ≤ 1048576)
def OpenSpec.upto (s : _root_.Go.ChangeSpec) : _root_.Go.OpenSpec := { _root_.Go.OpenSpec.ofChange s with cond := some uptoSmall }

/-- 'metrolablaw28.AllotSolves', WHERE WHAT IT READS IS OF BULK AT MOST 1048576: true; the input reads as it did. -/
def allotSolvesUptoRow : OpenClaim := { program := "ytecmgjhnfgeldaa", sum := "12bf690d6693c01906d8c2f07e3bae535bf1e73e1cd4fc5cc90fcff66cdcb7e2", func := "metrolab/metrolablaw28.AllotSolves", spec := "allotSolves", unfollowed := true, recurses := true, apart := false, narrowed := true }
def AllotSolvesUptoSaid : Prop := allotSolvesUptoRow.holds Try.pinned (OpenSpec.upto allotSolvesSpec)

/-- 'metrolablaw28.AllotFronts', WHERE WHAT IT READS IS OF BULK AT MOST 1048576: true; the input reads as it did. -/
def allotFrontsUptoRow : OpenClaim := { program := "ytecmgjhnfgeldaa", sum := "12bf690d6693c01906d8c2f07e3bae535bf1e73e1cd4fc5cc90fcff66cdcb7e2", func := "metrolab/metrolablaw28.AllotFronts", spec := "allotFronts", unfollowed := true, recurses := true, apart := false, narrowed := true }
def AllotFrontsUptoSaid : Prop := allotFrontsUptoRow.holds Try.pinned (OpenSpec.upto allotFrontsSpec)

/-- 'metrolablaw28.AllotWorths', WHERE WHAT IT READS IS OF BULK AT MOST 1048576: true; the input reads as it did. -/
def allotWorthsUptoRow : OpenClaim := { program := "ytecmgjhnfgeldaa", sum := "12bf690d6693c01906d8c2f07e3bae535bf1e73e1cd4fc5cc90fcff66cdcb7e2", func := "metrolab/metrolablaw28.AllotWorths", spec := "allotWorths", unfollowed := true, recurses := true, apart := false, narrowed := true }
def AllotWorthsUptoSaid : Prop := allotWorthsUptoRow.holds Try.pinned (OpenSpec.upto allotWorthsSpec)

/-- 'metrolablaw28.AllotBounds', WHERE WHAT IT READS IS OF BULK AT MOST 1048576: true; the input reads as it did. -/
def allotBoundsUptoRow : OpenClaim := { program := "ytecmgjhnfgeldaa", sum := "12bf690d6693c01906d8c2f07e3bae535bf1e73e1cd4fc5cc90fcff66cdcb7e2", func := "metrolab/metrolablaw28.AllotBounds", spec := "allotBounds", unfollowed := true, recurses := true, apart := false, narrowed := true }
def AllotBoundsUptoSaid : Prop := allotBoundsUptoRow.holds Try.pinned (OpenSpec.upto allotBoundsSpec)

/-- 'metrolablaw28.AllotMeets', WHERE WHAT IT READS IS OF BULK AT MOST 1048576: true; the input reads as it did. -/
def allotMeetsUptoRow : OpenClaim := { program := "ytecmgjhnfgeldaa", sum := "12bf690d6693c01906d8c2f07e3bae535bf1e73e1cd4fc5cc90fcff66cdcb7e2", func := "metrolab/metrolablaw28.AllotMeets", spec := "allotMeets", unfollowed := true, recurses := true, apart := false, narrowed := true }
def AllotMeetsUptoSaid : Prop := allotMeetsUptoRow.holds Try.pinned (OpenSpec.upto allotMeetsSpec)

/-- 'metrolablaw28.AllotAdds', WHERE WHAT IT READS IS OF BULK AT MOST 1048576: true; the input reads as it did. -/
def allotAddsUptoRow : OpenClaim := { program := "ytecmgjhnfgeldaa", sum := "12bf690d6693c01906d8c2f07e3bae535bf1e73e1cd4fc5cc90fcff66cdcb7e2", func := "metrolab/metrolablaw28.AllotAdds", spec := "allotAdds", unfollowed := true, recurses := true, apart := false, narrowed := true }
def AllotAddsUptoSaid : Prop := allotAddsUptoRow.holds Try.pinned (OpenSpec.upto allotAddsSpec)

/-- 'metrolablaw28.AllotValues', WHERE WHAT IT READS IS OF BULK AT MOST 1048576: true; the input reads as it did. -/
def allotValuesUptoRow : OpenClaim := { program := "ytecmgjhnfgeldaa", sum := "12bf690d6693c01906d8c2f07e3bae535bf1e73e1cd4fc5cc90fcff66cdcb7e2", func := "metrolab/metrolablaw28.AllotValues", spec := "allotValues", unfollowed := true, recurses := true, apart := false, narrowed := true }
def AllotValuesUptoSaid : Prop := allotValuesUptoRow.holds Try.pinned (OpenSpec.upto allotValuesSpec)

/-- 'metrolablaw28.AllotImproves', WHERE WHAT IT READS IS OF BULK AT MOST 1048576: true; the input reads as it did. -/
def allotImprovesUptoRow : OpenClaim := { program := "ytecmgjhnfgeldaa", sum := "12bf690d6693c01906d8c2f07e3bae535bf1e73e1cd4fc5cc90fcff66cdcb7e2", func := "metrolab/metrolablaw28.AllotImproves", spec := "allotImproves", unfollowed := true, recurses := true, apart := false, narrowed := true }
def AllotImprovesUptoSaid : Prop := allotImprovesUptoRow.holds Try.pinned (OpenSpec.upto allotImprovesSpec)

end Rows
end Go.Proofs.Ytecmgjhnfgeldaa
