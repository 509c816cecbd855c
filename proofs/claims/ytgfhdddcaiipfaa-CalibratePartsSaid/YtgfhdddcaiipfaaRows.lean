/-
  No cell of these rows narrows 'for every input' (looked for: loops, veiled, ifaces, maps, wideKeys, modest, calm, conditions, laid).
  DERIVED. THE GIVEN ROWS OF THIS SEAT. 7 by the template 'for every input the law returns true; each argument reads behind the call as it read before'; 0 by the template 'total and deterministic' (their statements: YtgfhdddcaiipfaaTotals.lean).
  GIVEN WITH THE SEED: the statements are not yours to turn. If you find one false, say at which input.
  Laid BY PROGRAM, IN A SANDBOX (cutbox-rows.mjs): the forced cells as the released guide's own fill.sh prints them over the translation 736419af841ae383… (all of the seat's roots in one cut). By AI agents, Wed Nov 11 2026. No macro, syntax, notation, axiom, sorry.
-/
import Derived.Test.YtgfhdddcaiipfaaChecked
import GoSem.Claim
import GoSem.ClaimJoined
import GoSem.ClaimMapViews
import Derived.JoinedTies
import Derived.KernelRfl
namespace Go.Proofs.Ytgfhdddcaiipfaa
/- THE CELL 'sum', in the pinned program and in every row, IS THE sha256 OF THE DUMP (.gsa) THAT YtgfhdddcaiipfaaProg.lean LOADS. Nothing in Lean hashes anything: it is a label: what it is worth is what the hold of that sum in a sandbox is worth. -/
noncomputable def Try.pinned : Pinned := { name := "ytgfhdddcaiipfaa", sum := "736419af841ae383d9b58d0018d8dcbc6c2b1dfd3e545283fbb5f6cb49c8f5ed", checked := Try.checked }
namespace Rows
def none {H : Type} : Left H := { results := [], args := [] }

/-- 'metrolablaw52.CalibrateChains': WHATEVER THE INPUT: true; the input reads as it did. -/
def calibrateChainsSpec : ChangeSpec := { name := "calibrateChains", fn := fun _ => fun
  | [d1, d2, d3] => { results := [.lit (.bool true)], args := [d1, d2, d3] }
  | _ => none }
def calibrateChainsRow : OpenClaim := { program := "ytgfhdddcaiipfaa", sum := "736419af841ae383d9b58d0018d8dcbc6c2b1dfd3e545283fbb5f6cb49c8f5ed", func := "metrolab/metrolablaw52.CalibrateChains", spec := "calibrateChains", unfollowed := true, recurses := true, apart := false }
def CalibrateChainsSaid : Prop := calibrateChainsRow.holds Try.pinned (OpenSpec.ofChange calibrateChainsSpec)

/-- ITS FALSE NEIGHBOUR: 'it returns false'. Refute it at one input. -/
def calibrateChainsWrong : ChangeSpec := { name := "calibrateChains", fn := fun _ => fun
  | [d1, d2, d3] => { results := [.lit (.bool false)], args := [d1, d2, d3] }
  | _ => none }
def CalibrateChainsWrongFalsely : Prop := calibrateChainsRow.holds Try.pinned (OpenSpec.ofChange calibrateChainsWrong)

/-- 'metrolablaw52.CalibrateLists': WHATEVER THE INPUT: true; the input reads as it did. -/
def calibrateListsSpec : ChangeSpec := { name := "calibrateLists", fn := fun _ => fun
  | [d1, d2] => { results := [.lit (.bool true)], args := [d1, d2] }
  | _ => none }
def calibrateListsRow : OpenClaim := { program := "ytgfhdddcaiipfaa", sum := "736419af841ae383d9b58d0018d8dcbc6c2b1dfd3e545283fbb5f6cb49c8f5ed", func := "metrolab/metrolablaw52.CalibrateLists", spec := "calibrateLists", unfollowed := true, recurses := true, apart := false }
def CalibrateListsSaid : Prop := calibrateListsRow.holds Try.pinned (OpenSpec.ofChange calibrateListsSpec)

/-- ITS FALSE NEIGHBOUR: 'it returns false'. Refute it at one input. -/
def calibrateListsWrong : ChangeSpec := { name := "calibrateLists", fn := fun _ => fun
  | [d1, d2] => { results := [.lit (.bool false)], args := [d1, d2] }
  | _ => none }
def CalibrateListsWrongFalsely : Prop := calibrateListsRow.holds Try.pinned (OpenSpec.ofChange calibrateListsWrong)

/-- 'metrolablaw52.CalibrateJudges': WHATEVER THE INPUT: true; the input reads as it did. -/
def calibrateJudgesSpec : ChangeSpec := { name := "calibrateJudges", fn := fun _ => fun
  | [d1, d2, d3] => { results := [.lit (.bool true)], args := [d1, d2, d3] }
  | _ => none }
def calibrateJudgesRow : OpenClaim := { program := "ytgfhdddcaiipfaa", sum := "736419af841ae383d9b58d0018d8dcbc6c2b1dfd3e545283fbb5f6cb49c8f5ed", func := "metrolab/metrolablaw52.CalibrateJudges", spec := "calibrateJudges", unfollowed := true, recurses := true, apart := false }
def CalibrateJudgesSaid : Prop := calibrateJudgesRow.holds Try.pinned (OpenSpec.ofChange calibrateJudgesSpec)

/-- ITS FALSE NEIGHBOUR: 'it returns false'. Refute it at one input. -/
def calibrateJudgesWrong : ChangeSpec := { name := "calibrateJudges", fn := fun _ => fun
  | [d1, d2, d3] => { results := [.lit (.bool false)], args := [d1, d2, d3] }
  | _ => none }
def CalibrateJudgesWrongFalsely : Prop := calibrateJudgesRow.holds Try.pinned (OpenSpec.ofChange calibrateJudgesWrong)

/-- 'metrolablaw52.CalibrateBacks': WHATEVER THE INPUT: true; the input reads as it did. -/
def calibrateBacksSpec : ChangeSpec := { name := "calibrateBacks", fn := fun _ => fun
  | [d1, d2, d3] => { results := [.lit (.bool true)], args := [d1, d2, d3] }
  | _ => none }
def calibrateBacksRow : OpenClaim := { program := "ytgfhdddcaiipfaa", sum := "736419af841ae383d9b58d0018d8dcbc6c2b1dfd3e545283fbb5f6cb49c8f5ed", func := "metrolab/metrolablaw52.CalibrateBacks", spec := "calibrateBacks", unfollowed := true, recurses := true, apart := false }
def CalibrateBacksSaid : Prop := calibrateBacksRow.holds Try.pinned (OpenSpec.ofChange calibrateBacksSpec)

/-- ITS FALSE NEIGHBOUR: 'it returns false'. Refute it at one input. -/
def calibrateBacksWrong : ChangeSpec := { name := "calibrateBacks", fn := fun _ => fun
  | [d1, d2, d3] => { results := [.lit (.bool false)], args := [d1, d2, d3] }
  | _ => none }
def CalibrateBacksWrongFalsely : Prop := calibrateBacksRow.holds Try.pinned (OpenSpec.ofChange calibrateBacksWrong)

/-- 'metrolablaw52.CalibrateAdds': WHATEVER THE INPUT: true; the input reads as it did. -/
def calibrateAddsSpec : ChangeSpec := { name := "calibrateAdds", fn := fun _ => fun
  | [d1, d2] => { results := [.lit (.bool true)], args := [d1, d2] }
  | _ => none }
def calibrateAddsRow : OpenClaim := { program := "ytgfhdddcaiipfaa", sum := "736419af841ae383d9b58d0018d8dcbc6c2b1dfd3e545283fbb5f6cb49c8f5ed", func := "metrolab/metrolablaw52.CalibrateAdds", spec := "calibrateAdds", unfollowed := true, recurses := true, apart := false }
def CalibrateAddsSaid : Prop := calibrateAddsRow.holds Try.pinned (OpenSpec.ofChange calibrateAddsSpec)

/-- ITS FALSE NEIGHBOUR: 'it returns false'. Refute it at one input. -/
def calibrateAddsWrong : ChangeSpec := { name := "calibrateAdds", fn := fun _ => fun
  | [d1, d2] => { results := [.lit (.bool false)], args := [d1, d2] }
  | _ => none }
def CalibrateAddsWrongFalsely : Prop := calibrateAddsRow.holds Try.pinned (OpenSpec.ofChange calibrateAddsWrong)

/-- 'metrolablaw52.CalibrateWidens': WHATEVER THE INPUT: true; the input reads as it did. -/
def calibrateWidensSpec : ChangeSpec := { name := "calibrateWidens", fn := fun _ => fun
  | [d1, d2, d3] => { results := [.lit (.bool true)], args := [d1, d2, d3] }
  | _ => none }
def calibrateWidensRow : OpenClaim := { program := "ytgfhdddcaiipfaa", sum := "736419af841ae383d9b58d0018d8dcbc6c2b1dfd3e545283fbb5f6cb49c8f5ed", func := "metrolab/metrolablaw52.CalibrateWidens", spec := "calibrateWidens", unfollowed := true, recurses := true, apart := false }
def CalibrateWidensSaid : Prop := calibrateWidensRow.holds Try.pinned (OpenSpec.ofChange calibrateWidensSpec)

/-- ITS FALSE NEIGHBOUR: 'it returns false'. Refute it at one input. -/
def calibrateWidensWrong : ChangeSpec := { name := "calibrateWidens", fn := fun _ => fun
  | [d1, d2, d3] => { results := [.lit (.bool false)], args := [d1, d2, d3] }
  | _ => none }
def CalibrateWidensWrongFalsely : Prop := calibrateWidensRow.holds Try.pinned (OpenSpec.ofChange calibrateWidensWrong)

/-- 'metrolablaw52.CalibrateParts': WHATEVER THE INPUT: true; the input reads as it did. -/
def calibratePartsSpec : ChangeSpec := { name := "calibrateParts", fn := fun _ => fun
  | [d1, d2] => { results := [.lit (.bool true)], args := [d1, d2] }
  | _ => none }
def calibratePartsRow : OpenClaim := { program := "ytgfhdddcaiipfaa", sum := "736419af841ae383d9b58d0018d8dcbc6c2b1dfd3e545283fbb5f6cb49c8f5ed", func := "metrolab/metrolablaw52.CalibrateParts", spec := "calibrateParts", unfollowed := true, recurses := true, apart := false }
def CalibratePartsSaid : Prop := calibratePartsRow.holds Try.pinned (OpenSpec.ofChange calibratePartsSpec)

/-- ITS FALSE NEIGHBOUR: 'it returns false'. Refute it at one input. -/
def calibratePartsWrong : ChangeSpec := { name := "calibrateParts", fn := fun _ => fun
  | [d1, d2] => { results := [.lit (.bool false)], args := [d1, d2] }
  | _ => none }
def CalibratePartsWrongFalsely : Prop := calibratePartsRow.holds Try.pinned (OpenSpec.ofChange calibratePartsWrong)

/- THE SECOND FORM. 'bulk': how many values and letters a reading holds, each counted each time it is reached (what is shared counts as often as it is met; a slice's spare places count too). A statement '..UptoSaid' is the law's where the arguments, and the package variables that the reading takes, are together of bulk at most 1048576: NARROWER than '..Said'. Prove '..Said' where nothing that the law and all that it calls make is longer than what came in: it says more and counts as full. Else prove '..UptoSaid'. A law counts once. -/
mutual
def uptoBulk {H : Type} : DataW H → Nat
  | .lit (.string bytes) => bytes.length + 1
  | .lit _ => 1
  | .nil => 1
  | .ptr d => uptoBulk d + 1
  | .slice elems spare => uptoBulkAll elems + uptoBulkAll spare + 1
  | .agg parts => uptoBulkAll parts + 1
  | .iface _ d => uptoBulk d + 1
  | .map entries => uptoBulkEntries entries + 1
  | .held _ => 1
def uptoBulkAll {H : Type} : List (DataW H) → Nat
  | [] => 0
  | d :: r => uptoBulk d + uptoBulkAll r
def uptoBulkEntries {H : Type} : List (Lit × DataW H) → Nat
  | [] => 0
  | x :: r => uptoBulkEntry x + uptoBulkEntries r
def uptoBulkEntry {H : Type} : Lit × DataW H → Nat
  | (.string bytes, d) => bytes.length + uptoBulk d + 1
  | (_, d) => uptoBulk d + 1
 end
def uptoSmall : (H : Type) → List (DataW H) → Bool := fun _ ds => decide (uptoBulkAll ds ≤ 1048576)
def OpenSpec.upto (s : _root_.Go.ChangeSpec) : _root_.Go.OpenSpec := { _root_.Go.OpenSpec.ofChange s with cond := some uptoSmall }

/-- 'metrolablaw52.CalibrateChains', WHERE WHAT IT READS IS OF BULK AT MOST 1048576: true; the input reads as it did. -/
def calibrateChainsUptoRow : OpenClaim := { program := "ytgfhdddcaiipfaa", sum := "736419af841ae383d9b58d0018d8dcbc6c2b1dfd3e545283fbb5f6cb49c8f5ed", func := "metrolab/metrolablaw52.CalibrateChains", spec := "calibrateChains", unfollowed := true, recurses := true, apart := false, narrowed := true }
def CalibrateChainsUptoSaid : Prop := calibrateChainsUptoRow.holds Try.pinned (OpenSpec.upto calibrateChainsSpec)

/-- 'metrolablaw52.CalibrateLists', WHERE WHAT IT READS IS OF BULK AT MOST 1048576: true; the input reads as it did. -/
def calibrateListsUptoRow : OpenClaim := { program := "ytgfhdddcaiipfaa", sum := "736419af841ae383d9b58d0018d8dcbc6c2b1dfd3e545283fbb5f6cb49c8f5ed", func := "metrolab/metrolablaw52.CalibrateLists", spec := "calibrateLists", unfollowed := true, recurses := true, apart := false, narrowed := true }
def CalibrateListsUptoSaid : Prop := calibrateListsUptoRow.holds Try.pinned (OpenSpec.upto calibrateListsSpec)

/-- 'metrolablaw52.CalibrateJudges', WHERE WHAT IT READS IS OF BULK AT MOST 1048576: true; the input reads as it did. -/
def calibrateJudgesUptoRow : OpenClaim := { program := "ytgfhdddcaiipfaa", sum := "736419af841ae383d9b58d0018d8dcbc6c2b1dfd3e545283fbb5f6cb49c8f5ed", func := "metrolab/metrolablaw52.CalibrateJudges", spec := "calibrateJudges", unfollowed := true, recurses := true, apart := false, narrowed := true }
def CalibrateJudgesUptoSaid : Prop := calibrateJudgesUptoRow.holds Try.pinned (OpenSpec.upto calibrateJudgesSpec)

/-- 'metrolablaw52.CalibrateBacks', WHERE WHAT IT READS IS OF BULK AT MOST 1048576: true; the input reads as it did. -/
def calibrateBacksUptoRow : OpenClaim := { program := "ytgfhdddcaiipfaa", sum := "736419af841ae383d9b58d0018d8dcbc6c2b1dfd3e545283fbb5f6cb49c8f5ed", func := "metrolab/metrolablaw52.CalibrateBacks", spec := "calibrateBacks", unfollowed := true, recurses := true, apart := false, narrowed := true }
def CalibrateBacksUptoSaid : Prop := calibrateBacksUptoRow.holds Try.pinned (OpenSpec.upto calibrateBacksSpec)

/-- 'metrolablaw52.CalibrateAdds', WHERE WHAT IT READS IS OF BULK AT MOST 1048576: true; the input reads as it did. -/
def calibrateAddsUptoRow : OpenClaim := { program := "ytgfhdddcaiipfaa", sum := "736419af841ae383d9b58d0018d8dcbc6c2b1dfd3e545283fbb5f6cb49c8f5ed", func := "metrolab/metrolablaw52.CalibrateAdds", spec := "calibrateAdds", unfollowed := true, recurses := true, apart := false, narrowed := true }
def CalibrateAddsUptoSaid : Prop := calibrateAddsUptoRow.holds Try.pinned (OpenSpec.upto calibrateAddsSpec)

/-- 'metrolablaw52.CalibrateWidens', WHERE WHAT IT READS IS OF BULK AT MOST 1048576: true; the input reads as it did. -/
def calibrateWidensUptoRow : OpenClaim := { program := "ytgfhdddcaiipfaa", sum := "736419af841ae383d9b58d0018d8dcbc6c2b1dfd3e545283fbb5f6cb49c8f5ed", func := "metrolab/metrolablaw52.CalibrateWidens", spec := "calibrateWidens", unfollowed := true, recurses := true, apart := false, narrowed := true }
def CalibrateWidensUptoSaid : Prop := calibrateWidensUptoRow.holds Try.pinned (OpenSpec.upto calibrateWidensSpec)

/-- 'metrolablaw52.CalibrateParts', WHERE WHAT IT READS IS OF BULK AT MOST 1048576: true; the input reads as it did. -/
def calibratePartsUptoRow : OpenClaim := { program := "ytgfhdddcaiipfaa", sum := "736419af841ae383d9b58d0018d8dcbc6c2b1dfd3e545283fbb5f6cb49c8f5ed", func := "metrolab/metrolablaw52.CalibrateParts", spec := "calibrateParts", unfollowed := true, recurses := true, apart := false, narrowed := true }
def CalibratePartsUptoSaid : Prop := calibratePartsUptoRow.holds Try.pinned (OpenSpec.upto calibratePartsSpec)

end Rows
end Go.Proofs.Ytgfhdddcaiipfaa
