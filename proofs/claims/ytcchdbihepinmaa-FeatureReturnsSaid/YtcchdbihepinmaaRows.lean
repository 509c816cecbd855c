/-
  No cell of these rows narrows 'for every input' (looked for: loops, veiled, ifaces, maps, wideKeys, modest, calm, conditions, laid).
  DERIVED. THE GIVEN ROWS OF THIS SEAT. 7 by the template 'for every input the law returns true; each argument reads behind the call as it read before'; 0 by the template 'total and deterministic' (their statements: YtcchdbihepinmaaTotals.lean).
  GIVEN WITH THE SEED: the statements are not yours to turn. If you find one false, say at which input.
  Laid BY PROGRAM, IN A SANDBOX (cutbox-rows.mjs): the forced cells as the released guide's own fill.sh prints them over the translation 5f51e24b4ed61ecd… (all of the seat's roots in one cut). By AI agents, Wed Nov 11 2026. No macro, syntax, notation, axiom, sorry.
-/
import Derived.Test.YtcchdbihepinmaaChecked
import GoSem.Claim
import GoSem.ClaimJoined
import GoSem.ClaimMapViews
import Derived.JoinedTies
import Derived.KernelRfl
namespace Go.Proofs.Ytcchdbihepinmaa
/- THE CELL 'sum', in the pinned program and in every row, IS THE sha256 OF THE DUMP (.gsa) THAT YtcchdbihepinmaaProg.lean LOADS. Nothing in Lean hashes anything: it is a label: what it is worth is what the hold of that sum in a sandbox is worth. -/
noncomputable def Try.pinned : Pinned := { name := "ytcchdbihepinmaa", sum := "5f51e24b4ed61ecd9fb5fa63978fbbf36ba39010684ed1c02a725db58806943b", checked := Try.checked }
namespace Rows
def none {H : Type} : Left H := { results := [], args := [] }

/-- 'metrolablaw18.FeatureReaches': WHATEVER THE INPUT: true; the input reads as it did. -/
def featureReachesSpec : ChangeSpec := { name := "featureReaches", fn := fun _ => fun
  | [d1, d2, d3] => { results := [.lit (.bool true)], args := [d1, d2, d3] }
  | _ => none }
def featureReachesRow : OpenClaim := { program := "ytcchdbihepinmaa", sum := "5f51e24b4ed61ecd9fb5fa63978fbbf36ba39010684ed1c02a725db58806943b", func := "metrolab/metrolablaw18.FeatureReaches", spec := "featureReaches", unfollowed := true, recurses := true, apart := false }
def FeatureReachesSaid : Prop := featureReachesRow.holds Try.pinned (OpenSpec.ofChange featureReachesSpec)

/-- ITS FALSE NEIGHBOUR: 'it returns false'. Refute it at one input. -/
def featureReachesWrong : ChangeSpec := { name := "featureReaches", fn := fun _ => fun
  | [d1, d2, d3] => { results := [.lit (.bool false)], args := [d1, d2, d3] }
  | _ => none }
def FeatureReachesWrongFalsely : Prop := featureReachesRow.holds Try.pinned (OpenSpec.ofChange featureReachesWrong)

/-- 'metrolablaw18.FeatureChecks': WHATEVER THE INPUT: true; the input reads as it did. -/
def featureChecksSpec : ChangeSpec := { name := "featureChecks", fn := fun _ => fun
  | [d] => { results := [.lit (.bool true)], args := [d] }
  | _ => none }
def featureChecksRow : OpenClaim := { program := "ytcchdbihepinmaa", sum := "5f51e24b4ed61ecd9fb5fa63978fbbf36ba39010684ed1c02a725db58806943b", func := "metrolab/metrolablaw18.FeatureChecks", spec := "featureChecks", unfollowed := true, recurses := true, apart := false }
def FeatureChecksSaid : Prop := featureChecksRow.holds Try.pinned (OpenSpec.ofChange featureChecksSpec)

/-- ITS FALSE NEIGHBOUR: 'it returns false'. Refute it at one input. -/
def featureChecksWrong : ChangeSpec := { name := "featureChecks", fn := fun _ => fun
  | [d] => { results := [.lit (.bool false)], args := [d] }
  | _ => none }
def FeatureChecksWrongFalsely : Prop := featureChecksRow.holds Try.pinned (OpenSpec.ofChange featureChecksWrong)

/-- 'metrolablaw18.FeatureEnds': WHATEVER THE INPUT: true; the input reads as it did. -/
def featureEndsSpec : ChangeSpec := { name := "featureEnds", fn := fun _ => fun
  | [d] => { results := [.lit (.bool true)], args := [d] }
  | _ => none }
def featureEndsRow : OpenClaim := { program := "ytcchdbihepinmaa", sum := "5f51e24b4ed61ecd9fb5fa63978fbbf36ba39010684ed1c02a725db58806943b", func := "metrolab/metrolablaw18.FeatureEnds", spec := "featureEnds", unfollowed := true, recurses := true, apart := false }
def FeatureEndsSaid : Prop := featureEndsRow.holds Try.pinned (OpenSpec.ofChange featureEndsSpec)

/-- ITS FALSE NEIGHBOUR: 'it returns false'. Refute it at one input. -/
def featureEndsWrong : ChangeSpec := { name := "featureEnds", fn := fun _ => fun
  | [d] => { results := [.lit (.bool false)], args := [d] }
  | _ => none }
def FeatureEndsWrongFalsely : Prop := featureEndsRow.holds Try.pinned (OpenSpec.ofChange featureEndsWrong)

/-- 'metrolablaw18.FeatureKeeps': WHATEVER THE INPUT: true; the input reads as it did. -/
def featureKeepsSpec : ChangeSpec := { name := "featureKeeps", fn := fun _ => fun
  | [d1, d2, d3] => { results := [.lit (.bool true)], args := [d1, d2, d3] }
  | _ => none }
def featureKeepsRow : OpenClaim := { program := "ytcchdbihepinmaa", sum := "5f51e24b4ed61ecd9fb5fa63978fbbf36ba39010684ed1c02a725db58806943b", func := "metrolab/metrolablaw18.FeatureKeeps", spec := "featureKeeps", unfollowed := true, recurses := true, apart := false }
def FeatureKeepsSaid : Prop := featureKeepsRow.holds Try.pinned (OpenSpec.ofChange featureKeepsSpec)

/-- ITS FALSE NEIGHBOUR: 'it returns false'. Refute it at one input. -/
def featureKeepsWrong : ChangeSpec := { name := "featureKeeps", fn := fun _ => fun
  | [d1, d2, d3] => { results := [.lit (.bool false)], args := [d1, d2, d3] }
  | _ => none }
def FeatureKeepsWrongFalsely : Prop := featureKeepsRow.holds Try.pinned (OpenSpec.ofChange featureKeepsWrong)

/-- 'metrolablaw18.FeatureCompares': WHATEVER THE INPUT: true; the input reads as it did. -/
def featureComparesSpec : ChangeSpec := { name := "featureCompares", fn := fun _ => fun
  | [d1, d2] => { results := [.lit (.bool true)], args := [d1, d2] }
  | _ => none }
def featureComparesRow : OpenClaim := { program := "ytcchdbihepinmaa", sum := "5f51e24b4ed61ecd9fb5fa63978fbbf36ba39010684ed1c02a725db58806943b", func := "metrolab/metrolablaw18.FeatureCompares", spec := "featureCompares", unfollowed := true, recurses := true, apart := false }
def FeatureComparesSaid : Prop := featureComparesRow.holds Try.pinned (OpenSpec.ofChange featureComparesSpec)

/-- ITS FALSE NEIGHBOUR: 'it returns false'. Refute it at one input. -/
def featureComparesWrong : ChangeSpec := { name := "featureCompares", fn := fun _ => fun
  | [d1, d2] => { results := [.lit (.bool false)], args := [d1, d2] }
  | _ => none }
def FeatureComparesWrongFalsely : Prop := featureComparesRow.holds Try.pinned (OpenSpec.ofChange featureComparesWrong)

/-- 'metrolablaw18.FeatureMoves': WHATEVER THE INPUT: true; the input reads as it did. -/
def featureMovesSpec : ChangeSpec := { name := "featureMoves", fn := fun _ => fun
  | [d1, d2, d3] => { results := [.lit (.bool true)], args := [d1, d2, d3] }
  | _ => none }
def featureMovesRow : OpenClaim := { program := "ytcchdbihepinmaa", sum := "5f51e24b4ed61ecd9fb5fa63978fbbf36ba39010684ed1c02a725db58806943b", func := "metrolab/metrolablaw18.FeatureMoves", spec := "featureMoves", unfollowed := true, recurses := true, apart := false }
def FeatureMovesSaid : Prop := featureMovesRow.holds Try.pinned (OpenSpec.ofChange featureMovesSpec)

/-- ITS FALSE NEIGHBOUR: 'it returns false'. Refute it at one input. -/
def featureMovesWrong : ChangeSpec := { name := "featureMoves", fn := fun _ => fun
  | [d1, d2, d3] => { results := [.lit (.bool false)], args := [d1, d2, d3] }
  | _ => none }
def FeatureMovesWrongFalsely : Prop := featureMovesRow.holds Try.pinned (OpenSpec.ofChange featureMovesWrong)

/-- 'metrolablaw18.FeatureReturns': WHATEVER THE INPUT: true; the input reads as it did. -/
def featureReturnsSpec : ChangeSpec := { name := "featureReturns", fn := fun _ => fun
  | [d1, d2, d3] => { results := [.lit (.bool true)], args := [d1, d2, d3] }
  | _ => none }
def featureReturnsRow : OpenClaim := { program := "ytcchdbihepinmaa", sum := "5f51e24b4ed61ecd9fb5fa63978fbbf36ba39010684ed1c02a725db58806943b", func := "metrolab/metrolablaw18.FeatureReturns", spec := "featureReturns", unfollowed := true, recurses := true, apart := false }
def FeatureReturnsSaid : Prop := featureReturnsRow.holds Try.pinned (OpenSpec.ofChange featureReturnsSpec)

/-- ITS FALSE NEIGHBOUR: 'it returns false'. Refute it at one input. -/
def featureReturnsWrong : ChangeSpec := { name := "featureReturns", fn := fun _ => fun
  | [d1, d2, d3] => { results := [.lit (.bool false)], args := [d1, d2, d3] }
  | _ => none }
def FeatureReturnsWrongFalsely : Prop := featureReturnsRow.holds Try.pinned (OpenSpec.ofChange featureReturnsWrong)

/- THE SECOND FORM. 'bulk': how many values and letters a reading holds, each counted each time it is reached (what is shared counts as often as it is met; a slice's spare places count too). A statement '..UptoSaid' is the law's where the arguments, and the package variables that the reading takes, are together of bulk at most 1048576: NARROWER than '..Said'. Prove '..Said' where nothing that the law and all that it calls make is longer than what came in: it says more and counts as full. Else prove '..UptoSaid'. A law counts once. -/
mutual
def uptoBulk {H : Type} : DataW H → Nat
  | .lit (.string bytes) => bytes.length + 1
  | .lit _ => 1
  | .nil => 1
  | .ptr d => uptoBulk d + 1
  | .slice elems spare => uptoBulkAll elems + uptoBulkAll spare + 1
  | .agg parts => uptoBulkAll parts + 1
  | .iface _ d => uptoBulk d + 1
  | .map entries => uptoBulkEntries entries + 1
  | .held _ => 1
def uptoBulkAll {H : Type} : List (DataW H) → Nat
  | [] => 0
  | d :: r => uptoBulk d + uptoBulkAll r
def uptoBulkEntries {H : Type} : List (Lit × DataW H) → Nat
  | [] => 0
  | x :: r => uptoBulkEntry x + uptoBulkEntries r
def uptoBulkEntry {H : Type} : Lit × DataW H → Nat
  | (.string bytes, d) => bytes.length + uptoBulk d + 1
  | (_, d) => uptoBulk d + 1
 end
def uptoSmall : (H : Type) → List (DataW H) → Bool := fun _ ds => decide (uptoBulkAll ds ≤ 1048576)
def OpenSpec.upto (s : _root_.Go.ChangeSpec) : _root_.Go.OpenSpec := { _root_.Go.OpenSpec.ofChange s with cond := some uptoSmall }

/-- 'metrolablaw18.FeatureReaches', WHERE WHAT IT READS IS OF BULK AT MOST 1048576: true; the input reads as it did. -/
def featureReachesUptoRow : OpenClaim := { program := "ytcchdbihepinmaa", sum := "5f51e24b4ed61ecd9fb5fa63978fbbf36ba39010684ed1c02a725db58806943b", func := "metrolab/metrolablaw18.FeatureReaches", spec := "featureReaches", unfollowed := true, recurses := true, apart := false, narrowed := true }
def FeatureReachesUptoSaid : Prop := featureReachesUptoRow.holds Try.pinned (OpenSpec.upto featureReachesSpec)

/-- 'metrolablaw18.FeatureChecks', WHERE WHAT IT READS IS OF BULK AT MOST 1048576: true; the input reads as it did. -/
def featureChecksUptoRow : OpenClaim := { program := "ytcchdbihepinmaa", sum := "5f51e24b4ed61ecd9fb5fa63978fbbf36ba39010684ed1c02a725db58806943b", func := "metrolab/metrolablaw18.FeatureChecks", spec := "featureChecks", unfollowed := true, recurses := true, apart := false, narrowed := true }
def FeatureChecksUptoSaid : Prop := featureChecksUptoRow.holds Try.pinned (OpenSpec.upto featureChecksSpec)

/-- 'metrolablaw18.FeatureEnds', WHERE WHAT IT READS IS OF BULK AT MOST 1048576: true; the input reads as it did. -/
def featureEndsUptoRow : OpenClaim := { program := "ytcchdbihepinmaa", sum := "5f51e24b4ed61ecd9fb5fa63978fbbf36ba39010684ed1c02a725db58806943b", func := "metrolab/metrolablaw18.FeatureEnds", spec := "featureEnds", unfollowed := true, recurses := true, apart := false, narrowed := true }
def FeatureEndsUptoSaid : Prop := featureEndsUptoRow.holds Try.pinned (OpenSpec.upto featureEndsSpec)

/-- 'metrolablaw18.FeatureKeeps', WHERE WHAT IT READS IS OF BULK AT MOST 1048576: true; the input reads as it did. -/
def featureKeepsUptoRow : OpenClaim := { program := "ytcchdbihepinmaa", sum := "5f51e24b4ed61ecd9fb5fa63978fbbf36ba39010684ed1c02a725db58806943b", func := "metrolab/metrolablaw18.FeatureKeeps", spec := "featureKeeps", unfollowed := true, recurses := true, apart := false, narrowed := true }
def FeatureKeepsUptoSaid : Prop := featureKeepsUptoRow.holds Try.pinned (OpenSpec.upto featureKeepsSpec)

/-- 'metrolablaw18.FeatureCompares', WHERE WHAT IT READS IS OF BULK AT MOST 1048576: true; the input reads as it did. -/
def featureComparesUptoRow : OpenClaim := { program := "ytcchdbihepinmaa", sum := "5f51e24b4ed61ecd9fb5fa63978fbbf36ba39010684ed1c02a725db58806943b", func := "metrolab/metrolablaw18.FeatureCompares", spec := "featureCompares", unfollowed := true, recurses := true, apart := false, narrowed := true }
def FeatureComparesUptoSaid : Prop := featureComparesUptoRow.holds Try.pinned (OpenSpec.upto featureComparesSpec)

/-- 'metrolablaw18.FeatureMoves', WHERE WHAT IT READS IS OF BULK AT MOST 1048576: true; the input reads as it did. -/
def featureMovesUptoRow : OpenClaim := { program := "ytcchdbihepinmaa", sum := "5f51e24b4ed61ecd9fb5fa63978fbbf36ba39010684ed1c02a725db58806943b", func := "metrolab/metrolablaw18.FeatureMoves", spec := "featureMoves", unfollowed := true, recurses := true, apart := false, narrowed := true }
def FeatureMovesUptoSaid : Prop := featureMovesUptoRow.holds Try.pinned (OpenSpec.upto featureMovesSpec)

/-- 'metrolablaw18.FeatureReturns', WHERE WHAT IT READS IS OF BULK AT MOST 1048576: true; the input reads as it did. -/
def featureReturnsUptoRow : OpenClaim := { program := "ytcchdbihepinmaa", sum := "5f51e24b4ed61ecd9fb5fa63978fbbf36ba39010684ed1c02a725db58806943b", func := "metrolab/metrolablaw18.FeatureReturns", spec := "featureReturns", unfollowed := true, recurses := true, apart := false, narrowed := true }
def FeatureReturnsUptoSaid : Prop := featureReturnsUptoRow.holds Try.pinned (OpenSpec.upto featureReturnsSpec)

end Rows
end Go.Proofs.Ytcchdbihepinmaa
