/-
  No cell of these rows narrows 'for every input' (looked for: loops, veiled, ifaces, maps, wideKeys, modest, calm, conditions, laid).
  DERIVED. THE GIVEN ROWS OF THIS SEAT. 8 by the template 'for every input the law returns true; each argument reads behind the call as it read before'; 0 by the template 'total and deterministic' (their statements: YtkaifjkalnoogaaTotals.lean).
  GIVEN WITH THE SEED: the statements are not yours to turn. If you find one false, say at which input.
  Laid BY PROGRAM, IN A SANDBOX (cutbox-rows.mjs): the forced cells as the released guide's own fill.sh prints them over the translation 0f31229c1aa2adab… (all of the seat's roots in one cut). By AI agents, Wed Nov 11 2026. No macro, syntax, notation, axiom, sorry.
-/
import Derived.Test.YtkaifjkalnoogaaChecked
import GoSem.Claim
import GoSem.ClaimJoined
import GoSem.ClaimMapViews
import Derived.JoinedTies
import Derived.KernelRfl
namespace Go.Proofs.Ytkaifjkalnoogaa
/- THE CELL 'sum', in the pinned program and in every row, IS THE sha256 OF THE DUMP (.gsa) THAT YtkaifjkalnoogaaProg.lean LOADS. Nothing in Lean hashes anything: it is a label: what it is worth is what the hold of that sum in a sandbox is worth. -/
noncomputable def Try.pinned : Pinned := { name := "ytkaifjkalnoogaa", sum := "0f31229c1aa2adabf3d42d8143eb83c70b1d516798f3eda5c7b4c4d6ac230294", checked := Try.checked }
namespace Rows
def none {H : Type} : Left H := { results := [], args := [] }

/-- 'metrolablaw17.DimensionNames': WHATEVER THE INPUT: true; the input reads as it did. -/
def dimensionNamesSpec : ChangeSpec := { name := "dimensionNames", fn := fun _ => fun
  | [d1, d2, d3] => { results := [.lit (.bool true)], args := [d1, d2, d3] }
  | _ => none }
def dimensionNamesRow : OpenClaim := { program := "ytkaifjkalnoogaa", sum := "0f31229c1aa2adabf3d42d8143eb83c70b1d516798f3eda5c7b4c4d6ac230294", func := "metrolab/metrolablaw17.DimensionNames", spec := "dimensionNames", unfollowed := true, recurses := true, apart := false }
def DimensionNamesSaid : Prop := dimensionNamesRow.holds Try.pinned (OpenSpec.ofChange dimensionNamesSpec)

/-- ITS FALSE NEIGHBOUR: 'it returns false'. Refute it at one input. -/
def dimensionNamesWrong : ChangeSpec := { name := "dimensionNames", fn := fun _ => fun
  | [d1, d2, d3] => { results := [.lit (.bool false)], args := [d1, d2, d3] }
  | _ => none }
def DimensionNamesWrongFalsely : Prop := dimensionNamesRow.holds Try.pinned (OpenSpec.ofChange dimensionNamesWrong)

/-- 'metrolablaw17.DimensionSums': WHATEVER THE INPUT: true; the input reads as it did. -/
def dimensionSumsSpec : ChangeSpec := { name := "dimensionSums", fn := fun _ => fun
  | [d1, d2] => { results := [.lit (.bool true)], args := [d1, d2] }
  | _ => none }
def dimensionSumsRow : OpenClaim := { program := "ytkaifjkalnoogaa", sum := "0f31229c1aa2adabf3d42d8143eb83c70b1d516798f3eda5c7b4c4d6ac230294", func := "metrolab/metrolablaw17.DimensionSums", spec := "dimensionSums", unfollowed := true, recurses := true, apart := false }
def DimensionSumsSaid : Prop := dimensionSumsRow.holds Try.pinned (OpenSpec.ofChange dimensionSumsSpec)

/-- ITS FALSE NEIGHBOUR: 'it returns false'. Refute it at one input. -/
def dimensionSumsWrong : ChangeSpec := { name := "dimensionSums", fn := fun _ => fun
  | [d1, d2] => { results := [.lit (.bool false)], args := [d1, d2] }
  | _ => none }
def DimensionSumsWrongFalsely : Prop := dimensionSumsRow.holds Try.pinned (OpenSpec.ofChange dimensionSumsWrong)

/-- 'metrolablaw17.DimensionJoins': WHATEVER THE INPUT: true; the input reads as it did. -/
def dimensionJoinsSpec : ChangeSpec := { name := "dimensionJoins", fn := fun _ => fun
  | [d1, d2] => { results := [.lit (.bool true)], args := [d1, d2] }
  | _ => none }
def dimensionJoinsRow : OpenClaim := { program := "ytkaifjkalnoogaa", sum := "0f31229c1aa2adabf3d42d8143eb83c70b1d516798f3eda5c7b4c4d6ac230294", func := "metrolab/metrolablaw17.DimensionJoins", spec := "dimensionJoins", unfollowed := true, recurses := true, apart := false }
def DimensionJoinsSaid : Prop := dimensionJoinsRow.holds Try.pinned (OpenSpec.ofChange dimensionJoinsSpec)

/-- ITS FALSE NEIGHBOUR: 'it returns false'. Refute it at one input. -/
def dimensionJoinsWrong : ChangeSpec := { name := "dimensionJoins", fn := fun _ => fun
  | [d1, d2] => { results := [.lit (.bool false)], args := [d1, d2] }
  | _ => none }
def DimensionJoinsWrongFalsely : Prop := dimensionJoinsRow.holds Try.pinned (OpenSpec.ofChange dimensionJoinsWrong)

/-- 'metrolablaw17.DimensionMeets': WHATEVER THE INPUT: true; the input reads as it did. -/
def dimensionMeetsSpec : ChangeSpec := { name := "dimensionMeets", fn := fun _ => fun
  | [d1, d2, d3] => { results := [.lit (.bool true)], args := [d1, d2, d3] }
  | _ => none }
def dimensionMeetsRow : OpenClaim := { program := "ytkaifjkalnoogaa", sum := "0f31229c1aa2adabf3d42d8143eb83c70b1d516798f3eda5c7b4c4d6ac230294", func := "metrolab/metrolablaw17.DimensionMeets", spec := "dimensionMeets", unfollowed := true, recurses := true, apart := false }
def DimensionMeetsSaid : Prop := dimensionMeetsRow.holds Try.pinned (OpenSpec.ofChange dimensionMeetsSpec)

/-- ITS FALSE NEIGHBOUR: 'it returns false'. Refute it at one input. -/
def dimensionMeetsWrong : ChangeSpec := { name := "dimensionMeets", fn := fun _ => fun
  | [d1, d2, d3] => { results := [.lit (.bool false)], args := [d1, d2, d3] }
  | _ => none }
def DimensionMeetsWrongFalsely : Prop := dimensionMeetsRow.holds Try.pinned (OpenSpec.ofChange dimensionMeetsWrong)

/-- 'metrolablaw17.DimensionAdds': WHATEVER THE INPUT: true; the input reads as it did. -/
def dimensionAddsSpec : ChangeSpec := { name := "dimensionAdds", fn := fun _ => fun
  | [d1, d2, d3] => { results := [.lit (.bool true)], args := [d1, d2, d3] }
  | _ => none }
def dimensionAddsRow : OpenClaim := { program := "ytkaifjkalnoogaa", sum := "0f31229c1aa2adabf3d42d8143eb83c70b1d516798f3eda5c7b4c4d6ac230294", func := "metrolab/metrolablaw17.DimensionAdds", spec := "dimensionAdds", unfollowed := true, recurses := true, apart := false }
def DimensionAddsSaid : Prop := dimensionAddsRow.holds Try.pinned (OpenSpec.ofChange dimensionAddsSpec)

/-- ITS FALSE NEIGHBOUR: 'it returns false'. Refute it at one input. -/
def dimensionAddsWrong : ChangeSpec := { name := "dimensionAdds", fn := fun _ => fun
  | [d1, d2, d3] => { results := [.lit (.bool false)], args := [d1, d2, d3] }
  | _ => none }
def DimensionAddsWrongFalsely : Prop := dimensionAddsRow.holds Try.pinned (OpenSpec.ofChange dimensionAddsWrong)

/-- 'metrolablaw17.DimensionHolds': WHATEVER THE INPUT: true; the input reads as it did. -/
def dimensionHoldsSpec : ChangeSpec := { name := "dimensionHolds", fn := fun _ => fun
  | [d1, d2, d3] => { results := [.lit (.bool true)], args := [d1, d2, d3] }
  | _ => none }
def dimensionHoldsRow : OpenClaim := { program := "ytkaifjkalnoogaa", sum := "0f31229c1aa2adabf3d42d8143eb83c70b1d516798f3eda5c7b4c4d6ac230294", func := "metrolab/metrolablaw17.DimensionHolds", spec := "dimensionHolds", unfollowed := true, recurses := true, apart := false }
def DimensionHoldsSaid : Prop := dimensionHoldsRow.holds Try.pinned (OpenSpec.ofChange dimensionHoldsSpec)

/-- ITS FALSE NEIGHBOUR: 'it returns false'. Refute it at one input. -/
def dimensionHoldsWrong : ChangeSpec := { name := "dimensionHolds", fn := fun _ => fun
  | [d1, d2, d3] => { results := [.lit (.bool false)], args := [d1, d2, d3] }
  | _ => none }
def DimensionHoldsWrongFalsely : Prop := dimensionHoldsRow.holds Try.pinned (OpenSpec.ofChange dimensionHoldsWrong)

/-- 'metrolablaw17.DimensionPaths': WHATEVER THE INPUT: true; the input reads as it did. -/
def dimensionPathsSpec : ChangeSpec := { name := "dimensionPaths", fn := fun _ => fun
  | [d] => { results := [.lit (.bool true)], args := [d] }
  | _ => none }
def dimensionPathsRow : OpenClaim := { program := "ytkaifjkalnoogaa", sum := "0f31229c1aa2adabf3d42d8143eb83c70b1d516798f3eda5c7b4c4d6ac230294", func := "metrolab/metrolablaw17.DimensionPaths", spec := "dimensionPaths", unfollowed := true, recurses := true, apart := false }
def DimensionPathsSaid : Prop := dimensionPathsRow.holds Try.pinned (OpenSpec.ofChange dimensionPathsSpec)

/-- ITS FALSE NEIGHBOUR: 'it returns false'. Refute it at one input. -/
def dimensionPathsWrong : ChangeSpec := { name := "dimensionPaths", fn := fun _ => fun
  | [d] => { results := [.lit (.bool false)], args := [d] }
  | _ => none }
def DimensionPathsWrongFalsely : Prop := dimensionPathsRow.holds Try.pinned (OpenSpec.ofChange dimensionPathsWrong)

/-- 'metrolablaw17.DimensionTurns': WHATEVER THE INPUT: true; the input reads as it did. -/
def dimensionTurnsSpec : ChangeSpec := { name := "dimensionTurns", fn := fun _ => fun
  | [d1, d2] => { results := [.lit (.bool true)], args := [d1, d2] }
  | _ => none }
def dimensionTurnsRow : OpenClaim := { program := "ytkaifjkalnoogaa", sum := "0f31229c1aa2adabf3d42d8143eb83c70b1d516798f3eda5c7b4c4d6ac230294", func := "metrolab/metrolablaw17.DimensionTurns", spec := "dimensionTurns", unfollowed := true, recurses := true, apart := false }
def DimensionTurnsSaid : Prop := dimensionTurnsRow.holds Try.pinned (OpenSpec.ofChange dimensionTurnsSpec)

/-- ITS FALSE NEIGHBOUR: 'it returns false'. Refute it at one input. -/
def dimensionTurnsWrong : ChangeSpec := { name := "dimensionTurns", fn := fun _ => fun
  | [d1, d2] => { results := [.lit (.bool false)], args := [d1, d2] }
  | _ => none }
def DimensionTurnsWrongFalsely : Prop := dimensionTurnsRow.holds Try.pinned (OpenSpec.ofChange dimensionTurnsWrong)

/- THE SECOND FORM. 'bulk': how many values and letters a reading holds, each counted each time it is reached (what is shared counts as often as it is met; a slice's spare places count too). A statement '..UptoSaid' is the law's where the arguments, and the package variables that the reading takes, are together of bulk at most 1048576: NARROWER than '..Said'. Prove '..Said' where nothing that the law and all that it calls make is longer than what came in: it says more and counts as full. Else prove '..UptoSaid'. A law counts once. -/
mutual
def uptoBulk {H : Type} : DataW H → Nat
  | .lit (.string bytes) => bytes.length + 1
  | .lit _ => 1
  | .nil => 1
  | .ptr d => uptoBulk d + 1
  | .slice elems spare => uptoBulkAll elems + uptoBulkAll spare + 1
  | .agg parts => uptoBulkAll parts + 1
  | .iface _ d => uptoBulk d + 1
  | .map entries => uptoBulkEntries entries + 1
  | .held _ => 1
def uptoBulkAll {H : Type} : List (DataW H) → Nat
  | [] => 0
  | d :: r => uptoBulk d + uptoBulkAll r
def uptoBulkEntries {H : Type} : List (Lit × DataW H) → Nat
  | [] => 0
  | x :: r => uptoBulkEntry x + uptoBulkEntries r
def uptoBulkEntry {H : Type} : Lit × DataW H → Nat
  | (.string bytes, d) => bytes.length + uptoBulk d + 1
  | (_, d) => uptoBulk d + 1
 end
def uptoSmall : (H : Type) → List (DataW H) → Bool := fun _ ds => decide (uptoBulkAll ds ≤ 1048576)
def OpenSpec.upto (s : _root_.Go.ChangeSpec) : _root_.Go.OpenSpec := { _root_.Go.OpenSpec.ofChange s with cond := some uptoSmall }

/-- 'metrolablaw17.DimensionNames', WHERE WHAT IT READS IS OF BULK AT MOST 1048576: true; the input reads as it did. -/
def dimensionNamesUptoRow : OpenClaim := { program := "ytkaifjkalnoogaa", sum := "0f31229c1aa2adabf3d42d8143eb83c70b1d516798f3eda5c7b4c4d6ac230294", func := "metrolab/metrolablaw17.DimensionNames", spec := "dimensionNames", unfollowed := true, recurses := true, apart := false, narrowed := true }
def DimensionNamesUptoSaid : Prop := dimensionNamesUptoRow.holds Try.pinned (OpenSpec.upto dimensionNamesSpec)

/-- 'metrolablaw17.DimensionSums', WHERE WHAT IT READS IS OF BULK AT MOST 1048576: true; the input reads as it did. -/
def dimensionSumsUptoRow : OpenClaim := { program := "ytkaifjkalnoogaa", sum := "0f31229c1aa2adabf3d42d8143eb83c70b1d516798f3eda5c7b4c4d6ac230294", func := "metrolab/metrolablaw17.DimensionSums", spec := "dimensionSums", unfollowed := true, recurses := true, apart := false, narrowed := true }
def DimensionSumsUptoSaid : Prop := dimensionSumsUptoRow.holds Try.pinned (OpenSpec.upto dimensionSumsSpec)

/-- 'metrolablaw17.DimensionJoins', WHERE WHAT IT READS IS OF BULK AT MOST 1048576: true; the input reads as it did. -/
def dimensionJoinsUptoRow : OpenClaim := { program := "ytkaifjkalnoogaa", sum := "0f31229c1aa2adabf3d42d8143eb83c70b1d516798f3eda5c7b4c4d6ac230294", func := "metrolab/metrolablaw17.DimensionJoins", spec := "dimensionJoins", unfollowed := true, recurses := true, apart := false, narrowed := true }
def DimensionJoinsUptoSaid : Prop := dimensionJoinsUptoRow.holds Try.pinned (OpenSpec.upto dimensionJoinsSpec)

/-- 'metrolablaw17.DimensionMeets', WHERE WHAT IT READS IS OF BULK AT MOST 1048576: true; the input reads as it did. -/
def dimensionMeetsUptoRow : OpenClaim := { program := "ytkaifjkalnoogaa", sum := "0f31229c1aa2adabf3d42d8143eb83c70b1d516798f3eda5c7b4c4d6ac230294", func := "metrolab/metrolablaw17.DimensionMeets", spec := "dimensionMeets", unfollowed := true, recurses := true, apart := false, narrowed := true }
def DimensionMeetsUptoSaid : Prop := dimensionMeetsUptoRow.holds Try.pinned (OpenSpec.upto dimensionMeetsSpec)

/-- 'metrolablaw17.DimensionAdds', WHERE WHAT IT READS IS OF BULK AT MOST 1048576: true; the input reads as it did. -/
def dimensionAddsUptoRow : OpenClaim := { program := "ytkaifjkalnoogaa", sum := "0f31229c1aa2adabf3d42d8143eb83c70b1d516798f3eda5c7b4c4d6ac230294", func := "metrolab/metrolablaw17.DimensionAdds", spec := "dimensionAdds", unfollowed := true, recurses := true, apart := false, narrowed := true }
def DimensionAddsUptoSaid : Prop := dimensionAddsUptoRow.holds Try.pinned (OpenSpec.upto dimensionAddsSpec)

/-- 'metrolablaw17.DimensionHolds', WHERE WHAT IT READS IS OF BULK AT MOST 1048576: true; the input reads as it did. -/
def dimensionHoldsUptoRow : OpenClaim := { program := "ytkaifjkalnoogaa", sum := "0f31229c1aa2adabf3d42d8143eb83c70b1d516798f3eda5c7b4c4d6ac230294", func := "metrolab/metrolablaw17.DimensionHolds", spec := "dimensionHolds", unfollowed := true, recurses := true, apart := false, narrowed := true }
def DimensionHoldsUptoSaid : Prop := dimensionHoldsUptoRow.holds Try.pinned (OpenSpec.upto dimensionHoldsSpec)

/-- 'metrolablaw17.DimensionPaths', WHERE WHAT IT READS IS OF BULK AT MOST 1048576: true; the input reads as it did. -/
def dimensionPathsUptoRow : OpenClaim := { program := "ytkaifjkalnoogaa", sum := "0f31229c1aa2adabf3d42d8143eb83c70b1d516798f3eda5c7b4c4d6ac230294", func := "metrolab/metrolablaw17.DimensionPaths", spec := "dimensionPaths", unfollowed := true, recurses := true, apart := false, narrowed := true }
def DimensionPathsUptoSaid : Prop := dimensionPathsUptoRow.holds Try.pinned (OpenSpec.upto dimensionPathsSpec)

/-- 'metrolablaw17.DimensionTurns', WHERE WHAT IT READS IS OF BULK AT MOST 1048576: true; the input reads as it did. -/
def dimensionTurnsUptoRow : OpenClaim := { program := "ytkaifjkalnoogaa", sum := "0f31229c1aa2adabf3d42d8143eb83c70b1d516798f3eda5c7b4c4d6ac230294", func := "metrolab/metrolablaw17.DimensionTurns", spec := "dimensionTurns", unfollowed := true, recurses := true, apart := false, narrowed := true }
def DimensionTurnsUptoSaid : Prop := dimensionTurnsUptoRow.holds Try.pinned (OpenSpec.upto dimensionTurnsSpec)

end Rows
end Go.Proofs.Ytkaifjkalnoogaa
