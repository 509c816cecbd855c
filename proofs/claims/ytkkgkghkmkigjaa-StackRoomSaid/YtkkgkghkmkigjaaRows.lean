/-
  No cell of these rows narrows 'for every input' (looked for: loops, veiled, ifaces, maps, wideKeys, modest, calm, conditions, laid).
  DERIVED. THE GIVEN ROWS OF THIS SEAT. 8 by the template 'for every input the law returns true; each argument reads behind the call as it read before'; 0 by the template 'total and deterministic' (their statements: YtkkgkghkmkigjaaTotals.lean).
  GIVEN WITH THE SEED: the statements are not yours to turn. If you find one false, say at which input.
  Laid BY PROGRAM, IN A SANDBOX (cutbox-rows.mjs): the forced cells as the released guide's own fill.sh prints them over the translation 2d36d20ce83f1262… (all of the seat's roots in one cut). By AI agents, Wed Nov 11 2026. No macro, syntax, notation, axiom, sorry.
-/
import Derived.Test.YtkkgkghkmkigjaaChecked
import GoSem.Claim
import GoSem.ClaimJoined
import GoSem.ClaimMapViews
import Derived.JoinedTies
import Derived.KernelRfl
namespace Go.Proofs.Ytkkgkghkmkigjaa
/- THE CELL 'sum', in the pinned program and in every row, IS THE sha256 OF THE DUMP (.gsa) THAT YtkkgkghkmkigjaaProg.lean LOADS. Nothing in Lean hashes anything: it is a label: what it is worth is what the hold of that sum in a sandbox is worth. -/
noncomputable def Try.pinned : Pinned := { name := "ytkkgkghkmkigjaa", sum := "2d36d20ce83f126210baf9b4db524796ea6462a55588cb8dd5943e31f6f6fdd3", checked := Try.checked }
namespace Rows
def none {H : Type} : Left H := { results := [], args := [] }

/-- 'metrolablaw25.StackParts': WHATEVER THE INPUT: true; the input reads as it did. -/
def stackPartsSpec : ChangeSpec := { name := "stackParts", fn := fun _ => fun
  | [d1, d2] => { results := [.lit (.bool true)], args := [d1, d2] }
  | _ => none }
def stackPartsRow : OpenClaim := { program := "ytkkgkghkmkigjaa", sum := "2d36d20ce83f126210baf9b4db524796ea6462a55588cb8dd5943e31f6f6fdd3", func := "metrolab/metrolablaw25.StackParts", spec := "stackParts", unfollowed := true, recurses := true, apart := false }
def StackPartsSaid : Prop := stackPartsRow.holds Try.pinned (OpenSpec.ofChange stackPartsSpec)

/-- ITS FALSE NEIGHBOUR: 'it returns false'. Refute it at one input. -/
def stackPartsWrong : ChangeSpec := { name := "stackParts", fn := fun _ => fun
  | [d1, d2] => { results := [.lit (.bool false)], args := [d1, d2] }
  | _ => none }
def StackPartsWrongFalsely : Prop := stackPartsRow.holds Try.pinned (OpenSpec.ofChange stackPartsWrong)

/-- 'metrolablaw25.StackRooms': WHATEVER THE INPUT: true; the input reads as it did. -/
def stackRoomsSpec : ChangeSpec := { name := "stackRooms", fn := fun _ => fun
  | [d1, d2] => { results := [.lit (.bool true)], args := [d1, d2] }
  | _ => none }
def stackRoomsRow : OpenClaim := { program := "ytkkgkghkmkigjaa", sum := "2d36d20ce83f126210baf9b4db524796ea6462a55588cb8dd5943e31f6f6fdd3", func := "metrolab/metrolablaw25.StackRooms", spec := "stackRooms", unfollowed := true, recurses := true, apart := false }
def StackRoomsSaid : Prop := stackRoomsRow.holds Try.pinned (OpenSpec.ofChange stackRoomsSpec)

/-- ITS FALSE NEIGHBOUR: 'it returns false'. Refute it at one input. -/
def stackRoomsWrong : ChangeSpec := { name := "stackRooms", fn := fun _ => fun
  | [d1, d2] => { results := [.lit (.bool false)], args := [d1, d2] }
  | _ => none }
def StackRoomsWrongFalsely : Prop := stackRoomsRow.holds Try.pinned (OpenSpec.ofChange stackRoomsWrong)

/-- 'metrolablaw25.StackWidens': WHATEVER THE INPUT: true; the input reads as it did. -/
def stackWidensSpec : ChangeSpec := { name := "stackWidens", fn := fun _ => fun
  | [d1, d2, d3] => { results := [.lit (.bool true)], args := [d1, d2, d3] }
  | _ => none }
def stackWidensRow : OpenClaim := { program := "ytkkgkghkmkigjaa", sum := "2d36d20ce83f126210baf9b4db524796ea6462a55588cb8dd5943e31f6f6fdd3", func := "metrolab/metrolablaw25.StackWidens", spec := "stackWidens", unfollowed := true, recurses := true, apart := false }
def StackWidensSaid : Prop := stackWidensRow.holds Try.pinned (OpenSpec.ofChange stackWidensSpec)

/-- ITS FALSE NEIGHBOUR: 'it returns false'. Refute it at one input. -/
def stackWidensWrong : ChangeSpec := { name := "stackWidens", fn := fun _ => fun
  | [d1, d2, d3] => { results := [.lit (.bool false)], args := [d1, d2, d3] }
  | _ => none }
def StackWidensWrongFalsely : Prop := stackWidensRow.holds Try.pinned (OpenSpec.ofChange stackWidensWrong)

/-- 'metrolablaw25.StackLimits': WHATEVER THE INPUT: true; the input reads as it did. -/
def stackLimitsSpec : ChangeSpec := { name := "stackLimits", fn := fun _ => fun
  | [d1, d2] => { results := [.lit (.bool true)], args := [d1, d2] }
  | _ => none }
def stackLimitsRow : OpenClaim := { program := "ytkkgkghkmkigjaa", sum := "2d36d20ce83f126210baf9b4db524796ea6462a55588cb8dd5943e31f6f6fdd3", func := "metrolab/metrolablaw25.StackLimits", spec := "stackLimits", unfollowed := true, recurses := true, apart := false }
def StackLimitsSaid : Prop := stackLimitsRow.holds Try.pinned (OpenSpec.ofChange stackLimitsSpec)

/-- ITS FALSE NEIGHBOUR: 'it returns false'. Refute it at one input. -/
def stackLimitsWrong : ChangeSpec := { name := "stackLimits", fn := fun _ => fun
  | [d1, d2] => { results := [.lit (.bool false)], args := [d1, d2] }
  | _ => none }
def StackLimitsWrongFalsely : Prop := stackLimitsRow.holds Try.pinned (OpenSpec.ofChange stackLimitsWrong)

/-- 'metrolablaw25.StackKeeps': WHATEVER THE INPUT: true; the input reads as it did. -/
def stackKeepsSpec : ChangeSpec := { name := "stackKeeps", fn := fun _ => fun
  | [d] => { results := [.lit (.bool true)], args := [d] }
  | _ => none }
def stackKeepsRow : OpenClaim := { program := "ytkkgkghkmkigjaa", sum := "2d36d20ce83f126210baf9b4db524796ea6462a55588cb8dd5943e31f6f6fdd3", func := "metrolab/metrolablaw25.StackKeeps", spec := "stackKeeps", unfollowed := true, recurses := true, apart := false }
def StackKeepsSaid : Prop := stackKeepsRow.holds Try.pinned (OpenSpec.ofChange stackKeepsSpec)

/-- ITS FALSE NEIGHBOUR: 'it returns false'. Refute it at one input. -/
def stackKeepsWrong : ChangeSpec := { name := "stackKeeps", fn := fun _ => fun
  | [d] => { results := [.lit (.bool false)], args := [d] }
  | _ => none }
def StackKeepsWrongFalsely : Prop := stackKeepsRow.holds Try.pinned (OpenSpec.ofChange stackKeepsWrong)

/-- 'metrolablaw25.StackRoom': WHATEVER THE INPUT: true; the input reads as it did. -/
def stackRoomSpec : ChangeSpec := { name := "stackRoom", fn := fun _ => fun
  | [d1, d2] => { results := [.lit (.bool true)], args := [d1, d2] }
  | _ => none }
def stackRoomRow : OpenClaim := { program := "ytkkgkghkmkigjaa", sum := "2d36d20ce83f126210baf9b4db524796ea6462a55588cb8dd5943e31f6f6fdd3", func := "metrolab/metrolablaw25.StackRoom", spec := "stackRoom", unfollowed := true, recurses := true, apart := false }
def StackRoomSaid : Prop := stackRoomRow.holds Try.pinned (OpenSpec.ofChange stackRoomSpec)

/-- ITS FALSE NEIGHBOUR: 'it returns false'. Refute it at one input. -/
def stackRoomWrong : ChangeSpec := { name := "stackRoom", fn := fun _ => fun
  | [d1, d2] => { results := [.lit (.bool false)], args := [d1, d2] }
  | _ => none }
def StackRoomWrongFalsely : Prop := stackRoomRow.holds Try.pinned (OpenSpec.ofChange stackRoomWrong)

/-- 'metrolablaw25.StackAdds': WHATEVER THE INPUT: true; the input reads as it did. -/
def stackAddsSpec : ChangeSpec := { name := "stackAdds", fn := fun _ => fun
  | [d1, d2] => { results := [.lit (.bool true)], args := [d1, d2] }
  | _ => none }
def stackAddsRow : OpenClaim := { program := "ytkkgkghkmkigjaa", sum := "2d36d20ce83f126210baf9b4db524796ea6462a55588cb8dd5943e31f6f6fdd3", func := "metrolab/metrolablaw25.StackAdds", spec := "stackAdds", unfollowed := true, recurses := true, apart := false }
def StackAddsSaid : Prop := stackAddsRow.holds Try.pinned (OpenSpec.ofChange stackAddsSpec)

/-- ITS FALSE NEIGHBOUR: 'it returns false'. Refute it at one input. -/
def stackAddsWrong : ChangeSpec := { name := "stackAdds", fn := fun _ => fun
  | [d1, d2] => { results := [.lit (.bool false)], args := [d1, d2] }
  | _ => none }
def StackAddsWrongFalsely : Prop := stackAddsRow.holds Try.pinned (OpenSpec.ofChange stackAddsWrong)

/-- 'metrolablaw25.StackAttains': WHATEVER THE INPUT: true; the input reads as it did. -/
def stackAttainsSpec : ChangeSpec := { name := "stackAttains", fn := fun _ => fun
  | [d1, d2, d3] => { results := [.lit (.bool true)], args := [d1, d2, d3] }
  | _ => none }
def stackAttainsRow : OpenClaim := { program := "ytkkgkghkmkigjaa", sum := "2d36d20ce83f126210baf9b4db524796ea6462a55588cb8dd5943e31f6f6fdd3", func := "metrolab/metrolablaw25.StackAttains", spec := "stackAttains", unfollowed := true, recurses := true, apart := false }
def StackAttainsSaid : Prop := stackAttainsRow.holds Try.pinned (OpenSpec.ofChange stackAttainsSpec)

/-- ITS FALSE NEIGHBOUR: 'it returns false'. Refute it at one input. -/
def stackAttainsWrong : ChangeSpec := { name := "stackAttains", fn := fun _ => fun
  | [d1, d2, d3] => { results := [.lit (.bool false)], args := [d1, d2, d3] }
  | _ => none }
def StackAttainsWrongFalsely : Prop := stackAttainsRow.holds Try.pinned (OpenSpec.ofChange stackAttainsWrong)

/- THE SECOND FORM. 'bulk': how many values and letters a reading holds, each counted each time it is reached (what is shared counts as often as it is met; a slice's spare places count too). A statement '..UptoSaid' is the law's where the arguments, and the package variables that the reading takes, are together of bulk at most 1048576: NARROWER than '..Said'. Prove '..Said' where nothing that the law and all that it calls make is longer than what came in: it says more and counts as full. Else prove '..UptoSaid'. A law counts once. -/
mutual
def uptoBulk {H : Type} : DataW H → Nat
  | .lit (.string bytes) => bytes.length + 1
  | .lit _ => 1
  | .nil => 1
  | .ptr d => uptoBulk d + 1
  | .slice elems spare => uptoBulkAll elems + uptoBulkAll spare + 1
  | .agg parts => uptoBulkAll parts + 1
  | .iface _ d => uptoBulk d + 1
  | .map entries => uptoBulkEntries entries + 1
  | .held _ => 1
def uptoBulkAll {H : Type} : List (DataW H) → Nat
  | [] => 0
  | d :: r => uptoBulk d + uptoBulkAll r
def uptoBulkEntries {H : Type} : List (Lit × DataW H) → Nat
  | [] => 0
  | x :: r => uptoBulkEntry x + uptoBulkEntries r
def uptoBulkEntry {H : Type} : Lit × DataW H → Nat
  | (.string bytes, d) => bytes.length + uptoBulk d + 1
  | (_, d) => uptoBulk d + 1
 end
def uptoSmall : (H : Type) → List (DataW H) → Bool := fun _ ds => decide (uptoBulkAll ds ≤ 1048576)
def OpenSpec.upto (s : _root_.Go.ChangeSpec) : _root_.Go.OpenSpec := { _root_.Go.OpenSpec.ofChange s with cond := some uptoSmall }

/-- 'metrolablaw25.StackParts', WHERE WHAT IT READS IS OF BULK AT MOST 1048576: true; the input reads as it did. -/
def stackPartsUptoRow : OpenClaim := { program := "ytkkgkghkmkigjaa", sum := "2d36d20ce83f126210baf9b4db524796ea6462a55588cb8dd5943e31f6f6fdd3", func := "metrolab/metrolablaw25.StackParts", spec := "stackParts", unfollowed := true, recurses := true, apart := false, narrowed := true }
def StackPartsUptoSaid : Prop := stackPartsUptoRow.holds Try.pinned (OpenSpec.upto stackPartsSpec)

/-- 'metrolablaw25.StackRooms', WHERE WHAT IT READS IS OF BULK AT MOST 1048576: true; the input reads as it did. -/
def stackRoomsUptoRow : OpenClaim := { program := "ytkkgkghkmkigjaa", sum := "2d36d20ce83f126210baf9b4db524796ea6462a55588cb8dd5943e31f6f6fdd3", func := "metrolab/metrolablaw25.StackRooms", spec := "stackRooms", unfollowed := true, recurses := true, apart := false, narrowed := true }
def StackRoomsUptoSaid : Prop := stackRoomsUptoRow.holds Try.pinned (OpenSpec.upto stackRoomsSpec)

/-- 'metrolablaw25.StackWidens', WHERE WHAT IT READS IS OF BULK AT MOST 1048576: true; the input reads as it did. -/
def stackWidensUptoRow : OpenClaim := { program := "ytkkgkghkmkigjaa", sum := "2d36d20ce83f126210baf9b4db524796ea6462a55588cb8dd5943e31f6f6fdd3", func := "metrolab/metrolablaw25.StackWidens", spec := "stackWidens", unfollowed := true, recurses := true, apart := false, narrowed := true }
def StackWidensUptoSaid : Prop := stackWidensUptoRow.holds Try.pinned (OpenSpec.upto stackWidensSpec)

/-- 'metrolablaw25.StackLimits', WHERE WHAT IT READS IS OF BULK AT MOST 1048576: true; the input reads as it did. -/
def stackLimitsUptoRow : OpenClaim := { program := "ytkkgkghkmkigjaa", sum := "2d36d20ce83f126210baf9b4db524796ea6462a55588cb8dd5943e31f6f6fdd3", func := "metrolab/metrolablaw25.StackLimits", spec := "stackLimits", unfollowed := true, recurses := true, apart := false, narrowed := true }
def StackLimitsUptoSaid : Prop := stackLimitsUptoRow.holds Try.pinned (OpenSpec.upto stackLimitsSpec)

/-- 'metrolablaw25.StackKeeps', WHERE WHAT IT READS IS OF BULK AT MOST 1048576: true; the input reads as it did. -/
def stackKeepsUptoRow : OpenClaim := { program := "ytkkgkghkmkigjaa", sum := "2d36d20ce83f126210baf9b4db524796ea6462a55588cb8dd5943e31f6f6fdd3", func := "metrolab/metrolablaw25.StackKeeps", spec := "stackKeeps", unfollowed := true, recurses := true, apart := false, narrowed := true }
def StackKeepsUptoSaid : Prop := stackKeepsUptoRow.holds Try.pinned (OpenSpec.upto stackKeepsSpec)

/-- 'metrolablaw25.StackRoom', WHERE WHAT IT READS IS OF BULK AT MOST 1048576: true; the input reads as it did. -/
def stackRoomUptoRow : OpenClaim := { program := "ytkkgkghkmkigjaa", sum := "2d36d20ce83f126210baf9b4db524796ea6462a55588cb8dd5943e31f6f6fdd3", func := "metrolab/metrolablaw25.StackRoom", spec := "stackRoom", unfollowed := true, recurses := true, apart := false, narrowed := true }
def StackRoomUptoSaid : Prop := stackRoomUptoRow.holds Try.pinned (OpenSpec.upto stackRoomSpec)

/-- 'metrolablaw25.StackAdds', WHERE WHAT IT READS IS OF BULK AT MOST 1048576: true; the input reads as it did. -/
def stackAddsUptoRow : OpenClaim := { program := "ytkkgkghkmkigjaa", sum := "2d36d20ce83f126210baf9b4db524796ea6462a55588cb8dd5943e31f6f6fdd3", func := "metrolab/metrolablaw25.StackAdds", spec := "stackAdds", unfollowed := true, recurses := true, apart := false, narrowed := true }
def StackAddsUptoSaid : Prop := stackAddsUptoRow.holds Try.pinned (OpenSpec.upto stackAddsSpec)

/-- 'metrolablaw25.StackAttains', WHERE WHAT IT READS IS OF BULK AT MOST 1048576: true; the input reads as it did. -/
def stackAttainsUptoRow : OpenClaim := { program := "ytkkgkghkmkigjaa", sum := "2d36d20ce83f126210baf9b4db524796ea6462a55588cb8dd5943e31f6f6fdd3", func := "metrolab/metrolablaw25.StackAttains", spec := "stackAttains", unfollowed := true, recurses := true, apart := false, narrowed := true }
def StackAttainsUptoSaid : Prop := stackAttainsUptoRow.holds Try.pinned (OpenSpec.upto stackAttainsSpec)

end Rows
end Go.Proofs.Ytkkgkghkmkigjaa
