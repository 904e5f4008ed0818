/-
  No cell of these rows narrows 'for every input' (looked for: loops, veiled, ifaces, maps, wideKeys, modest, calm, conditions, laid).
  DERIVED. THE GIVEN ROWS OF THIS SEAT. 7 by the template 'for every input the law returns true; each argument reads behind the call as it read before'; 0 by the template 'total and deterministic' (their statements: YteojcdpmlhlfaaaTotals.lean).
  GIVEN WITH THE SEED: the statements are not yours to turn. If you find one false, say at which input.
  Laid BY PROGRAM, IN A SANDBOX (cutbox-rows.mjs): the forced cells as the released guide's own fill.sh prints them over the translation 59857d44474f3c7d… (all of the seat's roots in one cut). By AI agents, Wed Nov 11 2026. No macro, syntax, notation, axiom, sorry.
-/
import Derived.Test.YteojcdpmlhlfaaaChecked
import GoSem.Claim
import GoSem.ClaimJoined
import GoSem.ClaimMapViews
import Derived.JoinedTies
import Derived.KernelRfl
namespace Go.Proofs.Yteojcdpmlhlfaaa
/- THE CELL 'sum', in the pinned program and in every row, IS THE sha256 OF THE DUMP (.gsa) THAT YteojcdpmlhlfaaaProg.lean LOADS. Nothing in Lean hashes anything: it is a label: what it is worth is what the hold of that sum in a sandbox is worth. -/
noncomputable def Try.pinned : Pinned := { name := "yteojcdpmlhlfaaa", sum := "59857d44474f3c7ddc8a127a722eb37d41e93eee26133c063b3ad37c675ac895", checked := Try.checked }
namespace Rows
def none {H : Type} : Left H := { results := [], args := [] }

/-- 'refinerylaw02.BagGroups': WHATEVER THE INPUT: true; the input reads as it did. -/
def bagGroupsSpec : ChangeSpec := { name := "bagGroups", fn := fun _ => fun
  | [d] => { results := [.lit (.bool true)], args := [d] }
  | _ => none }
def bagGroupsRow : OpenClaim := { program := "yteojcdpmlhlfaaa", sum := "59857d44474f3c7ddc8a127a722eb37d41e93eee26133c063b3ad37c675ac895", func := "refinery/refinerylaw02.BagGroups", spec := "bagGroups", inPlace := ["slices.overlaps[int]"], apart := false }
def BagGroupsSaid : Prop := bagGroupsRow.holds Try.pinned (OpenSpec.ofChange bagGroupsSpec)

/-- ITS FALSE NEIGHBOUR: 'it returns false'. Refute it at one input. -/
def bagGroupsWrong : ChangeSpec := { name := "bagGroups", fn := fun _ => fun
  | [d] => { results := [.lit (.bool false)], args := [d] }
  | _ => none }
def BagGroupsWrongFalsely : Prop := bagGroupsRow.holds Try.pinned (OpenSpec.ofChange bagGroupsWrong)

/-- 'refinerylaw02.BagStops': WHATEVER THE INPUT: true; the input reads as it did. -/
def bagStopsSpec : ChangeSpec := { name := "bagStops", fn := fun _ => fun
  | [d1, d2] => { results := [.lit (.bool true)], args := [d1, d2] }
  | _ => none }
def bagStopsRow : OpenClaim := { program := "yteojcdpmlhlfaaa", sum := "59857d44474f3c7ddc8a127a722eb37d41e93eee26133c063b3ad37c675ac895", func := "refinery/refinerylaw02.BagStops", spec := "bagStops", inPlace := ["slices.overlaps[int]", "slices.overlaps[uint16]"], unfollowed := true, recurses := true, apart := false }
def BagStopsSaid : Prop := bagStopsRow.holds Try.pinned (OpenSpec.ofChange bagStopsSpec)

/-- ITS FALSE NEIGHBOUR: 'it returns false'. Refute it at one input. -/
def bagStopsWrong : ChangeSpec := { name := "bagStops", fn := fun _ => fun
  | [d1, d2] => { results := [.lit (.bool false)], args := [d1, d2] }
  | _ => none }
def BagStopsWrongFalsely : Prop := bagStopsRow.holds Try.pinned (OpenSpec.ofChange bagStopsWrong)

/-- 'refinerylaw02.BagJoins': WHATEVER THE INPUT: true; the input reads as it did. -/
def bagJoinsSpec : ChangeSpec := { name := "bagJoins", fn := fun _ => fun
  | [d1, d2, d3] => { results := [.lit (.bool true)], args := [d1, d2, d3] }
  | _ => none }
def bagJoinsRow : OpenClaim := { program := "yteojcdpmlhlfaaa", sum := "59857d44474f3c7ddc8a127a722eb37d41e93eee26133c063b3ad37c675ac895", func := "refinery/refinerylaw02.BagJoins", spec := "bagJoins", inPlace := ["slices.overlaps[int]", "slices.overlaps[string]"], unfollowed := true, recurses := true, apart := false }
def BagJoinsSaid : Prop := bagJoinsRow.holds Try.pinned (OpenSpec.ofChange bagJoinsSpec)

/-- ITS FALSE NEIGHBOUR: 'it returns false'. Refute it at one input. -/
def bagJoinsWrong : ChangeSpec := { name := "bagJoins", fn := fun _ => fun
  | [d1, d2, d3] => { results := [.lit (.bool false)], args := [d1, d2, d3] }
  | _ => none }
def BagJoinsWrongFalsely : Prop := bagJoinsRow.holds Try.pinned (OpenSpec.ofChange bagJoinsWrong)

/-- 'refinerylaw02.BagQueues': WHATEVER THE INPUT: true; the input reads as it did. -/
def bagQueuesSpec : ChangeSpec := { name := "bagQueues", fn := fun _ => fun
  | [d] => { results := [.lit (.bool true)], args := [d] }
  | _ => none }
def bagQueuesRow : OpenClaim := { program := "yteojcdpmlhlfaaa", sum := "59857d44474f3c7ddc8a127a722eb37d41e93eee26133c063b3ad37c675ac895", func := "refinery/refinerylaw02.BagQueues", spec := "bagQueues", inPlace := ["slices.overlaps[int]"], apart := false }
def BagQueuesSaid : Prop := bagQueuesRow.holds Try.pinned (OpenSpec.ofChange bagQueuesSpec)

/-- ITS FALSE NEIGHBOUR: 'it returns false'. Refute it at one input. -/
def bagQueuesWrong : ChangeSpec := { name := "bagQueues", fn := fun _ => fun
  | [d] => { results := [.lit (.bool false)], args := [d] }
  | _ => none }
def BagQueuesWrongFalsely : Prop := bagQueuesRow.holds Try.pinned (OpenSpec.ofChange bagQueuesWrong)

/-- 'refinerylaw02.BagDrains': WHATEVER THE INPUT: true; the input reads as it did. -/
def bagDrainsSpec : ChangeSpec := { name := "bagDrains", fn := fun _ => fun
  | [d1, d2, d3] => { results := [.lit (.bool true)], args := [d1, d2, d3] }
  | _ => none }
def bagDrainsRow : OpenClaim := { program := "yteojcdpmlhlfaaa", sum := "59857d44474f3c7ddc8a127a722eb37d41e93eee26133c063b3ad37c675ac895", func := "refinery/refinerylaw02.BagDrains", spec := "bagDrains", inPlace := ["slices.overlaps[int]"], unfollowed := true, recurses := true, apart := false }
def BagDrainsSaid : Prop := bagDrainsRow.holds Try.pinned (OpenSpec.ofChange bagDrainsSpec)

/-- ITS FALSE NEIGHBOUR: 'it returns false'. Refute it at one input. -/
def bagDrainsWrong : ChangeSpec := { name := "bagDrains", fn := fun _ => fun
  | [d1, d2, d3] => { results := [.lit (.bool false)], args := [d1, d2, d3] }
  | _ => none }
def BagDrainsWrongFalsely : Prop := bagDrainsRow.holds Try.pinned (OpenSpec.ofChange bagDrainsWrong)

/-- 'refinerylaw02.BagSets': WHATEVER THE INPUT: true; the input reads as it did. -/
def bagSetsSpec : ChangeSpec := { name := "bagSets", fn := fun _ => fun
  | [d] => { results := [.lit (.bool true)], args := [d] }
  | _ => none }
def bagSetsRow : OpenClaim := { program := "yteojcdpmlhlfaaa", sum := "59857d44474f3c7ddc8a127a722eb37d41e93eee26133c063b3ad37c675ac895", func := "refinery/refinerylaw02.BagSets", spec := "bagSets", inPlace := ["slices.overlaps[int]"], unfollowed := true, recurses := true, apart := false }
def BagSetsSaid : Prop := bagSetsRow.holds Try.pinned (OpenSpec.ofChange bagSetsSpec)

/-- ITS FALSE NEIGHBOUR: 'it returns false'. Refute it at one input. -/
def bagSetsWrong : ChangeSpec := { name := "bagSets", fn := fun _ => fun
  | [d] => { results := [.lit (.bool false)], args := [d] }
  | _ => none }
def BagSetsWrongFalsely : Prop := bagSetsRow.holds Try.pinned (OpenSpec.ofChange bagSetsWrong)

/-- 'refinerylaw02.BagLaws': WHATEVER THE INPUT: true; the input reads as it did. -/
def bagLawsSpec : ChangeSpec := { name := "bagLaws", fn := fun _ => fun
  | [d1, d2, d3] => { results := [.lit (.bool true)], args := [d1, d2, d3] }
  | _ => none }
def bagLawsRow : OpenClaim := { program := "yteojcdpmlhlfaaa", sum := "59857d44474f3c7ddc8a127a722eb37d41e93eee26133c063b3ad37c675ac895", func := "refinery/refinerylaw02.BagLaws", spec := "bagLaws", inPlace := ["slices.overlaps[int]", "slices.overlaps[uint8]"], unfollowed := true, recurses := true, apart := false }
def BagLawsSaid : Prop := bagLawsRow.holds Try.pinned (OpenSpec.ofChange bagLawsSpec)

/-- ITS FALSE NEIGHBOUR: 'it returns false'. Refute it at one input. -/
def bagLawsWrong : ChangeSpec := { name := "bagLaws", fn := fun _ => fun
  | [d1, d2, d3] => { results := [.lit (.bool false)], args := [d1, d2, d3] }
  | _ => none }
def BagLawsWrongFalsely : Prop := bagLawsRow.holds Try.pinned (OpenSpec.ofChange bagLawsWrong)

/- THE SECOND FORM. 'bulk': how many values and letters a reading holds, each counted each time it is reached (what is shared counts as often as it is met; a slice's spare places count too). A statement '..UptoSaid' is the law's where the arguments, and the package variables that the reading takes, are together of bulk at most 1048576: NARROWER than '..Said'. Prove '..Said' where nothing that the law and all that it calls make is longer than what came in: it says more and counts as full. Else prove '..UptoSaid'. A law counts once. -/
mutual
def uptoBulk {H : Type} : DataW H → Nat
  | .lit (.string bytes) => bytes.length + 1
  | .lit _ => 1
  | .nil => 1
  | .ptr d => uptoBulk d + 1
  | .slice elems spare => uptoBulkAll elems + uptoBulkAll spare + 1
  | .agg parts => uptoBulkAll parts + 1
  | .iface _ d => uptoBulk d + 1
  | .map entries => uptoBulkEntries entries + 1
  | .held _ => 1
def uptoBulkAll {H : Type} : List (DataW H) → Nat
  | [] => 0
  | d :: r => uptoBulk d + uptoBulkAll r
def uptoBulkEntries {H : Type} : List (Lit × DataW H) → Nat
  | [] => 0
  | x :: r => uptoBulkEntry x + uptoBulkEntries r
def uptoBulkEntry {H : Type} : Lit × DataW H → Nat
  | (.string bytes, d) => bytes.length + uptoBulk d + 1
  | (_, d) => uptoBulk d + 1
 end
def uptoSmall : (H : Type) → List (DataW H) → Bool := fun _ ds => decide (uptoBulkAll ds ≤ 1048576)
def OpenSpec.upto (s : _root_.Go.ChangeSpec) : _root_.Go.OpenSpec := { _root_.Go.OpenSpec.ofChange s with cond := some uptoSmall }

/-- 'refinerylaw02.BagGroups', WHERE WHAT IT READS IS OF BULK AT MOST 1048576: true; the input reads as it did. -/
def bagGroupsUptoRow : OpenClaim := { program := "yteojcdpmlhlfaaa", sum := "59857d44474f3c7ddc8a127a722eb37d41e93eee26133c063b3ad37c675ac895", func := "refinery/refinerylaw02.BagGroups", spec := "bagGroups", inPlace := ["slices.overlaps[int]"], apart := false, narrowed := true }
def BagGroupsUptoSaid : Prop := bagGroupsUptoRow.holds Try.pinned (OpenSpec.upto bagGroupsSpec)

/-- 'refinerylaw02.BagStops', WHERE WHAT IT READS IS OF BULK AT MOST 1048576: true; the input reads as it did. -/
def bagStopsUptoRow : OpenClaim := { program := "yteojcdpmlhlfaaa", sum := "59857d44474f3c7ddc8a127a722eb37d41e93eee26133c063b3ad37c675ac895", func := "refinery/refinerylaw02.BagStops", spec := "bagStops", inPlace := ["slices.overlaps[int]", "slices.overlaps[uint16]"], unfollowed := true, recurses := true, apart := false, narrowed := true }
def BagStopsUptoSaid : Prop := bagStopsUptoRow.holds Try.pinned (OpenSpec.upto bagStopsSpec)

/-- 'refinerylaw02.BagJoins', WHERE WHAT IT READS IS OF BULK AT MOST 1048576: true; the input reads as it did. -/
def bagJoinsUptoRow : OpenClaim := { program := "yteojcdpmlhlfaaa", sum := "59857d44474f3c7ddc8a127a722eb37d41e93eee26133c063b3ad37c675ac895", func := "refinery/refinerylaw02.BagJoins", spec := "bagJoins", inPlace := ["slices.overlaps[int]", "slices.overlaps[string]"], unfollowed := true, recurses := true, apart := false, narrowed := true }
def BagJoinsUptoSaid : Prop := bagJoinsUptoRow.holds Try.pinned (OpenSpec.upto bagJoinsSpec)

/-- 'refinerylaw02.BagQueues', WHERE WHAT IT READS IS OF BULK AT MOST 1048576: true; the input reads as it did. -/
def bagQueuesUptoRow : OpenClaim := { program := "yteojcdpmlhlfaaa", sum := "59857d44474f3c7ddc8a127a722eb37d41e93eee26133c063b3ad37c675ac895", func := "refinery/refinerylaw02.BagQueues", spec := "bagQueues", inPlace := ["slices.overlaps[int]"], apart := false, narrowed := true }
def BagQueuesUptoSaid : Prop := bagQueuesUptoRow.holds Try.pinned (OpenSpec.upto bagQueuesSpec)

/-- 'refinerylaw02.BagDrains', WHERE WHAT IT READS IS OF BULK AT MOST 1048576: true; the input reads as it did. -/
def bagDrainsUptoRow : OpenClaim := { program := "yteojcdpmlhlfaaa", sum := "59857d44474f3c7ddc8a127a722eb37d41e93eee26133c063b3ad37c675ac895", func := "refinery/refinerylaw02.BagDrains", spec := "bagDrains", inPlace := ["slices.overlaps[int]"], unfollowed := true, recurses := true, apart := false, narrowed := true }
def BagDrainsUptoSaid : Prop := bagDrainsUptoRow.holds Try.pinned (OpenSpec.upto bagDrainsSpec)

/-- 'refinerylaw02.BagSets', WHERE WHAT IT READS IS OF BULK AT MOST 1048576: true; the input reads as it did. -/
def bagSetsUptoRow : OpenClaim := { program := "yteojcdpmlhlfaaa", sum := "59857d44474f3c7ddc8a127a722eb37d41e93eee26133c063b3ad37c675ac895", func := "refinery/refinerylaw02.BagSets", spec := "bagSets", inPlace := ["slices.overlaps[int]"], unfollowed := true, recurses := true, apart := false, narrowed := true }
def BagSetsUptoSaid : Prop := bagSetsUptoRow.holds Try.pinned (OpenSpec.upto bagSetsSpec)

/-- 'refinerylaw02.BagLaws', WHERE WHAT IT READS IS OF BULK AT MOST 1048576: true; the input reads as it did. -/
def bagLawsUptoRow : OpenClaim := { program := "yteojcdpmlhlfaaa", sum := "59857d44474f3c7ddc8a127a722eb37d41e93eee26133c063b3ad37c675ac895", func := "refinery/refinerylaw02.BagLaws", spec := "bagLaws", inPlace := ["slices.overlaps[int]", "slices.overlaps[uint8]"], unfollowed := true, recurses := true, apart := false, narrowed := true }
def BagLawsUptoSaid : Prop := bagLawsUptoRow.holds Try.pinned (OpenSpec.upto bagLawsSpec)

end Rows
end Go.Proofs.Yteojcdpmlhlfaaa
