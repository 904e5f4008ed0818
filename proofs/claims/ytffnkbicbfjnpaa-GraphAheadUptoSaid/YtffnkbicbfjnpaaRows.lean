/-
  No cell of these rows narrows 'for every input' (looked for: loops, veiled, ifaces, maps, wideKeys, modest, calm, conditions, laid).
  DERIVED. THE GIVEN ROWS OF THIS SEAT. 12 by the template 'for every input the law returns true; each argument reads behind the call as it read before'; 0 by the template 'total and deterministic' (their statements: YtffnkbicbfjnpaaTotals.lean).
  GIVEN WITH THE SEED: the statements are not yours to turn. If you find one false, say at which input.
  Laid BY PROGRAM, IN A SANDBOX (cutbox-rows.mjs): the forced cells as the released guide's own fill.sh prints them over the translation 3d4d65f1ba30a282… (all of the seat's roots in one cut). By AI agents, Wed Nov 11 2026. No macro, syntax, notation, axiom, sorry.
-/
import Derived.Test.YtffnkbicbfjnpaaChecked
import GoSem.Claim
import GoSem.ClaimJoined
import GoSem.ClaimMapViews
import Derived.JoinedTies
import Derived.KernelRfl
namespace Go.Proofs.Ytffnkbicbfjnpaa
/- THE CELL 'sum', in the pinned program and in every row, IS THE sha256 OF THE DUMP (.gsa) THAT YtffnkbicbfjnpaaProg.lean LOADS. Nothing in Lean hashes anything: it is a label: what it is worth is what the hold of that sum in a sandbox is worth. -/
noncomputable def Try.pinned : Pinned := { name := "ytffnkbicbfjnpaa", sum := "3d4d65f1ba30a282a2242f5eba144d10ed7b10910a8a5710f6d679eb29a80e94", checked := Try.checked }
namespace Rows
def none {H : Type} : Left H := { results := [], args := [] }

/-- 'refinerylaw11.LiveAhead': WHATEVER THE INPUT: true; the input reads as it did. -/
def liveAheadSpec : ChangeSpec := { name := "liveAhead", fn := fun _ => fun
  | [d1, d2, d3, d4] => { results := [.lit (.bool true)], args := [d1, d2, d3, d4] }
  | _ => none }
def liveAheadRow : OpenClaim := { program := "ytffnkbicbfjnpaa", sum := "3d4d65f1ba30a282a2242f5eba144d10ed7b10910a8a5710f6d679eb29a80e94", func := "refinery/refinerylaw11.LiveAhead", spec := "liveAhead", inPlace := ["slices.overlaps[int]"], unfollowed := true, recurses := true, apart := false }
def LiveAheadSaid : Prop := liveAheadRow.holds Try.pinned (OpenSpec.ofChange liveAheadSpec)

/-- ITS FALSE NEIGHBOUR: 'it returns false'. Refute it at one input. -/
def liveAheadWrong : ChangeSpec := { name := "liveAhead", fn := fun _ => fun
  | [d1, d2, d3, d4] => { results := [.lit (.bool false)], args := [d1, d2, d3, d4] }
  | _ => none }
def LiveAheadWrongFalsely : Prop := liveAheadRow.holds Try.pinned (OpenSpec.ofChange liveAheadWrong)

/-- 'refinerylaw13.RunInputs': WHATEVER THE INPUT: true; the input reads as it did. -/
def runInputsSpec : ChangeSpec := { name := "runInputs", fn := fun _ => fun
  | [d1, d2, d3] => { results := [.lit (.bool true)], args := [d1, d2, d3] }
  | _ => none }
def runInputsRow : OpenClaim := { program := "ytffnkbicbfjnpaa", sum := "3d4d65f1ba30a282a2242f5eba144d10ed7b10910a8a5710f6d679eb29a80e94", func := "refinery/refinerylaw13.RunInputs", spec := "runInputs", apart := false }
def RunInputsSaid : Prop := runInputsRow.holds Try.pinned (OpenSpec.ofChange runInputsSpec)

/-- ITS FALSE NEIGHBOUR: 'it returns false'. Refute it at one input. -/
def runInputsWrong : ChangeSpec := { name := "runInputs", fn := fun _ => fun
  | [d1, d2, d3] => { results := [.lit (.bool false)], args := [d1, d2, d3] }
  | _ => none }
def RunInputsWrongFalsely : Prop := runInputsRow.holds Try.pinned (OpenSpec.ofChange runInputsWrong)

/-- 'refinerylaw13.RunFuel': WHATEVER THE INPUT: true; the input reads as it did. -/
def runFuelSpec : ChangeSpec := { name := "runFuel", fn := fun _ => fun
  | [d1, d2, d3, d4] => { results := [.lit (.bool true)], args := [d1, d2, d3, d4] }
  | _ => none }
def runFuelRow : OpenClaim := { program := "ytffnkbicbfjnpaa", sum := "3d4d65f1ba30a282a2242f5eba144d10ed7b10910a8a5710f6d679eb29a80e94", func := "refinery/refinerylaw13.RunFuel", spec := "runFuel", apart := false }
def RunFuelSaid : Prop := runFuelRow.holds Try.pinned (OpenSpec.ofChange runFuelSpec)

/-- ITS FALSE NEIGHBOUR: 'it returns false'. Refute it at one input. -/
def runFuelWrong : ChangeSpec := { name := "runFuel", fn := fun _ => fun
  | [d1, d2, d3, d4] => { results := [.lit (.bool false)], args := [d1, d2, d3, d4] }
  | _ => none }
def RunFuelWrongFalsely : Prop := runFuelRow.holds Try.pinned (OpenSpec.ofChange runFuelWrong)

/-- 'refinerylaw13.RunLine': WHATEVER THE INPUT: true; the input reads as it did. -/
def runLineSpec : ChangeSpec := { name := "runLine", fn := fun _ => fun
  | [d1, d2, d3, d4] => { results := [.lit (.bool true)], args := [d1, d2, d3, d4] }
  | _ => none }
def runLineRow : OpenClaim := { program := "ytffnkbicbfjnpaa", sum := "3d4d65f1ba30a282a2242f5eba144d10ed7b10910a8a5710f6d679eb29a80e94", func := "refinery/refinerylaw13.RunLine", spec := "runLine", apart := false }
def RunLineSaid : Prop := runLineRow.holds Try.pinned (OpenSpec.ofChange runLineSpec)

/-- ITS FALSE NEIGHBOUR: 'it returns false'. Refute it at one input. -/
def runLineWrong : ChangeSpec := { name := "runLine", fn := fun _ => fun
  | [d1, d2, d3, d4] => { results := [.lit (.bool false)], args := [d1, d2, d3, d4] }
  | _ => none }
def RunLineWrongFalsely : Prop := runLineRow.holds Try.pinned (OpenSpec.ofChange runLineWrong)

/-- 'refinerylaw13.RunOuts': WHATEVER THE INPUT: true; the input reads as it did. -/
def runOutsSpec : ChangeSpec := { name := "runOuts", fn := fun _ => fun
  | [d1, d2, d3] => { results := [.lit (.bool true)], args := [d1, d2, d3] }
  | _ => none }
def runOutsRow : OpenClaim := { program := "ytffnkbicbfjnpaa", sum := "3d4d65f1ba30a282a2242f5eba144d10ed7b10910a8a5710f6d679eb29a80e94", func := "refinery/refinerylaw13.RunOuts", spec := "runOuts", apart := false }
def RunOutsSaid : Prop := runOutsRow.holds Try.pinned (OpenSpec.ofChange runOutsSpec)

/-- ITS FALSE NEIGHBOUR: 'it returns false'. Refute it at one input. -/
def runOutsWrong : ChangeSpec := { name := "runOuts", fn := fun _ => fun
  | [d1, d2, d3] => { results := [.lit (.bool false)], args := [d1, d2, d3] }
  | _ => none }
def RunOutsWrongFalsely : Prop := runOutsRow.holds Try.pinned (OpenSpec.ofChange runOutsWrong)

/-- 'refinerylaw07.GraphAhead': WHATEVER THE INPUT: true; the input reads as it did. -/
def graphAheadSpec : ChangeSpec := { name := "graphAhead", fn := fun _ => fun
  | [d] => { results := [.lit (.bool true)], args := [d] }
  | _ => none }
def graphAheadRow : OpenClaim := { program := "ytffnkbicbfjnpaa", sum := "3d4d65f1ba30a282a2242f5eba144d10ed7b10910a8a5710f6d679eb29a80e94", func := "refinery/refinerylaw07.GraphAhead", spec := "graphAhead", unfollowed := true, recurses := true, apart := false }
def GraphAheadSaid : Prop := graphAheadRow.holds Try.pinned (OpenSpec.ofChange graphAheadSpec)

/-- ITS FALSE NEIGHBOUR: 'it returns false'. Refute it at one input. -/
def graphAheadWrong : ChangeSpec := { name := "graphAhead", fn := fun _ => fun
  | [d] => { results := [.lit (.bool false)], args := [d] }
  | _ => none }
def GraphAheadWrongFalsely : Prop := graphAheadRow.holds Try.pinned (OpenSpec.ofChange graphAheadWrong)

/-- 'refinerylaw07.GraphReach': WHATEVER THE INPUT: true; the input reads as it did. -/
def graphReachSpec : ChangeSpec := { name := "graphReach", fn := fun _ => fun
  | [d1, d2] => { results := [.lit (.bool true)], args := [d1, d2] }
  | _ => none }
def graphReachRow : OpenClaim := { program := "ytffnkbicbfjnpaa", sum := "3d4d65f1ba30a282a2242f5eba144d10ed7b10910a8a5710f6d679eb29a80e94", func := "refinery/refinerylaw07.GraphReach", spec := "graphReach", unfollowed := true, recurses := true, apart := false }
def GraphReachSaid : Prop := graphReachRow.holds Try.pinned (OpenSpec.ofChange graphReachSpec)

/-- ITS FALSE NEIGHBOUR: 'it returns false'. Refute it at one input. -/
def graphReachWrong : ChangeSpec := { name := "graphReach", fn := fun _ => fun
  | [d1, d2] => { results := [.lit (.bool false)], args := [d1, d2] }
  | _ => none }
def GraphReachWrongFalsely : Prop := graphReachRow.holds Try.pinned (OpenSpec.ofChange graphReachWrong)

/-- 'refinerylaw07.GraphOrders': WHATEVER THE INPUT: true; the input reads as it did. -/
def graphOrdersSpec : ChangeSpec := { name := "graphOrders", fn := fun _ => fun
  | [d] => { results := [.lit (.bool true)], args := [d] }
  | _ => none }
def graphOrdersRow : OpenClaim := { program := "ytffnkbicbfjnpaa", sum := "3d4d65f1ba30a282a2242f5eba144d10ed7b10910a8a5710f6d679eb29a80e94", func := "refinery/refinerylaw07.GraphOrders", spec := "graphOrders", unfollowed := true, recurses := true, apart := false }
def GraphOrdersSaid : Prop := graphOrdersRow.holds Try.pinned (OpenSpec.ofChange graphOrdersSpec)

/-- ITS FALSE NEIGHBOUR: 'it returns false'. Refute it at one input. -/
def graphOrdersWrong : ChangeSpec := { name := "graphOrders", fn := fun _ => fun
  | [d] => { results := [.lit (.bool false)], args := [d] }
  | _ => none }
def GraphOrdersWrongFalsely : Prop := graphOrdersRow.holds Try.pinned (OpenSpec.ofChange graphOrdersWrong)

/-- 'refinerylaw07.GraphJoins': WHATEVER THE INPUT: true; the input reads as it did. -/
def graphJoinsSpec : ChangeSpec := { name := "graphJoins", fn := fun _ => fun
  | [d1, d2, d3] => { results := [.lit (.bool true)], args := [d1, d2, d3] }
  | _ => none }
def graphJoinsRow : OpenClaim := { program := "ytffnkbicbfjnpaa", sum := "3d4d65f1ba30a282a2242f5eba144d10ed7b10910a8a5710f6d679eb29a80e94", func := "refinery/refinerylaw07.GraphJoins", spec := "graphJoins", unfollowed := true, recurses := true, apart := false }
def GraphJoinsSaid : Prop := graphJoinsRow.holds Try.pinned (OpenSpec.ofChange graphJoinsSpec)

/-- ITS FALSE NEIGHBOUR: 'it returns false'. Refute it at one input. -/
def graphJoinsWrong : ChangeSpec := { name := "graphJoins", fn := fun _ => fun
  | [d1, d2, d3] => { results := [.lit (.bool false)], args := [d1, d2, d3] }
  | _ => none }
def GraphJoinsWrongFalsely : Prop := graphJoinsRow.holds Try.pinned (OpenSpec.ofChange graphJoinsWrong)

/-- 'refinerylaw07.GraphPrograms': WHATEVER THE INPUT: true; the input reads as it did. -/
def graphProgramsSpec : ChangeSpec := { name := "graphPrograms", fn := fun _ => fun
  | [d] => { results := [.lit (.bool true)], args := [d] }
  | _ => none }
def graphProgramsRow : OpenClaim := { program := "ytffnkbicbfjnpaa", sum := "3d4d65f1ba30a282a2242f5eba144d10ed7b10910a8a5710f6d679eb29a80e94", func := "refinery/refinerylaw07.GraphPrograms", spec := "graphPrograms", unfollowed := true, recurses := true, apart := false }
def GraphProgramsSaid : Prop := graphProgramsRow.holds Try.pinned (OpenSpec.ofChange graphProgramsSpec)

/-- ITS FALSE NEIGHBOUR: 'it returns false'. Refute it at one input. -/
def graphProgramsWrong : ChangeSpec := { name := "graphPrograms", fn := fun _ => fun
  | [d] => { results := [.lit (.bool false)], args := [d] }
  | _ => none }
def GraphProgramsWrongFalsely : Prop := graphProgramsRow.holds Try.pinned (OpenSpec.ofChange graphProgramsWrong)

/-- 'refinerylaw13.RunRuns': WHATEVER THE INPUT: true; the input reads as it did. -/
def runRunsSpec : ChangeSpec := { name := "runRuns", fn := fun _ => fun
  | [d1, d2, d3, d4] => { results := [.lit (.bool true)], args := [d1, d2, d3, d4] }
  | _ => none }
def runRunsRow : OpenClaim := { program := "ytffnkbicbfjnpaa", sum := "3d4d65f1ba30a282a2242f5eba144d10ed7b10910a8a5710f6d679eb29a80e94", func := "refinery/refinerylaw13.RunRuns", spec := "runRuns", unfollowed := true, recurses := true, apart := false }
def RunRunsSaid : Prop := runRunsRow.holds Try.pinned (OpenSpec.ofChange runRunsSpec)

/-- ITS FALSE NEIGHBOUR: 'it returns false'. Refute it at one input. -/
def runRunsWrong : ChangeSpec := { name := "runRuns", fn := fun _ => fun
  | [d1, d2, d3, d4] => { results := [.lit (.bool false)], args := [d1, d2, d3, d4] }
  | _ => none }
def RunRunsWrongFalsely : Prop := runRunsRow.holds Try.pinned (OpenSpec.ofChange runRunsWrong)

/-- 'refinerylaw14.CleanTurns': WHATEVER THE INPUT: true; the input reads as it did. -/
def cleanTurnsSpec : ChangeSpec := { name := "cleanTurns", fn := fun _ => fun
  | [d1, d2, d3, d4, d5] => { results := [.lit (.bool true)], args := [d1, d2, d3, d4, d5] }
  | _ => none }
def cleanTurnsRow : OpenClaim := { program := "ytffnkbicbfjnpaa", sum := "3d4d65f1ba30a282a2242f5eba144d10ed7b10910a8a5710f6d679eb29a80e94", func := "refinery/refinerylaw14.CleanTurns", spec := "cleanTurns", inPlace := ["slices.overlaps[int]"], unfollowed := true, recurses := true, apart := false }
def CleanTurnsSaid : Prop := cleanTurnsRow.holds Try.pinned (OpenSpec.ofChange cleanTurnsSpec)

/-- ITS FALSE NEIGHBOUR: 'it returns false'. Refute it at one input. -/
def cleanTurnsWrong : ChangeSpec := { name := "cleanTurns", fn := fun _ => fun
  | [d1, d2, d3, d4, d5] => { results := [.lit (.bool false)], args := [d1, d2, d3, d4, d5] }
  | _ => none }
def CleanTurnsWrongFalsely : Prop := cleanTurnsRow.holds Try.pinned (OpenSpec.ofChange cleanTurnsWrong)

/- THE SECOND FORM. 'bulk': how many values and letters a reading holds, each counted each time it is reached (what is shared counts as often as it is met; a slice's spare places count too). A statement '..UptoSaid' is the law's where the arguments, and the package variables that the reading takes, are together of bulk at most 1048576: NARROWER than '..Said'. Prove '..Said' where nothing that the law and all that it calls make is longer than what came in: it says more and counts as full. Else prove '..UptoSaid'. A law counts once. -/
mutual
def uptoBulk {H : Type} : DataW H → Nat
  | .lit (.string bytes) => bytes.length + 1
  | .lit _ => 1
  | .nil => 1
  | .ptr d => uptoBulk d + 1
  | .slice elems spare => uptoBulkAll elems + uptoBulkAll spare + 1
  | .agg parts => uptoBulkAll parts + 1
  | .iface _ d => uptoBulk d + 1
  | .map entries => uptoBulkEntries entries + 1
  | .held _ => 1
def uptoBulkAll {H : Type} : List (DataW H) → Nat
  | [] => 0
  | d :: r => uptoBulk d + uptoBulkAll r
def uptoBulkEntries {H : Type} : List (Lit × DataW H) → Nat
  | [] => 0
  | x :: r => uptoBulkEntry x + uptoBulkEntries r
def uptoBulkEntry {H : Type} : Lit × DataW H → Nat
  | (.string bytes, d) => bytes.length + uptoBulk d + 1
  | (_, d) => uptoBulk d + 1
 end
def uptoSmall : (H : Type) → List (DataW H) → Bool := fun _ ds => decide (uptoBulkAll ds ≤ 1048576)
def OpenSpec.upto (s : _root_.Go.ChangeSpec) : _root_.Go.OpenSpec := { _root_.Go.OpenSpec.ofChange s with cond := some uptoSmall }

/-- 'refinerylaw11.LiveAhead', WHERE WHAT IT READS IS OF BULK AT MOST 1048576: true; the input reads as it did. -/
def liveAheadUptoRow : OpenClaim := { program := "ytffnkbicbfjnpaa", sum := "3d4d65f1ba30a282a2242f5eba144d10ed7b10910a8a5710f6d679eb29a80e94", func := "refinery/refinerylaw11.LiveAhead", spec := "liveAhead", inPlace := ["slices.overlaps[int]"], unfollowed := true, recurses := true, apart := false, narrowed := true }
def LiveAheadUptoSaid : Prop := liveAheadUptoRow.holds Try.pinned (OpenSpec.upto liveAheadSpec)

/-- 'refinerylaw13.RunInputs', WHERE WHAT IT READS IS OF BULK AT MOST 1048576: true; the input reads as it did. -/
def runInputsUptoRow : OpenClaim := { program := "ytffnkbicbfjnpaa", sum := "3d4d65f1ba30a282a2242f5eba144d10ed7b10910a8a5710f6d679eb29a80e94", func := "refinery/refinerylaw13.RunInputs", spec := "runInputs", apart := false, narrowed := true }
def RunInputsUptoSaid : Prop := runInputsUptoRow.holds Try.pinned (OpenSpec.upto runInputsSpec)

/-- 'refinerylaw13.RunFuel', WHERE WHAT IT READS IS OF BULK AT MOST 1048576: true; the input reads as it did. -/
def runFuelUptoRow : OpenClaim := { program := "ytffnkbicbfjnpaa", sum := "3d4d65f1ba30a282a2242f5eba144d10ed7b10910a8a5710f6d679eb29a80e94", func := "refinery/refinerylaw13.RunFuel", spec := "runFuel", apart := false, narrowed := true }
def RunFuelUptoSaid : Prop := runFuelUptoRow.holds Try.pinned (OpenSpec.upto runFuelSpec)

/-- 'refinerylaw13.RunLine', WHERE WHAT IT READS IS OF BULK AT MOST 1048576: true; the input reads as it did. -/
def runLineUptoRow : OpenClaim := { program := "ytffnkbicbfjnpaa", sum := "3d4d65f1ba30a282a2242f5eba144d10ed7b10910a8a5710f6d679eb29a80e94", func := "refinery/refinerylaw13.RunLine", spec := "runLine", apart := false, narrowed := true }
def RunLineUptoSaid : Prop := runLineUptoRow.holds Try.pinned (OpenSpec.upto runLineSpec)

/-- 'refinerylaw13.RunOuts', WHERE WHAT IT READS IS OF BULK AT MOST 1048576: true; the input reads as it did. -/
def runOutsUptoRow : OpenClaim := { program := "ytffnkbicbfjnpaa", sum := "3d4d65f1ba30a282a2242f5eba144d10ed7b10910a8a5710f6d679eb29a80e94", func := "refinery/refinerylaw13.RunOuts", spec := "runOuts", apart := false, narrowed := true }
def RunOutsUptoSaid : Prop := runOutsUptoRow.holds Try.pinned (OpenSpec.upto runOutsSpec)

/-- 'refinerylaw07.GraphAhead', WHERE WHAT IT READS IS OF BULK AT MOST 1048576: true; the input reads as it did. -/
def graphAheadUptoRow : OpenClaim := { program := "ytffnkbicbfjnpaa", sum := "3d4d65f1ba30a282a2242f5eba144d10ed7b10910a8a5710f6d679eb29a80e94", func := "refinery/refinerylaw07.GraphAhead", spec := "graphAhead", unfollowed := true, recurses := true, apart := false, narrowed := true }
def GraphAheadUptoSaid : Prop := graphAheadUptoRow.holds Try.pinned (OpenSpec.upto graphAheadSpec)

/-- 'refinerylaw07.GraphReach', WHERE WHAT IT READS IS OF BULK AT MOST 1048576: true; the input reads as it did. -/
def graphReachUptoRow : OpenClaim := { program := "ytffnkbicbfjnpaa", sum := "3d4d65f1ba30a282a2242f5eba144d10ed7b10910a8a5710f6d679eb29a80e94", func := "refinery/refinerylaw07.GraphReach", spec := "graphReach", unfollowed := true, recurses := true, apart := false, narrowed := true }
def GraphReachUptoSaid : Prop := graphReachUptoRow.holds Try.pinned (OpenSpec.upto graphReachSpec)

/-- 'refinerylaw07.GraphOrders', WHERE WHAT IT READS IS OF BULK AT MOST 1048576: true; the input reads as it did. -/
def graphOrdersUptoRow : OpenClaim := { program := "ytffnkbicbfjnpaa", sum := "3d4d65f1ba30a282a2242f5eba144d10ed7b10910a8a5710f6d679eb29a80e94", func := "refinery/refinerylaw07.GraphOrders", spec := "graphOrders", unfollowed := true, recurses := true, apart := false, narrowed := true }
def GraphOrdersUptoSaid : Prop := graphOrdersUptoRow.holds Try.pinned (OpenSpec.upto graphOrdersSpec)

/-- 'refinerylaw07.GraphJoins', WHERE WHAT IT READS IS OF BULK AT MOST 1048576: true; the input reads as it did. -/
def graphJoinsUptoRow : OpenClaim := { program := "ytffnkbicbfjnpaa", sum := "3d4d65f1ba30a282a2242f5eba144d10ed7b10910a8a5710f6d679eb29a80e94", func := "refinery/refinerylaw07.GraphJoins", spec := "graphJoins", unfollowed := true, recurses := true, apart := false, narrowed := true }
def GraphJoinsUptoSaid : Prop := graphJoinsUptoRow.holds Try.pinned (OpenSpec.upto graphJoinsSpec)

/-- 'refinerylaw07.GraphPrograms', WHERE WHAT IT READS IS OF BULK AT MOST 1048576: true; the input reads as it did. -/
def graphProgramsUptoRow : OpenClaim := { program := "ytffnkbicbfjnpaa", sum := "3d4d65f1ba30a282a2242f5eba144d10ed7b10910a8a5710f6d679eb29a80e94", func := "refinery/refinerylaw07.GraphPrograms", spec := "graphPrograms", unfollowed := true, recurses := true, apart := false, narrowed := true }
def GraphProgramsUptoSaid : Prop := graphProgramsUptoRow.holds Try.pinned (OpenSpec.upto graphProgramsSpec)

/-- 'refinerylaw13.RunRuns', WHERE WHAT IT READS IS OF BULK AT MOST 1048576: true; the input reads as it did. -/
def runRunsUptoRow : OpenClaim := { program := "ytffnkbicbfjnpaa", sum := "3d4d65f1ba30a282a2242f5eba144d10ed7b10910a8a5710f6d679eb29a80e94", func := "refinery/refinerylaw13.RunRuns", spec := "runRuns", unfollowed := true, recurses := true, apart := false, narrowed := true }
def RunRunsUptoSaid : Prop := runRunsUptoRow.holds Try.pinned (OpenSpec.upto runRunsSpec)

/-- 'refinerylaw14.CleanTurns', WHERE WHAT IT READS IS OF BULK AT MOST 1048576: true; the input reads as it did. -/
def cleanTurnsUptoRow : OpenClaim := { program := "ytffnkbicbfjnpaa", sum := "3d4d65f1ba30a282a2242f5eba144d10ed7b10910a8a5710f6d679eb29a80e94", func := "refinery/refinerylaw14.CleanTurns", spec := "cleanTurns", inPlace := ["slices.overlaps[int]"], unfollowed := true, recurses := true, apart := false, narrowed := true }
def CleanTurnsUptoSaid : Prop := cleanTurnsUptoRow.holds Try.pinned (OpenSpec.upto cleanTurnsSpec)

end Rows
end Go.Proofs.Ytffnkbicbfjnpaa
