/-
  NARROWER THAN 'FOR EVERY INPUT', by the rows' own cells (each row's printed sentence says how): WordDoes: laid · WordShifts: laid · WordEdges: laid · WordLaws: laid · WordNames: laid.
  DERIVED. THE GIVEN ROWS OF THIS SEAT. 5 by the template 'for every input the law returns true; each argument reads behind the call as it read before'; 0 by the template 'total and deterministic' (their statements: YteojcdpmlhlfaaaDoorTotals.lean).
  GIVEN WITH THE SEED: the statements are not yours to turn. If you find one false, say at which input.
  Laid BY PROGRAM, IN A SANDBOX (cutbox-rows.mjs): the forced cells as the released guide's own fill.sh prints them over the translation bed58aa22b5a06b3… (all of the seat's roots in one cut). By AI agents, Wed Nov 11 2026. No macro, syntax, notation, axiom, sorry.
-/
import Derived.Test.YteojcdpmlhlfaaaDoorChecked
import GoSem.Claim
import GoSem.ClaimJoined
import GoSem.ClaimMapViews
import Derived.JoinedTies
import Derived.KernelRfl
namespace Go.Proofs.YteojcdpmlhlfaaaDoor
/- THE CELL 'sum', in the pinned program and in every row, IS THE sha256 OF THE DUMP (.gsa) THAT YteojcdpmlhlfaaaDoorProg.lean LOADS. Nothing in Lean hashes anything: it is a label: what it is worth is what the hold of that sum in a sandbox is worth. -/
noncomputable def Tryd.pinned : Pinned := { name := "yteojcdpmlhlfaaadoor", sum := "bed58aa22b5a06b30fcd95c116ff7a17be7ac431cf256510bf3a094174722c3e", checked := Tryd.checked }
namespace Rows
def none {H : Type} : Left H := { results := [], args := [] }

/- WHAT THE LISTED PACKAGE-LEVEL VARIABLES READ AS WHEN THE CALL BEGINS. Each datum BY PROGRAM (the guide's laid-datum.mjs) off the statement by which the dump's own 'gosem.cut.vars' lays the variable. In a bare row this is a premise. The card (YteojcdpmlhlfaaaDoorCards.lean) ties it to the program's text. -/
def laid_refinery_word_names {H : Type} : DataW H := .agg [.lit (.string [97, 100, 100]), .lit (.string [115, 117, 98]), .lit (.string [109, 117, 108]), .lit (.string [100, 105, 118]), .lit (.string [114, 101, 109]), .lit (.string [97, 110, 100]), .lit (.string [111, 114]), .lit (.string [120, 111, 114]), .lit (.string [115, 104, 108]), .lit (.string [115, 104, 114]), .lit (.string [101, 113]), .lit (.string [108, 116])]

/-- 'refinerylaw01.WordDoes': WHATEVER THE INPUT: true; the input reads as it did. -/
def wordDoesSpec : ChangeSpec := { name := "wordDoes", fn := fun _ => fun
  | [d1, d2, d3, d4] => { results := [.lit (.bool true)], args := [d1, d2, d3, d4] }
  | _ => none }
def wordDoesRow : OpenClaim := { program := "yteojcdpmlhlfaaadoor", sum := "bed58aa22b5a06b30fcd95c116ff7a17be7ac431cf256510bf3a094174722c3e", func := "refinery/refinerylaw01.WordDoes", spec := "wordDoes", named := ["refinery/word.names"], apart := false, laid := [("refinery/word.names", laid_refinery_word_names)] }
def WordDoesSaid : Prop := wordDoesRow.holds Tryd.pinned (OpenSpec.ofChange wordDoesSpec)

/-- ITS FALSE NEIGHBOUR: 'it returns false'. Refute it at one input. -/
def wordDoesWrong : ChangeSpec := { name := "wordDoes", fn := fun _ => fun
  | [d1, d2, d3, d4] => { results := [.lit (.bool false)], args := [d1, d2, d3, d4] }
  | _ => none }
def WordDoesWrongFalsely : Prop := wordDoesRow.holds Tryd.pinned (OpenSpec.ofChange wordDoesWrong)

/-- 'refinerylaw01.WordShifts': WHATEVER THE INPUT: true; the input reads as it did. -/
def wordShiftsSpec : ChangeSpec := { name := "wordShifts", fn := fun _ => fun
  | [d1, d2, d3] => { results := [.lit (.bool true)], args := [d1, d2, d3] }
  | _ => none }
def wordShiftsRow : OpenClaim := { program := "yteojcdpmlhlfaaadoor", sum := "bed58aa22b5a06b30fcd95c116ff7a17be7ac431cf256510bf3a094174722c3e", func := "refinery/refinerylaw01.WordShifts", spec := "wordShifts", unfollowed := true, recurses := true, named := ["refinery/word.names"], apart := false, laid := [("refinery/word.names", laid_refinery_word_names)] }
def WordShiftsSaid : Prop := wordShiftsRow.holds Tryd.pinned (OpenSpec.ofChange wordShiftsSpec)

/-- ITS FALSE NEIGHBOUR: 'it returns false'. Refute it at one input. -/
def wordShiftsWrong : ChangeSpec := { name := "wordShifts", fn := fun _ => fun
  | [d1, d2, d3] => { results := [.lit (.bool false)], args := [d1, d2, d3] }
  | _ => none }
def WordShiftsWrongFalsely : Prop := wordShiftsRow.holds Tryd.pinned (OpenSpec.ofChange wordShiftsWrong)

/-- 'refinerylaw01.WordEdges': WHATEVER THE INPUT: true; the input reads as it did. -/
def wordEdgesSpec : ChangeSpec := { name := "wordEdges", fn := fun _ => fun
  | [d] => { results := [.lit (.bool true)], args := [d] }
  | _ => none }
def wordEdgesRow : OpenClaim := { program := "yteojcdpmlhlfaaadoor", sum := "bed58aa22b5a06b30fcd95c116ff7a17be7ac431cf256510bf3a094174722c3e", func := "refinery/refinerylaw01.WordEdges", spec := "wordEdges", named := ["refinery/word.names"], apart := false, laid := [("refinery/word.names", laid_refinery_word_names)] }
def WordEdgesSaid : Prop := wordEdgesRow.holds Tryd.pinned (OpenSpec.ofChange wordEdgesSpec)

/-- ITS FALSE NEIGHBOUR: 'it returns false'. Refute it at one input. -/
def wordEdgesWrong : ChangeSpec := { name := "wordEdges", fn := fun _ => fun
  | [d] => { results := [.lit (.bool false)], args := [d] }
  | _ => none }
def WordEdgesWrongFalsely : Prop := wordEdgesRow.holds Tryd.pinned (OpenSpec.ofChange wordEdgesWrong)

/-- 'refinerylaw01.WordLaws': WHATEVER THE INPUT: true; the input reads as it did. -/
def wordLawsSpec : ChangeSpec := { name := "wordLaws", fn := fun _ => fun
  | [d1, d2] => { results := [.lit (.bool true)], args := [d1, d2] }
  | _ => none }
def wordLawsRow : OpenClaim := { program := "yteojcdpmlhlfaaadoor", sum := "bed58aa22b5a06b30fcd95c116ff7a17be7ac431cf256510bf3a094174722c3e", func := "refinery/refinerylaw01.WordLaws", spec := "wordLaws", unfollowed := true, recurses := true, named := ["refinery/word.names"], apart := false, laid := [("refinery/word.names", laid_refinery_word_names)] }
def WordLawsSaid : Prop := wordLawsRow.holds Tryd.pinned (OpenSpec.ofChange wordLawsSpec)

/-- ITS FALSE NEIGHBOUR: 'it returns false'. Refute it at one input. -/
def wordLawsWrong : ChangeSpec := { name := "wordLaws", fn := fun _ => fun
  | [d1, d2] => { results := [.lit (.bool false)], args := [d1, d2] }
  | _ => none }
def WordLawsWrongFalsely : Prop := wordLawsRow.holds Tryd.pinned (OpenSpec.ofChange wordLawsWrong)

/-- 'refinerylaw01.WordNames': WHATEVER THE INPUT: true; the input reads as it did. -/
def wordNamesSpec : ChangeSpec := { name := "wordNames", fn := fun _ => fun
  | [d1, d2] => { results := [.lit (.bool true)], args := [d1, d2] }
  | _ => none }
def wordNamesRow : OpenClaim := { program := "yteojcdpmlhlfaaadoor", sum := "bed58aa22b5a06b30fcd95c116ff7a17be7ac431cf256510bf3a094174722c3e", func := "refinery/refinerylaw01.WordNames", spec := "wordNames", named := ["refinery/word.names"], apart := false, laid := [("refinery/word.names", laid_refinery_word_names)] }
def WordNamesSaid : Prop := wordNamesRow.holds Tryd.pinned (OpenSpec.ofChange wordNamesSpec)

/-- ITS FALSE NEIGHBOUR: 'it returns false'. Refute it at one input. -/
def wordNamesWrong : ChangeSpec := { name := "wordNames", fn := fun _ => fun
  | [d1, d2] => { results := [.lit (.bool false)], args := [d1, d2] }
  | _ => none }
def WordNamesWrongFalsely : Prop := wordNamesRow.holds Tryd.pinned (OpenSpec.ofChange wordNamesWrong)

/- THE SECOND FORM. 'bulk': how many values and letters a reading holds, each counted each time it is reached (what is shared counts as often as it is met; a slice's spare places count too). A statement '..UptoSaid' is the law's where the arguments, and the package variables that the reading takes, are together of bulk at most 1048576: NARROWER than '..Said'. Prove '..Said' where nothing that the law and all that it calls make is longer than what came in: it says more and counts as full. Else prove '..UptoSaid'. A law counts once. -/
mutual
def uptoBulk {H : Type} : DataW H → Nat
  | .lit (.string bytes) => bytes.length + 1
  | .lit _ => 1
  | .nil => 1
  | .ptr d => uptoBulk d + 1
  | .slice elems spare => uptoBulkAll elems + uptoBulkAll spare + 1
  | .agg parts => uptoBulkAll parts + 1
  | .iface _ d => uptoBulk d + 1
  | .map entries => uptoBulkEntries entries + 1
  | .held _ => 1
def uptoBulkAll {H : Type} : List (DataW H) → Nat
  | [] => 0
  | d :: r => uptoBulk d + uptoBulkAll r
def uptoBulkEntries {H : Type} : List (Lit × DataW H) → Nat
  | [] => 0
  | x :: r => uptoBulkEntry x + uptoBulkEntries r
def uptoBulkEntry {H : Type} : Lit × DataW H → Nat
  | (.string bytes, d) => bytes.length + uptoBulk d + 1
  | (_, d) => uptoBulk d + 1
 end
def uptoSmall : (H : Type) → List (DataW H) → Bool := fun _ ds => decide (uptoBulkAll ds ≤ 1048576)
def OpenSpec.upto (s : _root_.Go.ChangeSpec) : _root_.Go.OpenSpec := { _root_.Go.OpenSpec.ofChange s with cond := some uptoSmall }

/-- 'refinerylaw01.WordDoes', WHERE WHAT IT READS IS OF BULK AT MOST 1048576: true; the input reads as it did. -/
def wordDoesUptoRow : OpenClaim := { program := "yteojcdpmlhlfaaadoor", sum := "bed58aa22b5a06b30fcd95c116ff7a17be7ac431cf256510bf3a094174722c3e", func := "refinery/refinerylaw01.WordDoes", spec := "wordDoes", named := ["refinery/word.names"], apart := false, laid := [("refinery/word.names", laid_refinery_word_names)], narrowed := true }
def WordDoesUptoSaid : Prop := wordDoesUptoRow.holds Tryd.pinned (OpenSpec.upto wordDoesSpec)

/-- 'refinerylaw01.WordShifts', WHERE WHAT IT READS IS OF BULK AT MOST 1048576: true; the input reads as it did. -/
def wordShiftsUptoRow : OpenClaim := { program := "yteojcdpmlhlfaaadoor", sum := "bed58aa22b5a06b30fcd95c116ff7a17be7ac431cf256510bf3a094174722c3e", func := "refinery/refinerylaw01.WordShifts", spec := "wordShifts", unfollowed := true, recurses := true, named := ["refinery/word.names"], apart := false, laid := [("refinery/word.names", laid_refinery_word_names)], narrowed := true }
def WordShiftsUptoSaid : Prop := wordShiftsUptoRow.holds Tryd.pinned (OpenSpec.upto wordShiftsSpec)

/-- 'refinerylaw01.WordEdges', WHERE WHAT IT READS IS OF BULK AT MOST 1048576: true; the input reads as it did. -/
def wordEdgesUptoRow : OpenClaim := { program := "yteojcdpmlhlfaaadoor", sum := "bed58aa22b5a06b30fcd95c116ff7a17be7ac431cf256510bf3a094174722c3e", func := "refinery/refinerylaw01.WordEdges", spec := "wordEdges", named := ["refinery/word.names"], apart := false, laid := [("refinery/word.names", laid_refinery_word_names)], narrowed := true }
def WordEdgesUptoSaid : Prop := wordEdgesUptoRow.holds Tryd.pinned (OpenSpec.upto wordEdgesSpec)

/-- 'refinerylaw01.WordLaws', WHERE WHAT IT READS IS OF BULK AT MOST 1048576: true; the input reads as it did. -/
def wordLawsUptoRow : OpenClaim := { program := "yteojcdpmlhlfaaadoor", sum := "bed58aa22b5a06b30fcd95c116ff7a17be7ac431cf256510bf3a094174722c3e", func := "refinery/refinerylaw01.WordLaws", spec := "wordLaws", unfollowed := true, recurses := true, named := ["refinery/word.names"], apart := false, laid := [("refinery/word.names", laid_refinery_word_names)], narrowed := true }
def WordLawsUptoSaid : Prop := wordLawsUptoRow.holds Tryd.pinned (OpenSpec.upto wordLawsSpec)

/-- 'refinerylaw01.WordNames', WHERE WHAT IT READS IS OF BULK AT MOST 1048576: true; the input reads as it did. -/
def wordNamesUptoRow : OpenClaim := { program := "yteojcdpmlhlfaaadoor", sum := "bed58aa22b5a06b30fcd95c116ff7a17be7ac431cf256510bf3a094174722c3e", func := "refinery/refinerylaw01.WordNames", spec := "wordNames", named := ["refinery/word.names"], apart := false, laid := [("refinery/word.names", laid_refinery_word_names)], narrowed := true }
def WordNamesUptoSaid : Prop := wordNamesUptoRow.holds Tryd.pinned (OpenSpec.upto wordNamesSpec)

end Rows
end Go.Proofs.YteojcdpmlhlfaaaDoor
