/-
  No cell of these rows narrows 'for every input' (looked for: loops, veiled, ifaces, maps, wideKeys, modest, calm, conditions, laid).
  DERIVED. THE GIVEN ROWS OF THIS SEAT. 13 by the template 'for every input the law returns true; each argument reads behind the call as it read before'; 0 by the template 'total and deterministic' (their statements: YtnkbbjeepdjamaaTotals.lean).
  GIVEN WITH THE SEED: the statements are not yours to turn. If you find one false, say at which input.
  Laid BY PROGRAM, IN A SANDBOX (cutbox-rows.mjs): the forced cells as the released guide's own fill.sh prints them over the translation 15a1a3a58886725e… (all of the seat's roots in one cut). By AI agents, Wed Nov 11 2026. No macro, syntax, notation, axiom, sorry.
-/
import Derived.Test.YtnkbbjeepdjamaaChecked
import GoSem.Claim
import GoSem.ClaimJoined
import GoSem.ClaimMapViews
import Derived.JoinedTies
import Derived.KernelRfl
namespace Go.Proofs.Ytnkbbjeepdjamaa
/- THE CELL 'sum', in the pinned program and in every row, IS THE sha256 OF THE DUMP (.gsa) THAT YtnkbbjeepdjamaaProg.lean LOADS. Nothing in Lean hashes anything: it is a label: what it is worth is what the hold of that sum in a sandbox is worth. -/
noncomputable def Try.pinned : Pinned := { name := "ytnkbbjeepdjamaa", sum := "15a1a3a58886725ef25310ba80ab8e9e8d5ffbd26f63aa4bbd83a83521ba469a", checked := Try.checked }
namespace Rows
def none {H : Type} : Left H := { results := [], args := [] }

/-- 'refinerylaw08.DomOver': WHATEVER THE INPUT: true; the input reads as it did. -/
def domOverSpec : ChangeSpec := { name := "domOver", fn := fun _ => fun
  | [d] => { results := [.lit (.bool true)], args := [d] }
  | _ => none }
def domOverRow : OpenClaim := { program := "ytnkbbjeepdjamaa", sum := "15a1a3a58886725ef25310ba80ab8e9e8d5ffbd26f63aa4bbd83a83521ba469a", func := "refinery/refinerylaw08.DomOver", spec := "domOver", unfollowed := true, recurses := true, apart := false }
def DomOverSaid : Prop := domOverRow.holds Try.pinned (OpenSpec.ofChange domOverSpec)

/-- ITS FALSE NEIGHBOUR: 'it returns false'. Refute it at one input. -/
def domOverWrong : ChangeSpec := { name := "domOver", fn := fun _ => fun
  | [d] => { results := [.lit (.bool false)], args := [d] }
  | _ => none }
def DomOverWrongFalsely : Prop := domOverRow.holds Try.pinned (OpenSpec.ofChange domOverWrong)

/-- 'refinerylaw08.DomChains': WHATEVER THE INPUT: true; the input reads as it did. -/
def domChainsSpec : ChangeSpec := { name := "domChains", fn := fun _ => fun
  | [d] => { results := [.lit (.bool true)], args := [d] }
  | _ => none }
def domChainsRow : OpenClaim := { program := "ytnkbbjeepdjamaa", sum := "15a1a3a58886725ef25310ba80ab8e9e8d5ffbd26f63aa4bbd83a83521ba469a", func := "refinery/refinerylaw08.DomChains", spec := "domChains", unfollowed := true, recurses := true, apart := false }
def DomChainsSaid : Prop := domChainsRow.holds Try.pinned (OpenSpec.ofChange domChainsSpec)

/-- ITS FALSE NEIGHBOUR: 'it returns false'. Refute it at one input. -/
def domChainsWrong : ChangeSpec := { name := "domChains", fn := fun _ => fun
  | [d] => { results := [.lit (.bool false)], args := [d] }
  | _ => none }
def DomChainsWrongFalsely : Prop := domChainsRow.holds Try.pinned (OpenSpec.ofChange domChainsWrong)

/-- 'refinerylaw08.DomUps': WHATEVER THE INPUT: true; the input reads as it did. -/
def domUpsSpec : ChangeSpec := { name := "domUps", fn := fun _ => fun
  | [d] => { results := [.lit (.bool true)], args := [d] }
  | _ => none }
def domUpsRow : OpenClaim := { program := "ytnkbbjeepdjamaa", sum := "15a1a3a58886725ef25310ba80ab8e9e8d5ffbd26f63aa4bbd83a83521ba469a", func := "refinery/refinerylaw08.DomUps", spec := "domUps", unfollowed := true, recurses := true, apart := false }
def DomUpsSaid : Prop := domUpsRow.holds Try.pinned (OpenSpec.ofChange domUpsSpec)

/-- ITS FALSE NEIGHBOUR: 'it returns false'. Refute it at one input. -/
def domUpsWrong : ChangeSpec := { name := "domUps", fn := fun _ => fun
  | [d] => { results := [.lit (.bool false)], args := [d] }
  | _ => none }
def DomUpsWrongFalsely : Prop := domUpsRow.holds Try.pinned (OpenSpec.ofChange domUpsWrong)

/-- 'refinerylaw08.DomMore': WHATEVER THE INPUT: true; the input reads as it did. -/
def domMoreSpec : ChangeSpec := { name := "domMore", fn := fun _ => fun
  | [d1, d2, d3, d4] => { results := [.lit (.bool true)], args := [d1, d2, d3, d4] }
  | _ => none }
def domMoreRow : OpenClaim := { program := "ytnkbbjeepdjamaa", sum := "15a1a3a58886725ef25310ba80ab8e9e8d5ffbd26f63aa4bbd83a83521ba469a", func := "refinery/refinerylaw08.DomMore", spec := "domMore", unfollowed := true, recurses := true, apart := false }
def DomMoreSaid : Prop := domMoreRow.holds Try.pinned (OpenSpec.ofChange domMoreSpec)

/-- ITS FALSE NEIGHBOUR: 'it returns false'. Refute it at one input. -/
def domMoreWrong : ChangeSpec := { name := "domMore", fn := fun _ => fun
  | [d1, d2, d3, d4] => { results := [.lit (.bool false)], args := [d1, d2, d3, d4] }
  | _ => none }
def DomMoreWrongFalsely : Prop := domMoreRow.holds Try.pinned (OpenSpec.ofChange domMoreWrong)

/-- 'refinerylaw08.DomAll': WHATEVER THE INPUT: true; the input reads as it did. -/
def domAllSpec : ChangeSpec := { name := "domAll", fn := fun _ => fun
  | [d1, d2] => { results := [.lit (.bool true)], args := [d1, d2] }
  | _ => none }
def domAllRow : OpenClaim := { program := "ytnkbbjeepdjamaa", sum := "15a1a3a58886725ef25310ba80ab8e9e8d5ffbd26f63aa4bbd83a83521ba469a", func := "refinery/refinerylaw08.DomAll", spec := "domAll", unfollowed := true, recurses := true, apart := false }
def DomAllSaid : Prop := domAllRow.holds Try.pinned (OpenSpec.ofChange domAllSpec)

/-- ITS FALSE NEIGHBOUR: 'it returns false'. Refute it at one input. -/
def domAllWrong : ChangeSpec := { name := "domAll", fn := fun _ => fun
  | [d1, d2] => { results := [.lit (.bool false)], args := [d1, d2] }
  | _ => none }
def DomAllWrongFalsely : Prop := domAllRow.holds Try.pinned (OpenSpec.ofChange domAllWrong)

/-- 'refinerylaw09.FrontOf': WHATEVER THE INPUT: true; the input reads as it did. -/
def frontOfSpec : ChangeSpec := { name := "frontOf", fn := fun _ => fun
  | [d] => { results := [.lit (.bool true)], args := [d] }
  | _ => none }
def frontOfRow : OpenClaim := { program := "ytnkbbjeepdjamaa", sum := "15a1a3a58886725ef25310ba80ab8e9e8d5ffbd26f63aa4bbd83a83521ba469a", func := "refinery/refinerylaw09.FrontOf", spec := "frontOf", inPlace := ["slices.overlaps[int]"], unfollowed := true, recurses := true, apart := false }
def FrontOfSaid : Prop := frontOfRow.holds Try.pinned (OpenSpec.ofChange frontOfSpec)

/-- ITS FALSE NEIGHBOUR: 'it returns false'. Refute it at one input. -/
def frontOfWrong : ChangeSpec := { name := "frontOf", fn := fun _ => fun
  | [d] => { results := [.lit (.bool false)], args := [d] }
  | _ => none }
def FrontOfWrongFalsely : Prop := frontOfRow.holds Try.pinned (OpenSpec.ofChange frontOfWrong)

/-- 'refinerylaw09.FrontMeets': WHATEVER THE INPUT: true; the input reads as it did. -/
def frontMeetsSpec : ChangeSpec := { name := "frontMeets", fn := fun _ => fun
  | [d1, d2, d3] => { results := [.lit (.bool true)], args := [d1, d2, d3] }
  | _ => none }
def frontMeetsRow : OpenClaim := { program := "ytnkbbjeepdjamaa", sum := "15a1a3a58886725ef25310ba80ab8e9e8d5ffbd26f63aa4bbd83a83521ba469a", func := "refinery/refinerylaw09.FrontMeets", spec := "frontMeets", inPlace := ["slices.overlaps[int]"], unfollowed := true, recurses := true, apart := false }
def FrontMeetsSaid : Prop := frontMeetsRow.holds Try.pinned (OpenSpec.ofChange frontMeetsSpec)

/-- ITS FALSE NEIGHBOUR: 'it returns false'. Refute it at one input. -/
def frontMeetsWrong : ChangeSpec := { name := "frontMeets", fn := fun _ => fun
  | [d1, d2, d3] => { results := [.lit (.bool false)], args := [d1, d2, d3] }
  | _ => none }
def FrontMeetsWrongFalsely : Prop := frontMeetsRow.holds Try.pinned (OpenSpec.ofChange frontMeetsWrong)

/-- 'refinerylaw09.FrontAll': WHATEVER THE INPUT: true; the input reads as it did. -/
def frontAllSpec : ChangeSpec := { name := "frontAll", fn := fun _ => fun
  | [d1, d2] => { results := [.lit (.bool true)], args := [d1, d2] }
  | _ => none }
def frontAllRow : OpenClaim := { program := "ytnkbbjeepdjamaa", sum := "15a1a3a58886725ef25310ba80ab8e9e8d5ffbd26f63aa4bbd83a83521ba469a", func := "refinery/refinerylaw09.FrontAll", spec := "frontAll", inPlace := ["slices.overlaps[int]"], unfollowed := true, recurses := true, apart := false }
def FrontAllSaid : Prop := frontAllRow.holds Try.pinned (OpenSpec.ofChange frontAllSpec)

/-- ITS FALSE NEIGHBOUR: 'it returns false'. Refute it at one input. -/
def frontAllWrong : ChangeSpec := { name := "frontAll", fn := fun _ => fun
  | [d1, d2] => { results := [.lit (.bool false)], args := [d1, d2] }
  | _ => none }
def FrontAllWrongFalsely : Prop := frontAllRow.holds Try.pinned (OpenSpec.ofChange frontAllWrong)

/-- 'refinerylaw09.FrontBoth': WHATEVER THE INPUT: true; the input reads as it did. -/
def frontBothSpec : ChangeSpec := { name := "frontBoth", fn := fun _ => fun
  | [d1, d2, d3] => { results := [.lit (.bool true)], args := [d1, d2, d3] }
  | _ => none }
def frontBothRow : OpenClaim := { program := "ytnkbbjeepdjamaa", sum := "15a1a3a58886725ef25310ba80ab8e9e8d5ffbd26f63aa4bbd83a83521ba469a", func := "refinery/refinerylaw09.FrontBoth", spec := "frontBoth", inPlace := ["slices.overlaps[int]"], unfollowed := true, recurses := true, apart := false }
def FrontBothSaid : Prop := frontBothRow.holds Try.pinned (OpenSpec.ofChange frontBothSpec)

/-- ITS FALSE NEIGHBOUR: 'it returns false'. Refute it at one input. -/
def frontBothWrong : ChangeSpec := { name := "frontBoth", fn := fun _ => fun
  | [d1, d2, d3] => { results := [.lit (.bool false)], args := [d1, d2, d3] }
  | _ => none }
def FrontBothWrongFalsely : Prop := frontBothRow.holds Try.pinned (OpenSpec.ofChange frontBothWrong)

/-- 'refinerylaw10.LoopsOf': WHATEVER THE INPUT: true; the input reads as it did. -/
def loopsOfSpec : ChangeSpec := { name := "loopsOf", fn := fun _ => fun
  | [d] => { results := [.lit (.bool true)], args := [d] }
  | _ => none }
def loopsOfRow : OpenClaim := { program := "ytnkbbjeepdjamaa", sum := "15a1a3a58886725ef25310ba80ab8e9e8d5ffbd26f63aa4bbd83a83521ba469a", func := "refinery/refinerylaw10.LoopsOf", spec := "loopsOf", inPlace := ["slices.overlaps[int]"], unfollowed := true, recurses := true, apart := false }
def LoopsOfSaid : Prop := loopsOfRow.holds Try.pinned (OpenSpec.ofChange loopsOfSpec)

/-- ITS FALSE NEIGHBOUR: 'it returns false'. Refute it at one input. -/
def loopsOfWrong : ChangeSpec := { name := "loopsOf", fn := fun _ => fun
  | [d] => { results := [.lit (.bool false)], args := [d] }
  | _ => none }
def LoopsOfWrongFalsely : Prop := loopsOfRow.holds Try.pinned (OpenSpec.ofChange loopsOfWrong)

/-- 'refinerylaw10.LoopsRing': WHATEVER THE INPUT: true; the input reads as it did. -/
def loopsRingSpec : ChangeSpec := { name := "loopsRing", fn := fun _ => fun
  | [d1, d2] => { results := [.lit (.bool true)], args := [d1, d2] }
  | _ => none }
def loopsRingRow : OpenClaim := { program := "ytnkbbjeepdjamaa", sum := "15a1a3a58886725ef25310ba80ab8e9e8d5ffbd26f63aa4bbd83a83521ba469a", func := "refinery/refinerylaw10.LoopsRing", spec := "loopsRing", inPlace := ["slices.overlaps[int]"], unfollowed := true, recurses := true, apart := false }
def LoopsRingSaid : Prop := loopsRingRow.holds Try.pinned (OpenSpec.ofChange loopsRingSpec)

/-- ITS FALSE NEIGHBOUR: 'it returns false'. Refute it at one input. -/
def loopsRingWrong : ChangeSpec := { name := "loopsRing", fn := fun _ => fun
  | [d1, d2] => { results := [.lit (.bool false)], args := [d1, d2] }
  | _ => none }
def LoopsRingWrongFalsely : Prop := loopsRingRow.holds Try.pinned (OpenSpec.ofChange loopsRingWrong)

/-- 'refinerylaw10.LoopsNest': WHATEVER THE INPUT: true; the input reads as it did. -/
def loopsNestSpec : ChangeSpec := { name := "loopsNest", fn := fun _ => fun
  | [d] => { results := [.lit (.bool true)], args := [d] }
  | _ => none }
def loopsNestRow : OpenClaim := { program := "ytnkbbjeepdjamaa", sum := "15a1a3a58886725ef25310ba80ab8e9e8d5ffbd26f63aa4bbd83a83521ba469a", func := "refinery/refinerylaw10.LoopsNest", spec := "loopsNest", inPlace := ["slices.overlaps[int]"], unfollowed := true, recurses := true, apart := false }
def LoopsNestSaid : Prop := loopsNestRow.holds Try.pinned (OpenSpec.ofChange loopsNestSpec)

/-- ITS FALSE NEIGHBOUR: 'it returns false'. Refute it at one input. -/
def loopsNestWrong : ChangeSpec := { name := "loopsNest", fn := fun _ => fun
  | [d] => { results := [.lit (.bool false)], args := [d] }
  | _ => none }
def LoopsNestWrongFalsely : Prop := loopsNestRow.holds Try.pinned (OpenSpec.ofChange loopsNestWrong)

/-- 'refinerylaw10.LoopsDeep': WHATEVER THE INPUT: true; the input reads as it did. -/
def loopsDeepSpec : ChangeSpec := { name := "loopsDeep", fn := fun _ => fun
  | [d1, d2, d3] => { results := [.lit (.bool true)], args := [d1, d2, d3] }
  | _ => none }
def loopsDeepRow : OpenClaim := { program := "ytnkbbjeepdjamaa", sum := "15a1a3a58886725ef25310ba80ab8e9e8d5ffbd26f63aa4bbd83a83521ba469a", func := "refinery/refinerylaw10.LoopsDeep", spec := "loopsDeep", inPlace := ["slices.overlaps[int]"], unfollowed := true, recurses := true, apart := false }
def LoopsDeepSaid : Prop := loopsDeepRow.holds Try.pinned (OpenSpec.ofChange loopsDeepSpec)

/-- ITS FALSE NEIGHBOUR: 'it returns false'. Refute it at one input. -/
def loopsDeepWrong : ChangeSpec := { name := "loopsDeep", fn := fun _ => fun
  | [d1, d2, d3] => { results := [.lit (.bool false)], args := [d1, d2, d3] }
  | _ => none }
def LoopsDeepWrongFalsely : Prop := loopsDeepRow.holds Try.pinned (OpenSpec.ofChange loopsDeepWrong)

/- THE SECOND FORM. 'bulk': how many values and letters a reading holds, each counted each time it is reached (what is shared counts as often as it is met; a slice's spare places count too). A statement '..UptoSaid' is the law's where the arguments, and the package variables that the reading takes, are together of bulk at most 1048576: NARROWER than '..Said'. Prove '..Said' where nothing that the law and all that it calls make is longer than what came in: it says more and counts as full. Else prove '..UptoSaid'. A law counts once. -/
mutual
def uptoBulk {H : Type} : DataW H → Nat
  | .lit (.string bytes) => bytes.length + 1
  | .lit _ => 1
  | .nil => 1
  | .ptr d => uptoBulk d + 1
  | .slice elems spare => uptoBulkAll elems + uptoBulkAll spare + 1
  | .agg parts => uptoBulkAll parts + 1
  | .iface _ d => uptoBulk d + 1
  | .map entries => uptoBulkEntries entries + 1
  | .held _ => 1
def uptoBulkAll {H : Type} : List (DataW H) → Nat
  | [] => 0
  | d :: r => uptoBulk d + uptoBulkAll r
def uptoBulkEntries {H : Type} : List (Lit × DataW H) → Nat
  | [] => 0
  | x :: r => uptoBulkEntry x + uptoBulkEntries r
def uptoBulkEntry {H : Type} : Lit × DataW H → Nat
  | (.string bytes, d) => bytes.length + uptoBulk d + 1
  | (_, d) => uptoBulk d + 1
 end
def uptoSmall : (H : Type) → List (DataW H) → Bool := fun _ ds => decide (uptoBulkAll ds ≤ 1048576)
def OpenSpec.upto (s : _root_.Go.ChangeSpec) : _root_.Go.OpenSpec := { _root_.Go.OpenSpec.ofChange s with cond := some uptoSmall }

/-- 'refinerylaw08.DomOver', WHERE WHAT IT READS IS OF BULK AT MOST 1048576: true; the input reads as it did. -/
def domOverUptoRow : OpenClaim := { program := "ytnkbbjeepdjamaa", sum := "15a1a3a58886725ef25310ba80ab8e9e8d5ffbd26f63aa4bbd83a83521ba469a", func := "refinery/refinerylaw08.DomOver", spec := "domOver", unfollowed := true, recurses := true, apart := false, narrowed := true }
def DomOverUptoSaid : Prop := domOverUptoRow.holds Try.pinned (OpenSpec.upto domOverSpec)

/-- 'refinerylaw08.DomChains', WHERE WHAT IT READS IS OF BULK AT MOST 1048576: true; the input reads as it did. -/
def domChainsUptoRow : OpenClaim := { program := "ytnkbbjeepdjamaa", sum := "15a1a3a58886725ef25310ba80ab8e9e8d5ffbd26f63aa4bbd83a83521ba469a", func := "refinery/refinerylaw08.DomChains", spec := "domChains", unfollowed := true, recurses := true, apart := false, narrowed := true }
def DomChainsUptoSaid : Prop := domChainsUptoRow.holds Try.pinned (OpenSpec.upto domChainsSpec)

/-- 'refinerylaw08.DomUps', WHERE WHAT IT READS IS OF BULK AT MOST 1048576: true; the input reads as it did. -/
def domUpsUptoRow : OpenClaim := { program := "ytnkbbjeepdjamaa", sum := "15a1a3a58886725ef25310ba80ab8e9e8d5ffbd26f63aa4bbd83a83521ba469a", func := "refinery/refinerylaw08.DomUps", spec := "domUps", unfollowed := true, recurses := true, apart := false, narrowed := true }
def DomUpsUptoSaid : Prop := domUpsUptoRow.holds Try.pinned (OpenSpec.upto domUpsSpec)

/-- 'refinerylaw08.DomMore', WHERE WHAT IT READS IS OF BULK AT MOST 1048576: true; the input reads as it did. -/
def domMoreUptoRow : OpenClaim := { program := "ytnkbbjeepdjamaa", sum := "15a1a3a58886725ef25310ba80ab8e9e8d5ffbd26f63aa4bbd83a83521ba469a", func := "refinery/refinerylaw08.DomMore", spec := "domMore", unfollowed := true, recurses := true, apart := false, narrowed := true }
def DomMoreUptoSaid : Prop := domMoreUptoRow.holds Try.pinned (OpenSpec.upto domMoreSpec)

/-- 'refinerylaw08.DomAll', WHERE WHAT IT READS IS OF BULK AT MOST 1048576: true; the input reads as it did. -/
def domAllUptoRow : OpenClaim := { program := "ytnkbbjeepdjamaa", sum := "15a1a3a58886725ef25310ba80ab8e9e8d5ffbd26f63aa4bbd83a83521ba469a", func := "refinery/refinerylaw08.DomAll", spec := "domAll", unfollowed := true, recurses := true, apart := false, narrowed := true }
def DomAllUptoSaid : Prop := domAllUptoRow.holds Try.pinned (OpenSpec.upto domAllSpec)

/-- 'refinerylaw09.FrontOf', WHERE WHAT IT READS IS OF BULK AT MOST 1048576: true; the input reads as it did. -/
def frontOfUptoRow : OpenClaim := { program := "ytnkbbjeepdjamaa", sum := "15a1a3a58886725ef25310ba80ab8e9e8d5ffbd26f63aa4bbd83a83521ba469a", func := "refinery/refinerylaw09.FrontOf", spec := "frontOf", inPlace := ["slices.overlaps[int]"], unfollowed := true, recurses := true, apart := false, narrowed := true }
def FrontOfUptoSaid : Prop := frontOfUptoRow.holds Try.pinned (OpenSpec.upto frontOfSpec)

/-- 'refinerylaw09.FrontMeets', WHERE WHAT IT READS IS OF BULK AT MOST 1048576: true; the input reads as it did. -/
def frontMeetsUptoRow : OpenClaim := { program := "ytnkbbjeepdjamaa", sum := "15a1a3a58886725ef25310ba80ab8e9e8d5ffbd26f63aa4bbd83a83521ba469a", func := "refinery/refinerylaw09.FrontMeets", spec := "frontMeets", inPlace := ["slices.overlaps[int]"], unfollowed := true, recurses := true, apart := false, narrowed := true }
def FrontMeetsUptoSaid : Prop := frontMeetsUptoRow.holds Try.pinned (OpenSpec.upto frontMeetsSpec)

/-- 'refinerylaw09.FrontAll', WHERE WHAT IT READS IS OF BULK AT MOST 1048576: true; the input reads as it did. -/
def frontAllUptoRow : OpenClaim := { program := "ytnkbbjeepdjamaa", sum := "15a1a3a58886725ef25310ba80ab8e9e8d5ffbd26f63aa4bbd83a83521ba469a", func := "refinery/refinerylaw09.FrontAll", spec := "frontAll", inPlace := ["slices.overlaps[int]"], unfollowed := true, recurses := true, apart := false, narrowed := true }
def FrontAllUptoSaid : Prop := frontAllUptoRow.holds Try.pinned (OpenSpec.upto frontAllSpec)

/-- 'refinerylaw09.FrontBoth', WHERE WHAT IT READS IS OF BULK AT MOST 1048576: true; the input reads as it did. -/
def frontBothUptoRow : OpenClaim := { program := "ytnkbbjeepdjamaa", sum := "15a1a3a58886725ef25310ba80ab8e9e8d5ffbd26f63aa4bbd83a83521ba469a", func := "refinery/refinerylaw09.FrontBoth", spec := "frontBoth", inPlace := ["slices.overlaps[int]"], unfollowed := true, recurses := true, apart := false, narrowed := true }
def FrontBothUptoSaid : Prop := frontBothUptoRow.holds Try.pinned (OpenSpec.upto frontBothSpec)

/-- 'refinerylaw10.LoopsOf', WHERE WHAT IT READS IS OF BULK AT MOST 1048576: true; the input reads as it did. -/
def loopsOfUptoRow : OpenClaim := { program := "ytnkbbjeepdjamaa", sum := "15a1a3a58886725ef25310ba80ab8e9e8d5ffbd26f63aa4bbd83a83521ba469a", func := "refinery/refinerylaw10.LoopsOf", spec := "loopsOf", inPlace := ["slices.overlaps[int]"], unfollowed := true, recurses := true, apart := false, narrowed := true }
def LoopsOfUptoSaid : Prop := loopsOfUptoRow.holds Try.pinned (OpenSpec.upto loopsOfSpec)

/-- 'refinerylaw10.LoopsRing', WHERE WHAT IT READS IS OF BULK AT MOST 1048576: true; the input reads as it did. -/
def loopsRingUptoRow : OpenClaim := { program := "ytnkbbjeepdjamaa", sum := "15a1a3a58886725ef25310ba80ab8e9e8d5ffbd26f63aa4bbd83a83521ba469a", func := "refinery/refinerylaw10.LoopsRing", spec := "loopsRing", inPlace := ["slices.overlaps[int]"], unfollowed := true, recurses := true, apart := false, narrowed := true }
def LoopsRingUptoSaid : Prop := loopsRingUptoRow.holds Try.pinned (OpenSpec.upto loopsRingSpec)

/-- 'refinerylaw10.LoopsNest', WHERE WHAT IT READS IS OF BULK AT MOST 1048576: true; the input reads as it did. -/
def loopsNestUptoRow : OpenClaim := { program := "ytnkbbjeepdjamaa", sum := "15a1a3a58886725ef25310ba80ab8e9e8d5ffbd26f63aa4bbd83a83521ba469a", func := "refinery/refinerylaw10.LoopsNest", spec := "loopsNest", inPlace := ["slices.overlaps[int]"], unfollowed := true, recurses := true, apart := false, narrowed := true }
def LoopsNestUptoSaid : Prop := loopsNestUptoRow.holds Try.pinned (OpenSpec.upto loopsNestSpec)

/-- 'refinerylaw10.LoopsDeep', WHERE WHAT IT READS IS OF BULK AT MOST 1048576: true; the input reads as it did. -/
def loopsDeepUptoRow : OpenClaim := { program := "ytnkbbjeepdjamaa", sum := "15a1a3a58886725ef25310ba80ab8e9e8d5ffbd26f63aa4bbd83a83521ba469a", func := "refinery/refinerylaw10.LoopsDeep", spec := "loopsDeep", inPlace := ["slices.overlaps[int]"], unfollowed := true, recurses := true, apart := false, narrowed := true }
def LoopsDeepUptoSaid : Prop := loopsDeepUptoRow.holds Try.pinned (OpenSpec.upto loopsDeepSpec)

end Rows
end Go.Proofs.Ytnkbbjeepdjamaa
