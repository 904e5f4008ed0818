/- The cells of a row, wherever they lie. No condition. -/
import Derived.Shelf.Abstract
import Derived.Shelf.RegionOpen
import Derived.WalkKit
import Derived.OwnWalkIn
import Derived.TacticsInMore
import Derived.LoopNIn
import Derived.LoopIn
import Derived.Test.YtnkbbjeepdjamaaRow
import Derived.Test.YtnkbbjeepdjamaaProg
namespace Go.Proofs.Ytnkbbjeepdjamaa
open Go.RowKit
namespace SI
def CellsAt (A : Option Addr) (xs : List Int) (W : World) : Prop := ∀ (i : Nat) (hi : i < xs.length), ∃ g o, A = some ⟨g, o, none⟩ ∧ W.cell? ⟨g, o + i, none⟩ = some (.int .i64 xs[i])
end SI
end Go.Proofs.Ytnkbbjeepdjamaa
