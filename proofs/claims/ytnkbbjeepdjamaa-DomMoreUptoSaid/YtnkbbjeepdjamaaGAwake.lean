/- refinerylaw07.Awake answers true. No condition. -/
import Derived.Test.YtnkbbjeepdjamaaGReach
namespace Go.Proofs.Ytnkbbjeepdjamaa
open Go.RowKit
theorem Gr.form {w : World} {base : Nat} {gv : Value} {b a : List (List Nat)} {S : Nat → Prop} (h : Gr w base gv b a S) : ∃ q p, gv = .agg #[.slice (some ⟨q, 0, none⟩) b.length b.length, .slice (some ⟨p, 0, none⟩) b.length b.length] := by
  obtain ⟨q, p, _, _, e, _⟩ := h.ex
  exact ⟨q, p, e⟩
/-- A box that holds a graph stays. -/
def GBox (w : World) (g : Nat) (gv : Value) : Prop := w.cell? ⟨g, 0, none⟩ = some (gv.cells.getD 0 undef) ∧ w.cell? ⟨g, 1, none⟩ = some (gv.cells.getD 1 undef)
theorem GBox.only {w w' : World} {g : Nat} {gv : Value} {T : Nat → Prop} (h : GBox w g gv) (ho : Only T w w') (hn : ¬ T g) : GBox w' g gv :=
  have hlt := World.block_lt_of_cell? w _ h.1
  ⟨(ho.cell (p := ⟨g, 0, none⟩) hlt hn).trans h.1, (ho.cell (p := ⟨g, 1, none⟩) hlt hn).trans h.2⟩
theorem GBox.later {w w' : World} {g : Nat} {gv : Value} (h : GBox w g gv) (hb : Below w.heap.size w w') : GBox w' g gv :=
  h.only (Only.of_below hb) (fun e => by have := World.block_lt_of_cell? w _ h.1; simp only at this; omega)
end Go.Proofs.Ytnkbbjeepdjamaa
