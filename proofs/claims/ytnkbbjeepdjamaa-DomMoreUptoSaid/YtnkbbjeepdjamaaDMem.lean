/- A block of numbers in memory, each known. No condition. -/
import Derived.Test.YtnkbbjeepdjamaaGMem
namespace Go.Proofs.Ytnkbbjeepdjamaa
open Go.RowKit
def zv (x : Int) : Value := .int .i64 x
/-- A block of numbers. -/
def Ints (w : World) (q : Nat) (l : List Int) : Prop := w.heap[q]? = some (.cells (l.map zv).toArray 3 (0, 0))
theorem Ints.only {w w' : World} {q : Nat} {l : List Int} {T : Nat → Prop} (h : Ints w q l) (ho : Only T w w') (hn : ¬ T q) : Ints w' q l := (ho.block q (lt_blk h) hn).trans h
theorem Ints.later {w w' : World} {q : Nat} {l : List Int} (h : Ints w q l) (hb : Below w.heap.size w w') : Ints w' q l := (hb.block q (lt_blk h)).trans h
theorem Ints.cell {w : World} {q : Nat} {l : List Int} (h : Ints w q l) {i : Nat} {x : Int} (hi : l[i]? = some x) : w.cell? ⟨q, i, none⟩ = some (.int .i64 x) := by
  rw [cell_of_blk _ _ _ _ _ h]
  simp [hi, zv]
theorem Ints.frozen {w : World} {q : Nat} {l : List Int} (h : Ints w q l) (i : Nat) : w.frozen? ⟨q, i, none⟩ = false := by
  have h' : w.heap[q]? = some (.cells (l.map zv).toArray 3 (0, 0)) := h
  simp [World.frozen?, h']
theorem Ints.set {w : World} {q : Nat} {l : List Int} (h : Ints w q l) (i : Nat) (x : Int) : Ints (w.setCell ⟨q, i, none⟩ (.int .i64 x)) q (l.set i x) := by
  have h' : w.heap[q]? = some (.cells (l.map zv).toArray 3 (0, 0)) := h
  have e : (l.set i x).map zv = (l.map zv).set i (zv x) := by rw [List.map_set]
  unfold Ints
  rw [e, show ((l.map zv).set i (zv x)).toArray = (l.map zv).toArray.setIfInBounds i (zv x) by simp]
  simp [World.setCell, Array.getElem?_modify, h', zv]
theorem Ints.ne {w : World} {q p : Nat} {l : List Int} {cs : Array Value} {t : TypeId} {f : Nat × Nat} (h : Ints w q l) (hp : w.heap[p]? = some (.cells cs t f)) (hne : 3 ≠ t) : q ≠ p := fun e => by
  subst e
  exact blk_ne h hp hne rfl
/-- As a row. -/
theorem Ints.cells {w : World} {q : Nat} {l : List Int} (h : Ints w q l) (i : Nat) (hi : i < l.length) : w.cell? ⟨q, i, none⟩ = some (.int .i64 l[i]) := h.cell (List.getElem?_eq_getElem hi)
end Go.Proofs.Ytnkbbjeepdjamaa
