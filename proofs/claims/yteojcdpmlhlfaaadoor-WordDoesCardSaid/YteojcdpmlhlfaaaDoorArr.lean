/- A block of so many cells, told by a function: what is read, what a store does, what keeps it. No condition. -/
import Derived.Test.YteojcdpmlhlfaaaDoorMem
namespace Go.Proofs.YteojcdpmlhlfaaaDoor
open Go.RowKit

/-- A block of n cells, told by a function. -/
def Arr (w : World) (q : Nat) (t : TypeId) (n : Nat) (f : Nat → Value) : Prop := ∃ cs, w.heap[q]? = some (.cells cs t (0, 0)) ∧ cs.size = n ∧ ∀ i, i < n → cs[i]? = some (f i)
theorem Arr.lt {w : World} {q : Nat} {t : TypeId} {n : Nat} {f : Nat → Value} (h : Arr w q t n f) : q < w.heap.size := by
  obtain ⟨cs, hh, _⟩ := h
  exact (Array.getElem?_eq_some_iff.1 hh).1
theorem Arr.cell {w : World} {q : Nat} {t : TypeId} {n : Nat} {f : Nat → Value} (h : Arr w q t n f) (i : Nat) (hi : i < n) : w.cell? ⟨q, i, none⟩ = some (f i) := by
  obtain ⟨cs, hh, _, hf⟩ := h
  rw [cell_of_blk _ _ _ _ _ hh]; exact hf i hi
theorem Arr.frozen {w : World} {q : Nat} {t : TypeId} {n : Nat} {f : Nat → Value} (h : Arr w q t n f) (i : Nat) : w.frozen? ⟨q, i, none⟩ = false := by
  obtain ⟨cs, hh, _⟩ := h
  simp [World.frozen?, hh]
theorem Arr.only {S : Nat → Prop} {w w' : World} {q : Nat} {t : TypeId} {n : Nat} {f : Nat → Value} (h : Arr w q t n f) (ho : Only S w w') (hn : ¬ S q) : Arr w' q t n f := by
  obtain ⟨cs, hh, hs⟩ := h
  exact ⟨cs, (ho.block q (Array.getElem?_eq_some_iff.1 hh).1 hn).trans hh, hs⟩
theorem Arr.set {w : World} {q : Nat} {t : TypeId} {n : Nat} {f : Nat → Value} (h : Arr w q t n f) (i : Nat) (hi : i < n) (u : Value) : Arr (w.setCell ⟨q, i, none⟩ u) q t n (fun j => if j = i then u else f j) := by
  obtain ⟨cs, hh, hs, hf⟩ := h
  refine ⟨cs.setIfInBounds i u, by simp [World.setCell, Array.getElem?_modify, hh], by simpa using hs, fun j hj => ?_⟩
  rw [Array.getElem?_setIfInBounds]
  by_cases e : i = j
  · subst e
    simp; omega
  · have e' : ¬ j = i := fun h => e h.symm
    simp [e, e', hf j hj]
theorem Arr.congr {w : World} {q : Nat} {t : TypeId} {n : Nat} {f g : Nat → Value} (h : Arr w q t n f) (e : ∀ i, i < n → f i = g i) : Arr w q t n g := by
  obtain ⟨cs, hh, hs, hf⟩ := h
  exact ⟨cs, hh, hs, fun i hi => by rw [hf i hi, e i hi]⟩

end Go.Proofs.YteojcdpmlhlfaaaDoor
