/- A store into one cell beside a step that leaves its block alone. No condition. -/
import Derived.Test.YteojcdpmlhlfaaaMem
namespace Go.Proofs.Yteojcdpmlhlfaaa
open Go.RowKit

structure PutAt (p o : Nat) (u : Value) (S : Nat → Prop) (w w' : World) : Prop where
  only : Only (fun k => k = p ∨ S k) w w'
  blk : ∀ cs t fr, w.heap[p]? = some (.cells cs t fr) → w'.heap[p]? = some (.cells (cs.setIfInBounds o u) t fr)
theorem PutAt.set {w w1 : World} {p o : Nat} {S : Nat → Prop} (h : Only S w w1) (hp : ¬ S p) (u : Value) (hlt : p < w.heap.size) : PutAt p o u S w (w1.setCell ⟨p, o, none⟩ u) := by
  refine ⟨(h.mono (fun k _ hk => .inr hk)).trans (Only.setCell w1 ⟨p, o, none⟩ u) (fun k _ hk => .inl hk), ?_⟩
  intro cs t fr hh
  have h1 : w1.heap[p]? = some (.cells cs t fr) := (h.block p hlt hp).trans hh
  simp [World.setCell, Array.getElem?_modify, h1]

end Go.Proofs.Yteojcdpmlhlfaaa
