/- A store into one cell beside a step that leaves its block alone. No condition. -/
import Derived.Test.YtffnkbicbfjnpaaMem
namespace Go.Proofs.Ytffnkbicbfjnpaa
open Go.RowKit

structure PutAt (p o : Nat) (u : Value) (S : Nat → Prop) (w w' : World) : Prop where
  only : Only (fun k => k = p ∨ S k) w w'
  blk : ∀ cs t fr, w.heap[p]? = some (.cells cs t fr) → w'.heap[p]? = some (.cells (cs.setIfInBounds o u) t fr)
theorem PutAt.set {w w1 : World} {p o : Nat} {S : Nat → Prop} (h : Only S w w1) (hp : ¬ S p) (u : Value) (hlt : p < w.heap.size) : PutAt p o u S w (w1.setCell ⟨p, o, none⟩ u) := by
  refine ⟨(h.mono (fun k _ hk => .inr hk)).trans (Only.setCell w1 ⟨p, o, none⟩ u) (fun k _ hk => .inl hk), ?_⟩
  intro cs t fr hh
  have h1 : w1.heap[p]? = some (.cells cs t fr) := (h.block p hlt hp).trans hh
  simp [World.setCell, Array.getElem?_modify, h1]

theorem PutAt.trans {p o : Nat} {u u' : Value} {S S' : Nat → Prop} {a b c : World} (h : PutAt p o u S a b) (k : PutAt p o u' S' b c) (hS : ∀ x, x < a.heap.size → S' x → S x) : PutAt p o u' S a c := by
  refine ⟨h.only.trans k.only (fun x hx e => e.elim .inl (fun e => .inr (hS x hx e))), fun cs t fr hh => ?_⟩
  rw [k.blk _ _ _ (h.blk cs t fr hh)]
  congr 2
  rw [Array.setIfInBounds_setIfInBounds]
theorem PutAt.mono' {p o : Nat} {u : Value} {S S' : Nat → Prop} {a b : World} (h : PutAt p o u S a b) (hS : ∀ x, S x → S' x) : PutAt p o u S' a b := ⟨h.only.mono (fun x _ e => e.elim .inl (fun e => .inr (hS x e))), h.blk⟩
theorem PutAt.only_trans {p o : Nat} {u : Value} {S S' : Nat → Prop} {a b c : World} (h : PutAt p o u S a b) (k : Only S' b c) (hp : ¬ S' p) (hlt : p < b.heap.size) (hS : ∀ x, x < a.heap.size → S' x → S x) : PutAt p o u S a c :=
  ⟨h.only.trans k (fun x hx e => .inr (hS x hx e)), fun cs t fr hh => (k.block p hlt hp).trans (h.blk cs t fr hh)⟩
theorem PutAt.refl {p o : Nat} {u : Value} {S : Nat → Prop} {w : World} {cs : Array Value} {t : TypeId} {fr : Nat × Nat} (hp : w.heap[p]? = some (.cells cs t fr)) (ho : cs[o]? = some u) : PutAt p o u S w w :=
  ⟨Only.refl _ _, fun cs' t' fr' hh => by
    rw [hp] at hh
    injection hh with hh
    injection hh with h1 h2 h3
    subst h1 h2 h3
    rw [hp]
    congr 2
    apply Array.ext_getElem?
    intro k
    rw [Array.getElem?_setIfInBounds]
    split
    · rename_i e
      subst e
      rw [ho, if_pos (Array.getElem?_eq_some_iff.1 ho).1]
    · rfl⟩

end Go.Proofs.Ytffnkbicbfjnpaa
