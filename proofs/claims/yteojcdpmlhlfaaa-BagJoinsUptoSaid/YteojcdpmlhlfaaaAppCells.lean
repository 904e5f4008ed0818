/- append of a whole slice onto a row of the call's own, the source nil, empty or not. Conditions: one-cell elements; the source's cells hold what is told. -/
import Derived.Test.YteojcdpmlhlfaaaMem
import Derived.ArgAppend
namespace Go.Proofs.Yteojcdpmlhlfaaa
open Go.RowKit
theorem append_cells {P : Program} {w : World} {base : Nat} (t ty e : TypeId) (i : TypeInfo) (z : Value) (bytes : Nat) (ht : P.underlying t = some (.slice e)) (hi : P.info? e = some i) (hz : i.zero = some z) (hsize : i.size = 1) (hby : i.bytes = bytes) (hzs : z.cells.size = 1)
    {v : Value} {n : Nat} {xs : List Value} (h : w.ownsRow base e 1 v n xs) (A : Option Addr) (c : Nat) (news : List Value) (hA : ∀ j u, news[j]? = some u → ∃ g o, A = some ⟨g, o, none⟩ ∧ w.cell? ⟨g, o + j, none⟩ = some u) (h1 : ∀ u ∈ news, u.oneCell' = true)
    (hb : base ≤ w.heap.size) (h63 : n + news.length ≤ maxLen) (hbytes : (n + news.length) * bytes ≤ 140737488355328) :
    ∃ v' w', (Builtin.append_ #[t, t] ty #[v, .slice A news.length c]).run P w = .ok v' w' ∧ w'.ownsRow base e 1 v' (n + news.length) (xs ++ news) ∧ w.grownBy w' v.ownBlock := by
  cases A with
  | none =>
    have hn : news = [] := by
      cases news with
      | nil => rfl
      | cons u r => obtain ⟨g, o, e, _⟩ := hA 0 u rfl; cases e
    subst hn
    refine ⟨v, w, ?_, by simpa using h, World.grownBy.refl _ _⟩
    rcases h.2 with ⟨rfl, rfl⟩ | ⟨g, cap, cur, rfl, _, _, hnc, _⟩
    · simp [Builtin.append_, run_underlying ht, sizeOf, typeInfo, hi, Builtin.lenOf, Builtin.firstCells]
    · simp [Builtin.append_, run_underlying ht, sizeOf, typeInfo, hi, Builtin.lenOf, Builtin.firstCells, hnc, storeCells]
  | some ad =>
    obtain ⟨v', w', hr, r1, r2, _⟩ := run_append_own (P := P) w base t ty e i z 1 bytes ht hi hz hsize hby hzs (by omega) v n xs h ad news.length c news (by simp) (fun j u hj => by
      obtain ⟨g, o, e, hc⟩ := hA j u hj
      cases e
      rw [Addr.add_lit]; exact hc) h1 h63 hbytes hb
    exact ⟨v', w', hr, r1, r2⟩
end Go.Proofs.Yteojcdpmlhlfaaa
