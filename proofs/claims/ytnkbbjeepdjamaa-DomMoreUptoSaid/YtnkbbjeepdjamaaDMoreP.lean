/- One way more; places in a row: which is over which, plain. No condition. -/
import Derived.Test.YtnkbbjeepdjamaaDOut
import Derived.Test.YtnkbbjeepdjamaaGJoinsP
namespace Go.Proofs.Ytnkbbjeepdjamaa
theorem nb_join {b : List (List Nat)} {i j k c : Nat} (hi : i < b.length) : c ∈ nb (joinB b i j) k ↔ c ∈ nb b k ∨ (k = i ∧ c = j) := by
  unfold nb joinB
  by_cases hin : j ∈ b.getD i []
  · rw [if_pos hin]
    exact ⟨.inl, fun e => e.elim id (fun ⟨e1, e2⟩ => by rw [e1, e2]; exact hin)⟩
  · rw [if_neg hin, getD_set_row hi]
    by_cases e : k = i
    · subst e; simp
    · simp [e]
theorem nb_more {n : Nat} (hn : 0 < n) (es : List (Nat × Nat)) (e : Nat × Nat) {k c : Nat} (h : c ∈ nb (graphB n es) k) : c ∈ nb (graphB n (es ++ [e])) k := by
  rw [graphB_snoc]
  exact (nb_join (by rw [(graph_rows n hn es).lb]; exact Nat.mod_lt _ hn)).2 (.inl h)
theorem wayO_more {g g' : Nat → List Nat} (hg : ∀ k c, c ∈ g k → c ∈ g' k) {a : Int} {x : Nat} (h : WayO g a x) : WayO g' a x := by
  induction h with
  | zero h => exact .zero h
  | step _ hc hn ih => exact ih.step (hg _ _ hc) hn
/-- With one way more no place is over another one that it wasn't over. -/
theorem ov_more {g g' : Nat → List Nat} (hg : ∀ k c, c ∈ g k → c ∈ g' k) {x y : Nat} (hx : Way g 0 x) (hy : Way g 0 y) (h : LT.Ov g' x y) : LT.Ov g x y :=
  ⟨hx, hy, fun e => h.2.2 (wayO_more hg e)⟩
/-- So many places in a row. -/
def rowE (k : Nat) : List (Nat × Nat) := (List.range k).map (fun i => (i, i + 1))
theorem rowE_succ (k : Nat) : rowE (k + 1) = rowE k ++ [(k, k + 1)] := by simp [rowE, List.range_succ]
theorem rowE_len (k : Nat) : (rowE k).length = k := by simp [rowE]
theorem nb_row {m : Nat} : ∀ (k : Nat), k < m → ∀ (i c : Nat), (c ∈ nb (graphB m (rowE k)) i ↔ i < k ∧ c = i + 1)
  | 0, h, i, c => by
    have : nb (graphB m (rowE 0)) i = [] := by
      show (List.replicate m []).getD i [] = []
      rw [List.getD_eq_getElem?_getD, List.getElem?_replicate]
      split <;> rfl
    rw [this]; simp
  | k + 1, h, i, c => by
    rw [rowE_succ, graphB_snoc, nb_join (by rw [(graph_rows m (by omega) _).lb]; exact Nat.mod_lt _ (by omega)), nb_row k (by omega)]
    rw [Nat.mod_eq_of_lt (by omega : k < m), Nat.mod_eq_of_lt h]
    constructor
    · rintro (⟨h1, h2⟩ | ⟨h1, h2⟩)
      · exact ⟨by omega, h2⟩
      · subst h1; exact ⟨by omega, h2⟩
    · rintro ⟨h1, h2⟩
      by_cases e : i = k
      · subst e; exact .inr ⟨rfl, h2⟩
      · exact .inl ⟨by omega, h2⟩
theorem way_row {k : Nat} : ∀ y, y ≤ k → Way (nb (graphB (k + 1) (rowE k))) 0 y
  | 0, _ => .refl 0
  | y + 1, h => (way_row y (by omega)).step ((nb_row k (by omega) y (y + 1)).2 ⟨by omega, rfl⟩)
theorem wayO_row {k x : Nat} : ∀ y, y < x → y ≤ k → WayO (nb (graphB (k + 1) (rowE k))) (x : Int) y
  | 0, h, _ => .zero (by omega)
  | y + 1, h, h2 => (wayO_row y (by omega) (by omega)).step ((nb_row k (by omega) y (y + 1)).2 ⟨by omega, rfl⟩) (by omega)
theorem wayO_row' {k x y : Nat} (h : WayO (nb (graphB (k + 1) (rowE k))) (x : Int) y) : y < x := by
  induction h with
  | zero h => omega
  | step _ hc hn ih =>
    have := ((nb_row k (by omega) _ _).1 hc).2
    omega
/-- In a row each is over those behind it. -/
theorem ov_row {k x y : Nat} (hx : x ≤ k) (hy : y ≤ k) : LT.Ov (nb (graphB (k + 1) (rowE k))) x y ↔ x ≤ y := by
  constructor
  · intro h
    apply Classical.byContradiction
    intro hn
    exact h.2.2 (wayO_row y (by omega) hy)
  · intro h
    exact ⟨way_row x hx, way_row y hy, fun e => by have := wayO_row' e; omega⟩
end Go.Proofs.Ytnkbbjeepdjamaa
