/- dom.Tree in memory. No condition. -/
import Derived.Test.YtnkbbjeepdjamaaDFill
import Derived.Test.YtnkbbjeepdjamaaDOut
namespace Go.Proofs.Ytnkbbjeepdjamaa
open Go.RowKit
/-- A tree's value: the nearest ones, those below each, the depths. -/
def treeV (qu qb qd n : Nat) : Value := .agg #[.slice (some ⟨qu, 0, none⟩) n n, .slice (some ⟨qb, 0, none⟩) n n, .slice (some ⟨qd, 0, none⟩) n n]
/-- Those whose nearest one is u, of the first k. -/
def belowOf (up : List Int) (k u : Nat) : List Nat := (List.range k).filter (fun v => decide (up[v]? = some (u : Int)))
def belows (up : List Int) (n k : Nat) : List (List Nat) := (List.range n).map (belowOf up k)
theorem belows_len (up : List Int) (n k : Nat) : (belows up n k).length = n := by simp [belows]
theorem belows_get (up : List Int) {n k u : Nat} (hu : u < n) : (belows up n k)[u]? = some (belowOf up k u) := by
  simp [belows, hu]
theorem belows_zero (up : List Int) (n : Nat) : belows up n 0 = List.replicate n [] := by
  apply List.ext_getElem?
  intro i
  by_cases hi : i < n
  · rw [belows_get up hi, List.getElem?_replicate, if_pos hi]; simp [belowOf]
  · rw [List.getElem?_eq_none (by rw [belows_len]; omega), List.getElem?_eq_none (by simp; omega)]
theorem belowOf_succ (up : List Int) (k u : Nat) : belowOf up (k + 1) u = if up[k]? = some (u : Int) then belowOf up k u ++ [k] else belowOf up k u := by
  unfold belowOf
  rw [List.range_succ, List.filter_append]
  by_cases h : up[k]? = some (u : Int) <;> simp [h]
theorem belows_none {up : List Int} {n k : Nat} (h : ∀ u : Nat, up[k]? ≠ some (u : Int)) : belows up n (k + 1) = belows up n k := by
  unfold belows
  apply List.map_congr_left
  intro u _
  rw [belowOf_succ, if_neg (h u)]
theorem belows_some {up : List Int} {n k u : Nat} (h : up[k]? = some (u : Int)) : belows up n (k + 1) = (belows up n k).set u (belowOf up k u ++ [k]) := by
  apply List.ext_getElem?
  intro i
  by_cases hi : i < n
  · rw [belows_get up hi, belowOf_succ]
    by_cases e : u = i
    · subst e
      rw [if_pos h, List.getElem?_set_self (by rw [belows_len]; exact hi)]
    · rw [List.getElem?_set_ne e, belows_get up hi, if_neg (fun e2 => e (by rw [h] at e2; have := Option.some.inj e2; omega))]
  · rw [List.getElem?_eq_none (by rw [belows_len]; omega), List.getElem?_eq_none (by rw [List.length_set, belows_len]; omega)]
theorem belowOf_len (up : List Int) (k u : Nat) : (belowOf up k u).length ≤ k := by
  unfold belowOf
  exact Nat.le_trans (List.length_filter_le _ _) (by simp)
/-- A tree in memory. -/
structure TR (w : World) (base n qu qb qd : Nat) (vs : List Value) (up deep : List Int) (bl : List (List Nat)) : Prop where
  up : Ints w qu up
  deep : Ints w qd deep
  mat : Mat w base qb vs bl
  ne : qu ≠ qd
  lb : bl.length = n
section
variable {w w' : World} {base n qu qb qd : Nat} {vs : List Value} {up deep : List Int} {bl : List (List Nat)}
theorem TR.only {T : Nat → Prop} (h : TR w base n qu qb qd vs up deep bl) (ho : Only T w w') (hu : ¬ T qu) (hd : ¬ T qd) (hm : ∀ g, MatB qb vs g → ¬ T g) : TR w' base n qu qb qd vs up deep bl :=
  ⟨h.up.only ho hu, h.deep.only ho hd, h.mat.only ho hm, h.ne, h.lb⟩
theorem TR.later (h : TR w base n qu qb qd vs up deep bl) (hb : Below w.heap.size w w') : TR w' base n qu qb qd vs up deep bl :=
  ⟨h.up.later hb, h.deep.later hb, h.mat.later hb, h.ne, h.lb⟩
end
end Go.Proofs.Ytnkbbjeepdjamaa
