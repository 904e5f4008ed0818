/- More on sets of bag.Set[int]: Of, whatever the row; a set's cells. Conditions as there. -/
import Derived.Test.YtnkbbjeepdjamaaM4
import Derived.Test.YtnkbbjeepdjamaaM6
namespace Go.Proofs.Ytnkbbjeepdjamaa
open Go.RowKit
namespace SI
theorem CellsAt.only {S : Nat → Prop} {A : Option Addr} {xs : List Int} {w w' : World} (h : CellsAt A xs w) (ho : Only S w w') (hn : ∀ g o, A = some ⟨g, o, none⟩ → ¬ S g) : CellsAt A xs w' := fun i hi => by
  obtain ⟨g, o, e, hc⟩ := h i hi
  exact ⟨g, o, e, (ho.cell (p := ⟨g, o + i, none⟩) (block_lt_of_cell hc) (hn g o e)).trans hc⟩
theorem of (A : Option Addr) (c : Nat) (l : List Int) (w : World) (hn : l.length ≤ 1048576) (hA : CellsAt A l w) :
    Calls Try.prog 36 #[.slice A l.length c] w fun e w' => ∃ v', e = .returned (.agg #[v']) ∧ IsSetI w' w.heap.size v' (ofLI l) ∧ Below w.heap.size w w' := by
  cases l with
  | nil => exact ofI_none A c w
  | cons x l =>
    obtain ⟨g, o, rfl, _⟩ := hA 0 (by simp)
    refine ofI_some g o _ c (x :: l) w rfl hn (fun k y hy => ?_) (by simp)
    obtain ⟨g', o', e, hc⟩ := hA k (List.getElem?_eq_some_iff.1 hy).1
    cases e
    rw [hc, (List.getElem?_eq_some_iff.1 hy).2]
theorem isset_cells {w : World} {base : Nat} {v : Value} {xs : List Int} (h : IsSetI w base v xs) : ∃ A c, v = .slice A xs.length c ∧ CellsAt A xs w ∧ xs.length ≤ maxLen ∧ xs.length ≤ c := by
  rcases own_forms h.own with ⟨rfl, _, hx⟩ | ⟨g, cap, cur, rfl, _, hh, hl, hm, hs, _⟩
  · obtain rfl : xs = [] := List.map_eq_nil_iff.1 hx
    exact ⟨none, 0, rfl, fun i hi => by simp at hi, by simp [maxLen], by simp⟩
  · refine ⟨_, cap, rfl, fun i hi => ⟨g, 0, rfl, ?_⟩, by omega, hl⟩
    rw [Nat.zero_add]
    exact own_cellsI h.own i _ (List.getElem?_eq_getElem hi)
theorem srt_lt {xs : List Int} (h : Srt ltI xs) (i : Nat) (x y : Int) (hx : xs[i]? = some x) (hy : xs[i + 1]? = some y) : x < y := by
  have hi : i + 1 < xs.length := (List.getElem?_eq_some_iff.1 hy).1
  have h1 : xs[i] = x := by
    have := List.getElem?_eq_getElem (l := xs) (i := i) (by omega)
    rw [hx] at this; exact (Option.some.inj this).symm
  have h2 : xs[i + 1] = y := by
    have := List.getElem?_eq_getElem (l := xs) (i := i + 1) hi
    rw [hy] at this; exact (Option.some.inj this).symm
  have := List.pairwise_iff_getElem.1 h i (i + 1) (by omega) hi (by omega)
  rw [h1, h2] at this
  simpa [ltI] using this
end SI
end Go.Proofs.Ytnkbbjeepdjamaa
