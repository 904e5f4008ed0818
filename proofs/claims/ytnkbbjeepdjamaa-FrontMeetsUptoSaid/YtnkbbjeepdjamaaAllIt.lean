/- bag.Set[int].All as an iterator. Condition: the loop's body leaves the cells as they are. -/
import Derived.Test.YtnkbbjeepdjamaaM6
import Derived.Test.YtnkbbjeepdjamaaM4
namespace Go.Proofs.Ytnkbbjeepdjamaa
open Go.RowKit Go.Shelf
namespace SI
theorem all_iter (n B L : Nat) (A : Option Addr) (c : Nat) (xs : List Int) (hmax : xs.length ≤ maxLen) (J : Nat → World → Prop) (hRd : ∀ k W, J k W → CellsAt A xs W ∧ W.cell? ⟨B, 0, none⟩ = some (.slice A xs.length c)) :
    Iter Fence.wide n Try.prog 71 #[.pointer (some ⟨B, 0, none⟩)] L (encs xs) (fun k A B => k < xs.length ∧ B = A) (fun k k' => k' = k + 1) (fun k => k = xs.length) J 0 := by
  intro J' Yd' Jx' h1 _ h3 h4 W h0
  refine (all_in n B L A c xs hmax J' (fun _ => Jx') (fun k W h => (hRd k W (h1 k W h)).1) ?_ W (hRd 0 W (h1 0 W h0)).2 h0).mono ?_
  · intro k W hk hj
    refine (h4 k W (h3 k W W hj ⟨hk, rfl⟩)).mono ?_
    rintro e W' (⟨rfl, s', rfl, h5⟩ | ⟨rfl, h5⟩)
    · exact .inl ⟨rfl, h5⟩
    · exact .inr ⟨rfl, h5⟩
  · rintro e W' ⟨hv, h | ⟨_, h⟩⟩
    · exact ⟨hv, .inl ⟨_, h, rfl⟩⟩
    · exact ⟨hv, .inr h⟩
/-- A set's row, as its cells. -/
theorem isset_cellsAt {w : World} {base : Nat} {v : Value} {xs : List Int} (h : IsSetI w base v xs) : ∃ A c, v = .slice A xs.length c ∧ CellsAt A xs w ∧ xs.length ≤ maxLen := by
  rcases own_forms h.own with ⟨rfl, _, hx⟩ | ⟨g, cap, cur, rfl, _, hh, hl, hm, hs, _⟩
  · obtain rfl : xs = [] := List.map_eq_nil_iff.1 hx
    exact ⟨none, 0, rfl, fun i hi => by simp at hi, by simp [maxLen]⟩
  · refine ⟨_, cap, rfl, fun i hi => ⟨g, 0, rfl, ?_⟩, by omega⟩
    rw [Nat.zero_add]
    exact own_cellsI h.own i _ (List.getElem?_eq_getElem hi)
end SI
end Go.Proofs.Ytnkbbjeepdjamaa
