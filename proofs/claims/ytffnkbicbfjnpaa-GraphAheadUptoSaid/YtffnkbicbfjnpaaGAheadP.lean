/- refinerylaw07.GraphAhead, the plain law: ways that rise give rows that rise; the order. -/
import Derived.Test.YtffnkbicbfjnpaaGReachP
import Derived.Test.YtffnkbicbfjnpaaGTopo
namespace Go.Proofs.Ytffnkbicbfjnpaa
open Go.RowKit
theorem joinB_mem {b : List (List Nat)} {i j k w : Nat} (h : w ∈ (joinB b i j).getD k []) : w ∈ b.getD k [] ∨ (k = i ∧ w = j) := by
  unfold joinB at h
  split at h
  · exact .inl h
  · by_cases e : i = k
    · subst e
      by_cases hi : i < b.length
      · rw [List.getD_eq_getElem?_getD, List.getElem?_set_self hi, Option.getD_some, List.mem_append] at h
        exact h.imp id (fun h => ⟨rfl, by simpa using h⟩)
      · rw [List.getD_eq_getElem?_getD, List.getElem?_eq_none (by rw [List.length_set]; omega)] at h
        simp at h
    · rw [List.getD_eq_getElem?_getD, List.getElem?_set_ne e, ← List.getD_eq_getElem?_getD] at h
      exact .inl h
theorem graphB_rise (n : Nat) : ∀ (m : Nat) (es : List (Nat × Nat)), es.length = m → (∀ e ∈ es, e.1 % n < e.2 % n) → ∀ i, ∀ w ∈ (graphB n es).getD i [], i < w
  | 0, es, hm, _ => by
    obtain rfl : es = [] := List.length_eq_zero_iff.1 hm
    intro i w hw
    simp only [graphB, graphBA, List.foldl_nil, List.getD_eq_getElem?_getD, List.getElem?_replicate] at hw
    split at hw <;> simp at hw
  | m + 1, es, hm, he => by
    rcases List.eq_nil_or_concat es with rfl | ⟨es', e, rfl⟩
    · simp at hm
    · intro i w hw
      rw [List.concat_eq_append] at hm hw he
      rw [graphB_snoc] at hw
      rcases joinB_mem hw with h | ⟨rfl, rfl⟩
      · exact graphB_rise n m es' (by simpa using hm) (fun x hx => he x (List.mem_append_left _ hx)) i w h
      · exact he e (by simp)
/-- In the order a place stands ahead of those behind it. -/
theorem ahead_plain {b : List (List Nat)} {n : Nat} (hn : 0 < n) (hb : b.length = n) (hf : Few b) (hr : ∀ i, ∀ w ∈ b.getD i [], i < w) {x y v w : Nat}
    (hx : (dfs0 (nb b) n).post.reverse[x]? = some v) (hy : (dfs0 (nb b) n).post.reverse[y]? = some w) (hw : w ∈ b.getD v []) : x < y := by
  have hlt : ∀ i, ∀ w ∈ nb b i, w < n := fun i w hw => by
    unfold nb at hw
    rw [List.getD_eq_getElem?_getD] at hw
    cases h : b[i]? with
    | none => rw [h] at hw; simp at hw
    | some l => rw [h] at hw; rw [← hb]; exact hf.lt i l h w hw
  exact topo_before (dfs0_topo (nb b) n hn (fun i w hw => ⟨hr i w hw, hlt i w hw⟩)) (dfs0_whole (nb b) n hn hlt).postnd hx hy hw
end Go.Proofs.Ytffnkbicbfjnpaa
