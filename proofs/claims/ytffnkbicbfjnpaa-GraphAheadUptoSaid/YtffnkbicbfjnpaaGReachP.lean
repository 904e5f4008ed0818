/- refinerylaw07.GraphReach, the plain law: marks of the places that are met; the sorted order. -/
import Derived.Test.YtffnkbicbfjnpaaGLaw
namespace Go.Proofs.Ytffnkbicbfjnpaa
open Go.RowKit
/-- Marks of the places of a list. -/
def marks (n : Nat) (l : List Nat) : List Bool := (List.range n).map fun i => decide (i ∈ l)
theorem marks_len (n : Nat) (l : List Nat) : (marks n l).length = n := by simp [marks]
theorem marks_nil (n : Nat) : marks n [] = List.replicate n false := by
  apply List.ext_getElem (by simp [marks])
  intro i h1 h2
  simp [marks]
theorem marks_get {n i : Nat} (l : List Nat) (hi : i < n) : (marks n l).getD i true = decide (i ∈ l) := by
  rw [List.getD_eq_getElem?_getD, List.getElem?_eq_getElem (by rw [marks_len]; exact hi)]
  simp [marks]
theorem marks_set {n : Nat} (l : List Nat) (x : Nat) : (marks n l).set x true = marks n (l ++ [x]) := by
  apply List.ext_getElem (by simp [marks])
  intro i h1 h2
  simp only [marks, List.getElem_set, List.getElem_map, List.getElem_range, List.mem_append, List.mem_singleton]
  by_cases e : x = i
  · simp [e]
  · have e' : ¬ i = x := fun h => e h.symm
    simp [e, e']
theorem eq_rising : ∀ (l m : List Nat), l.Pairwise (· < ·) → m.Pairwise (· < ·) → (∀ x, x ∈ l ↔ x ∈ m) → l = m
  | [], [], _, _, _ => rfl
  | [], y :: m, _, _, h => absurd ((h y).2 List.mem_cons_self) (by simp)
  | x :: l, [], _, _, h => absurd ((h x).1 List.mem_cons_self) (by simp)
  | x :: l, y :: m, h1, h2, h => by
    obtain ⟨a1, b1⟩ := List.pairwise_cons.1 h1
    obtain ⟨a2, b2⟩ := List.pairwise_cons.1 h2
    have e : x = y := by
      have hx := (h x).1 List.mem_cons_self
      have hy := (h y).2 List.mem_cons_self
      rcases List.mem_cons.1 hx with e | e
      · exact e
      · rcases List.mem_cons.1 hy with e' | e'
        · exact e'.symm
        · have := a2 x e; have := a1 y e'; omega
    subst e
    rw [eq_rising l m b1 b2 (fun z => ?_)]
    have hz := h z
    simp only [List.mem_cons] at hz
    constructor
    · intro hm
      rcases hz.1 (.inr hm) with e | e
      · have := a1 z hm; omega
      · exact e
    · intro hm
      rcases hz.2 (.inr hm) with e | e
      · have := a2 z hm; omega
      · exact e
/-- The places of a list below n, in order. -/
def upto (l : List Nat) (n : Nat) : List Nat := (List.range n).filter fun i => decide (i ∈ l)
theorem upto_rising (l : List Nat) (n : Nat) : (upto l n).Pairwise (· < ·) := List.Pairwise.filter _ List.pairwise_lt_range
theorem upto_succ (l : List Nat) (i : Nat) : upto l (i + 1) = if i ∈ l then upto l i ++ [i] else upto l i := by
  unfold upto
  rw [List.range_succ, List.filter_append]
  by_cases h : i ∈ l <;> simp [h]
theorem upto_at (l : List Nat) {i n : Nat} (h : i ∈ l) (hi : i < n) : (upto l n)[(upto l i).length]? = some i := by
  obtain ⟨d, rfl⟩ : ∃ d, n = i + 1 + d := ⟨n - (i + 1), by omega⟩
  have e : upto l (i + 1 + d) = upto l (i + 1) ++ ((List.range d).map (i + 1 + ·)).filter fun i => decide (i ∈ l) := by
    unfold upto; rw [List.range_add, List.filter_append]
  rw [e, upto_succ, if_pos h, List.append_assoc]
  simp
theorem upto_le (l : List Nat) {i n : Nat} (hi : i ≤ n) : (upto l i).length ≤ (upto l n).length := by
  obtain ⟨d, rfl⟩ : ∃ d, n = i + d := ⟨n - i, by omega⟩
  unfold upto; rw [List.range_add, List.filter_append, List.length_append]; omega
theorem sort_upto {n : Nat} (l : List Nat) (m : List Nat) (hnd : m.Nodup) (h : ∀ x, x ∈ m ↔ x < n ∧ x ∈ l) : sortN m = upto l n := by
  have hp := List.mergeSort_perm m fun x y => decide (x ≤ y)
  apply eq_rising _ _ _ (upto_rising l n) (fun x => by rw [sortN_mem, h]; simp [upto])
  have h1 : (sortN m).Pairwise (fun a b => decide (a ≤ b) = true) := List.pairwise_mergeSort (fun a b c h1 h2 => by simp at *; omega) (fun a b => by simp; omega) m
  have h2 : (sortN m).Nodup := hp.nodup_iff.2 hnd
  exact (h1.and h2).imp (fun ⟨a, b⟩ => by simp at a; omega)
/-- What the graph's three answers come to. -/
structure RPlain (n : Nat) (b : List (List Nat)) (p : List Nat) : Prop where
  nd : p.Nodup
  lt : ∀ x ∈ p, x < n
  seen : (dfs0 (nb b) n).seen = marks n p
  ord : sortN (dfs0 (nb b) n).post.reverse = upto p n
  len : (upto p n).length = p.length
  le : p.length ≤ n
theorem reach_plain {b : List (List Nat)} {n : Nat} (hn : 0 < n) (hb : b.length = n) (hf : Few b) : RPlain n b (dfs0 (nb b) n).pre := by
  have hw := dfs0_whole (nb b) n hn (fun i w hw => by
    unfold nb at hw
    rw [List.getD_eq_getElem?_getD] at hw
    cases h : b[i]? with
    | none => rw [h] at hw; simp at hw
    | some l => rw [h] at hw; rw [← hb]; exact hf.lt i l h w hw)
  have hlt : ∀ x ∈ (dfs0 (nb b) n).pre, x < n := fun x hx => ((hw.pre x).1 hx).1
  have hlen : (upto (dfs0 (nb b) n).pre n).length = (dfs0 (nb b) n).pre.length := by
    have h1 := sort_upto (n := n) (dfs0 (nb b) n).pre (dfs0 (nb b) n).pre hw.prend (fun x => ⟨fun h => ⟨hlt x h, h⟩, fun h => h.2⟩)
    rw [← h1, sortN_len]
  refine ⟨hw.prend, hlt, ?_, sort_upto _ _ ((List.reverse_perm _).nodup_iff.2 hw.postnd) (fun x => ?_), hlen, ?_⟩
  · apply List.ext_getElem (by rw [hw.len, marks_len])
    intro i h1 h2
    have hi : i < n := by rw [hw.len] at h1; exact h1
    have h3 := hw.seen i hi
    rw [List.getD_eq_getElem?_getD, List.getElem?_eq_getElem h1, Option.getD_some] at h3
    simp only [marks, List.getElem_map, List.getElem_range]
    rw [Bool.eq_iff_iff, h3, decide_eq_true_iff, hw.pre]
    exact ⟨fun h => ⟨hi, h⟩, fun h => h.2⟩
  · rw [List.mem_reverse, hw.post, hw.pre]
    exact ⟨fun h => ⟨h.1, h.1, h.2⟩, fun h => h.2⟩
  · rw [← hlen]; unfold upto
    exact Nat.le_trans (List.length_filter_le _ _) (by simp)
end Go.Proofs.Ytffnkbicbfjnpaa
