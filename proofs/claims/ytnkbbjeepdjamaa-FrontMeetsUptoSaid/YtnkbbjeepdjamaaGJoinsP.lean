/- Rows ahead, told by rows behind; lists that rise. No condition. -/
import Derived.Test.YtnkbbjeepdjamaaM3
namespace Go.Proofs.Ytnkbbjeepdjamaa
/-- Rising lists with the same members are the same. -/
theorem rise_ext : ∀ (l m : List Nat), l.Pairwise (· < ·) → m.Pairwise (· < ·) → (∀ x, x ∈ l ↔ x ∈ m) → l = m
  | [], [], _, _, _ => rfl
  | [], y :: m, _, _, h => by have := (h y).2 (by simp); cases this
  | x :: l, [], _, _, h => by have := (h x).1 (by simp); cases this
  | x :: l, y :: m, hl, hm, h => by
    rw [List.pairwise_cons] at hl hm
    have hxy : x = y := by
      have h1 := (h x).1 (by simp)
      have h2 := (h y).2 (by simp)
      rcases List.mem_cons.1 h1 with e | e
      · exact e
      · rcases List.mem_cons.1 h2 with e' | e'
        · exact e'.symm
        · have := hl.1 y e'; have := hm.1 x e; omega
    subst hxy
    congr 1
    refine rise_ext l m hl.2 hm.2 (fun z => ⟨fun hz => ?_, fun hz => ?_⟩)
    · rcases List.mem_cons.1 ((h z).1 (by simp [hz])) with e | e
      · subst e; have := hl.1 z hz; omega
      · exact e
    · rcases List.mem_cons.1 ((h z).2 (by simp [hz])) with e | e
      · subst e; have := hm.1 z hz; omega
      · exact e
theorem sortN_rise {l : List Nat} (h : l.Nodup) : (sortN l).Pairwise (· < ·) := by
  have h1 : (sortN l).Pairwise (fun x y => decide (x ≤ y) = true) := List.pairwise_mergeSort (fun a b c h1 h2 => by simp at *; omega) (fun a b => by simp; omega) l
  have h2 : (sortN l).Nodup := ((List.mergeSort_perm l _).nodup_iff).2 h
  rw [List.nodup_iff_pairwise_ne] at h2
  exact (h1.and h2).imp (fun ⟨h1, h2⟩ => by simp at h1; omega)
/-- Which are behind, which ahead. -/
structure Twin (n : Nat) (b a : List (List Nat)) : Prop where
  lb : b.length = n
  la : a.length = n
  nd : ∀ i, (b.getD i []).Nodup
  rise : ∀ j, (a.getD j []).Pairwise (· < ·)
  mem : ∀ j x, x ∈ a.getD j [] ↔ x < n ∧ j ∈ b.getD x []
theorem getD_set_row {b : List (List Nat)} {i k : Nat} {l : List Nat} (hi : i < b.length) : (b.set i l).getD k [] = if k = i then l else b.getD k [] := by
  rw [List.getD_eq_getElem?_getD, List.getElem?_set, List.getD_eq_getElem?_getD]
  by_cases e : i = k
  · subst e; simp [hi]
  · have : ¬ k = i := fun h => e h.symm
    simp [e, this]
theorem Twin.join {n : Nat} {b a : List (List Nat)} (h : Twin n b a) {i j : Nat} (hi : i < n) (hj : j < n) : Twin n (joinB b i j) (joinA b a i j) := by
  unfold joinB joinA
  by_cases hin : j ∈ b.getD i []
  · rw [if_pos hin, if_pos hin]; exact h
  · rw [if_neg hin, if_neg hin]
    have hib : i < b.length := by rw [h.lb]; exact hi
    have hja : j < a.length := by rw [h.la]; exact hj
    have hia : i ∉ a.getD j [] := fun e => hin ((h.mem j i).1 e).2
    refine ⟨by simp [h.lb], by simp [h.la], fun k => ?_, fun k => ?_, fun k x => ?_⟩
    · rw [getD_set_row hib]
      split
      · exact List.nodup_append.2 ⟨h.nd i, by simp, fun x hx y hy e => by simp at hy; subst hy; subst e; exact hin hx⟩
      · exact h.nd k
    · rw [getD_set_row hja]
      split
      · refine sortN_rise (List.nodup_append.2 ⟨(h.rise j).imp (fun h => Nat.ne_of_lt h) |> List.nodup_iff_pairwise_ne.2, by simp, fun x hx y hy e => by simp at hy; subst hy; subst e; exact hia hx⟩)
      · exact h.rise k
    · rw [getD_set_row hja, getD_set_row hib]
      by_cases e1 : k = j
      · subst e1
        rw [if_pos rfl, sortN_mem, List.mem_append, h.mem]
        by_cases e2 : x = i
        · subst e2; simp [hi]
        · simp [e2]
      · rw [if_neg e1, h.mem]
        by_cases e2 : x = i
        · subst e2; simp [e1]
        · simp [e2]
theorem graph_twin (n : Nat) (hn : 0 < n) (es : List (Nat × Nat)) : Twin n (graphB n es) (graphA n es) := by
  suffices h : ∀ (k : Nat), Twin n (graphB n (es.take k)) (graphA n (es.take k)) by
    have := h es.length; rwa [List.take_length] at this
  intro k
  induction k with
  | zero =>
    have e : ∀ j, (List.replicate n ([] : List Nat)).getD j [] = [] := fun j => by
      rw [List.getD_eq_getElem?_getD, List.getElem?_replicate]; split <;> rfl
    refine ⟨by simp [graphB, graphBA], by simp [graphA, graphBA], fun i => ?_, fun j => ?_, fun j x => ?_⟩
    · show ((List.replicate n ([] : List Nat)).getD i []).Nodup
      rw [e]; exact List.nodup_nil
    · show ((List.replicate n ([] : List Nat)).getD j []).Pairwise _
      rw [e]; exact List.Pairwise.nil
    · show x ∈ (List.replicate n ([] : List Nat)).getD j [] ↔ x < n ∧ j ∈ (List.replicate n ([] : List Nat)).getD x []
      rw [e, e]; simp
  | succ k ih =>
    by_cases hk : k < es.length
    · rw [take_snoc' es k _ (List.getElem?_eq_getElem hk), graphB_snoc, graphA_snoc]
      exact ih.join (Nat.mod_lt _ hn) (Nat.mod_lt _ hn)
    · rw [List.take_of_length_le (by omega)]
      rwa [List.take_of_length_le (by omega)] at ih
/-- Those ahead of a place, one after the other. -/
def aheadOf (b : List (List Nat)) (n i : Nat) : List Nat := (List.range n).filter (fun k => decide (i ∈ b.getD k []))
theorem aheadOf_eq {n : Nat} {b a : List (List Nat)} (h : Twin n b a) (i : Nat) : a.getD i [] = aheadOf b n i := by
  refine rise_ext _ _ (h.rise i) ((List.pairwise_lt_range).filter _) (fun x => ?_)
  rw [h.mem]
  simp [aheadOf]
theorem aheadOf_snoc (b : List (List Nat)) (k i : Nat) : aheadOf b (k + 1) i = if i ∈ b.getD k [] then aheadOf b k i ++ [k] else aheadOf b k i := by
  unfold aheadOf
  rw [List.range_succ, List.filter_append]
  by_cases h : i ∈ b.getD k []
  · rw [if_pos h, List.filter_cons_of_pos (by simpa using h), List.filter_nil]
  · rw [if_neg h, List.filter_cons_of_neg (by simpa using h), List.filter_nil, List.append_nil]
theorem aheadOf_len (b : List (List Nat)) (k i : Nat) : (aheadOf b k i).length ≤ k := by
  have := List.length_filter_le (fun k => decide (i ∈ b.getD k [])) (List.range k)
  rw [List.length_range] at this
  exact this
end Go.Proofs.Ytnkbbjeepdjamaa
