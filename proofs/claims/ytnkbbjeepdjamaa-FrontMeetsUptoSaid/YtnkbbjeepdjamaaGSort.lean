/- slices.Sort and slices.Reverse of a row of numbers, wherever it lies. Condition: few numbers. -/
import Derived.Test.YtnkbbjeepdjamaaM2
import Derived.Test.YtnkbbjeepdjamaaShelf
namespace Go.Proofs.Ytnkbbjeepdjamaa
open Go.RowKit Go.Sort
theorem heap_put {w : World} {g o n : Nat} {os : Array Obj} {cur : Array Value} {e : TypeId} {fr : Nat × Nat} (d : Array Int) (hb : w.heap[g]? = some (.cells cur e fr)) :
    (grow (putRow (Value.int .i64) (Go.Sort.ahead w n) g o d) os).heap[g]? = some (.cells (putCells (Value.int .i64) o d cur) e fr) := by
  have hg : g < w.heap.size := (Array.getElem?_eq_some_iff.1 hb).1
  rw [heap_grow_old _ _ (by simpa using hg)]
  simp [putRow, mapBlock, Go.Sort.ahead, Array.getElem?_modify, hb, onCells]
theorem only_put {w : World} {g o n : Nat} {os : Array Obj} (d : Array Int) : Only (fun k => k = g) w (grow (putRow (Value.int .i64) (Go.Sort.ahead w n) g o d) os) := by
  refine ⟨rfl, rfl, rfl, by simp, fun k hk hne => ?_⟩
  rw [heap_grow_old _ _ (by simpa using hk)]
  have : g ≠ k := fun e => hne e.symm
  simp [putRow, mapBlock, Go.Sort.ahead, Array.getElem?_modify, this]
theorem rowAt_put {w : World} {base g o c n : Nat} {os : Array Obj} {l l' : List Int} (h : RowAt w base 3 (.slice (some ⟨g, o, none⟩) l.length c) (l.map (Value.int .i64))) (hl : l'.length = l.length) :
    RowAt (grow (putRow (Value.int .i64) (Go.Sort.ahead w n) g o l'.toArray) os) base 3 (.slice (some ⟨g, o, none⟩) l.length c) (l'.map (Value.int .i64)) := by
  rcases h with ⟨h, _⟩ | ⟨g', o', cap, cur, hv, hb, hh, h1, h2, h3, hx⟩
  · cases h
  · injection hv with a1 a2 a3
    injection a1 with a1
    injection a1 with a1 a4
    subst a1 a3 a4
    refine .inr ⟨g, o, c, _, by simp [hl], hb, heap_put _ hh, by simpa [hl] using h1, h2, by simpa [putCells] using h3, fun j u hj => ?_⟩
    have hjl : j < l'.length := by simpa using (List.getElem?_eq_some_iff.1 hj).1
    have hs : o + j < cur.size := by simp at h1; omega
    rw [List.getElem?_map, List.getElem?_eq_getElem hjl] at hj
    simp only [Option.map_some, Option.some.injEq] at hj
    subst hj
    simp [putCells, hs, hjl]
theorem holds_row {w : World} {base g o c : Nat} {l : List Int} (h : RowAt w base 3 (.slice (some ⟨g, o, none⟩) l.length c) (l.map (Value.int .i64))) : Holds (Value.int .i64) w g o l.toArray := by
  intro j hj
  have hj' : j < l.length := by simpa using hj
  refine ⟨by rw [h.cell j (.int .i64 l[j]) (by simp [List.getElem?_eq_getElem hj'])]; simp [hj'], ?_⟩
  rcases h with ⟨h, _⟩ | ⟨g', o', cap, cur, hv, hb, hh, _⟩
  · cases h
  · injection hv with a1
    injection a1 with a1
    injection a1 with a1
    subst a1
    simp [World.frozen?, hh]
def ivs (l : List Nat) : List Int := l.map Int.ofNat
theorem ivs_map (l : List Nat) : (ivs l).map (Value.int .i64) = l.map iv := by unfold ivs; rw [List.map_map]; rfl
theorem ivs_len (l : List Nat) : (ivs l).length = l.length := by simp [ivs]
theorem ivs_sort (l : List Nat) : (ivs l).mergeSort (fun x y => decide (x ≤ y)) = ivs (l.mergeSort (fun x y => decide (x ≤ y))) := by
  unfold ivs
  rw [List.map_mergeSort]
  intro a _ b _
  simp
theorem rowAt_forms {w : World} {base : Nat} {e : TypeId} {v : Value} {l : List Int} (h : RowAt w base e v (l.map (Value.int .i64))) : (v = .slice none 0 0 ∧ l = []) ∨ ∃ g o c, v = .slice (some ⟨g, o, none⟩) l.length c := by
  rcases h with ⟨h1, h2⟩ | ⟨g, o, cap, cur, hv, _⟩
  · exact .inl ⟨h1, by simpa using h2⟩
  · exact .inr ⟨g, o, cap, by simpa using hv⟩
/-- A row is sorted. -/
theorem sortG {w : World} {base : Nat} {v : Value} {l : List Nat} (h : RowAt w base 3 v (l.map iv)) (hn : l.length ≤ 1048576) :
    Calls Try.prog 60 #[v] w fun e w' => e = .returned (.tuple #[]) ∧ RowAt w' base 3 v ((l.mergeSort fun x y => decide (x ≤ y)).map iv) ∧ Only (fun k => v.ownBlock = some k) w w' := by
  rw [← ivs_map] at h
  rw [← ivs_map, ← ivs_sort]
  rcases rowAt_forms h with ⟨rfl, h0⟩ | ⟨g, o, c, rfl⟩
  · refine (Try.slices_Sort_int_none none 0 w).mono ?_
    rintro e w' ⟨rfl, rfl⟩
    exact ⟨rfl, by rw [h0] at h ⊢; simpa using h, Only.refl _ _⟩
  · refine (Try.slices_Sort_int g o c (ivs l) w (holds_row h) (h.lt rfl).1 (by rw [ivs_len]; omega)).mono ?_
    rintro e w' ⟨rfl, n, os, rfl⟩
    exact ⟨rfl, rowAt_put h (by simp), (only_put _).mono (fun k _ e => by rw [e]; rfl)⟩
theorem reverseG {w : World} {base : Nat} {v : Value} {l : List Nat} (h : RowAt w base 3 v (l.map iv)) (hn : l.length ≤ 1048576) :
    Calls Try.prog 106 #[v] w fun e w' => e = .returned (.tuple #[]) ∧ RowAt w' base 3 v (l.reverse.map iv) ∧ Only (fun k => v.ownBlock = some k) w w' := by
  rw [← ivs_map] at h
  rw [← ivs_map, show ivs l.reverse = (ivs l).reverse by simp [ivs]]
  rcases rowAt_forms h with ⟨rfl, h0⟩ | ⟨g, o, c, rfl⟩
  · refine (Try.slices_Reverse_int_empty none 0 w).mono ?_
    rintro e w' h'
    have h1 := h'.1
    have h2 := h'.2
    refine ⟨h1, ?_, ?_⟩
    · rw [h2, h0] at *; simpa using h
    · rw [h2]; exact Only.refl _ _
  · refine (Try.slices_Reverse_int g o c (ivs l) w (holds_row h) (by rw [ivs_len]; omega)).mono ?_
    rintro e w' ⟨rfl, n, rfl⟩
    have e1 : putRow (Value.int .i64) (Go.Sort.ahead w n) g o (ivs l).reverse.toArray = grow (putRow (Value.int .i64) (Go.Sort.ahead w n) g o (ivs l).reverse.toArray) #[] := by unfold grow; rw [Array.append_empty]
    rw [e1]
    exact ⟨rfl, rowAt_put h (by simp), (only_put _).mono (fun k _ e => by rw [e]; rfl)⟩
end Go.Proofs.Ytnkbbjeepdjamaa
