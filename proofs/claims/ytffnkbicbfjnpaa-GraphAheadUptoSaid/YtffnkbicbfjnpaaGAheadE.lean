/- A row of pairs of small numbers, made by the call: one more behind it; it reads as ways. Conditions: few. -/
import Derived.Test.YtffnkbicbfjnpaaGAheadP
import Derived.Test.YtffnkbicbfjnpaaGReachW
namespace Go.Proofs.Ytffnkbicbfjnpaa
open Go.RowKit
def pairsV (l : List (Nat × Nat)) : List Value := l.flatMap (fun e => [.int .u8 (e.1 : Int), .int .u8 (e.2 : Int)])
theorem pairsV_len (l : List (Nat × Nat)) : (pairsV l).length = l.length * 2 := by
  induction l with
  | nil => rfl
  | cons a l ih =>
    have : pairsV (a :: l) = [.int .u8 (a.1 : Int), .int .u8 (a.2 : Int)] ++ pairsV l := rfl
    rw [this, List.length_append, ih]
    simp; omega
theorem pairsV_snoc (l : List (Nat × Nat)) (e : Nat × Nat) : pairsV (l ++ [e]) = pairsV l ++ [.int .u8 (e.1 : Int), .int .u8 (e.2 : Int)] := by simp [pairsV]
theorem pairsV_at : ∀ (l : List (Nat × Nat)) (i x y : Nat), l[i]? = some (x, y) → (pairsV l)[i * 2]? = some (.int .u8 (x : Int)) ∧ (pairsV l)[i * 2 + 1]? = some (.int .u8 (y : Int))
  | [], i, x, y, h => by simp at h
  | a :: l, 0, x, y, h => by
    simp at h; subst h
    exact ⟨rfl, rfl⟩
  | a :: l, i + 1, x, y, h => by
    have e : pairsV (a :: l) = .int .u8 (a.1 : Int) :: .int .u8 (a.2 : Int) :: pairsV l := rfl
    have ih := pairsV_at l i x y (by simpa using h)
    rw [e, show (i + 1) * 2 = i * 2 + 1 + 1 by omega]
    exact ih
theorem info2 : (Try.prog.info? 77).map (fun i => (i.zero, i.size, i.bytes)) = some (some (.agg #[.int .u8 0, .int .u8 0]), 2, 2) := by kernel_rfl
/-- The row, in the call's own memory. -/
def Own2 (w : World) (base : Nat) (v : Value) (l : List (Nat × Nat)) : Prop := w.ownsRow base 77 2 v l.length (pairsV l)
theorem Own2.slice {w : World} {base : Nat} {v : Value} {l : List (Nat × Nat)} (h : Own2 w base v l) : ∃ A c, v = .slice A l.length c ∧ l.length ≤ c := by
  obtain ⟨_, ⟨h1, h2⟩ | ⟨g, cap, cur, hv, _, _, hn, _⟩⟩ := h
  · exact ⟨none, 0, by rw [h1, h2], by omega⟩
  · exact ⟨_, cap, hv, hn⟩
theorem Own2.only {w w' : World} {base : Nat} {v : Value} {l : List (Nat × Nat)} {S : Nat → Prop} (h : Own2 w base v l) (ho : Only S w w') (hn : ∀ g, v.ownBlock = some g → ¬ S g) : Own2 w' base v l := by
  obtain ⟨h0, ⟨h1, h2⟩ | ⟨g, cap, cur, rfl, hb, hh, r⟩⟩ := h
  · exact ⟨h0, .inl ⟨h1, h2⟩⟩
  · exact ⟨h0, .inr ⟨g, cap, cur, rfl, hb, (ho.block g (lt_blk hh) (hn g rfl)).trans hh, r⟩⟩
theorem Own2.lt {w : World} {base : Nat} {v : Value} {l : List (Nat × Nat)} (h : Own2 w base v l) {g : Nat} (hg : v.ownBlock = some g) : base ≤ g ∧ g < w.heap.size := World.ownsRow.lt h g hg
theorem Own2.ne_blk {w : World} {base p : Nat} {v : Value} {l : List (Nat × Nat)} {t : TypeId} {cs : Array Value} {f : Nat × Nat} (h : Own2 w base v l) (hp : w.heap[p]? = some (.cells cs t f)) (hne : 77 ≠ t) : v.ownBlock ≠ some p := by
  intro hv
  obtain ⟨_, ⟨h1, _⟩ | ⟨g, cap, cur, rfl, _, hh, _⟩⟩ := h
  · rw [h1] at hv; cases hv
  · simp only [Value.ownBlock, Option.some.injEq] at hv
    subst hv
    exact Proofs.Ytffnkbicbfjnpaa.blk_ne hh hp hne rfl
theorem Own2.edges {w : World} {base : Nat} {A : Option Addr} {n c : Nat} {l : List (Nat × Nat)} (h : Own2 w base (.slice A n c) l) (hs : ∀ e ∈ l, e.1 ≤ 255 ∧ e.2 ≤ 255) : Edges w A l := by
  intro i x y hi
  have hm := hs _ (List.mem_of_getElem? hi)
  have hil := (List.getElem?_eq_some_iff.1 hi).1
  obtain ⟨h0, ⟨h1, h2⟩ | ⟨g, cap, cur, hv, hb, hh, hn, hc, hcs, hx⟩⟩ := h
  · omega
  · injection hv with h1 h2 h3
    refine ⟨hm.1, hm.2, g, 0, h1, ?_, ?_⟩
    · have := (pairsV_at l i x y hi).1
      rw [← hx, List.getElem?_take, if_pos (by omega), Array.getElem?_toList] at this
      rw [cell_of_blk _ _ _ _ _ hh, Nat.zero_add]; exact this
    · have := (pairsV_at l i x y hi).2
      rw [← hx, List.getElem?_take, if_pos (by omega), Array.getElem?_toList] at this
      rw [cell_of_blk _ _ _ _ _ hh, Nat.zero_add]; exact this
theorem own2_append {w : World} {base : Nat} {v : Value} {l : List (Nat × Nat)} (h : Own2 w base v l) (ad : Addr) (x y : Nat) (hx : w.cell? ad = some (.int .u8 (x : Int))) (hy : w.cell? (ad.add 1) = some (.int .u8 (y : Int))) (hb : base ≤ w.heap.size) (hl : l.length ≤ 1048576) :
    ∃ v' w', (Builtin.append_ #[74, 74] 74 #[v, .slice (some ad) 1 1]).run Try.prog w = .ok v' w' ∧ Own2 w' base v' (l ++ [(x, y)]) ∧ Only (fun k => v.ownBlock = some k) w w' := by
  obtain ⟨i0, hi0, hz0, hz1, hz2⟩ := info_parts info2
  obtain ⟨v', w', hr, r1, r2, _⟩ := run_append_own (P := Try.prog) w base 74 74 77 i0 _ 2 2 Try.underlying74 hi0 hz0 hz1 hz2 rfl (by decide) v l.length (pairsV l) h ad 1 1 [.int .u8 (x : Int), .int .u8 (y : Int)] rfl
    (fun j u hj => by
      match j, hj with
      | 0, hj => rw [show ad.add 0 = ad by simp [Addr.add]]; simpa [hx] using hj
      | 1, hj => simpa [hy] using hj
      | j + 2, hj => simp at hj)
    (fun u hu => by simp at hu; rcases hu with rfl | rfl <;> rfl) (by unfold maxLen; omega) (by omega) hb
  refine ⟨v', w', hr, ?_, (Only.grown r2).mono (fun k _ hk => hk)⟩
  unfold Own2
  rw [pairsV_snoc, List.length_append]
  exact r1
/-- Those that rise. -/
def rises (n : Nat) (es : List (Nat × Nat)) : List (Nat × Nat) := es.filter (fun e => decide (e.1 % n < e.2 % n))
theorem rises_snoc (n : Nat) (es : List (Nat × Nat)) (e : Nat × Nat) : rises n (es ++ [e]) = if e.1 % n < e.2 % n then rises n es ++ [e] else rises n es := by
  unfold rises
  rw [List.filter_append]
  by_cases h : e.1 % n < e.2 % n <;> simp [h]
theorem rises_len (n : Nat) (es : List (Nat × Nat)) : (rises n es).length ≤ es.length := List.length_filter_le _ _
theorem rises_mem {n : Nat} {es : List (Nat × Nat)} {e : Nat × Nat} (h : e ∈ rises n es) : e ∈ es ∧ e.1 % n < e.2 % n := by
  obtain ⟨h1, h2⟩ := List.mem_filter.1 h
  exact ⟨h1, by simpa using h2⟩
end Go.Proofs.Ytffnkbicbfjnpaa
