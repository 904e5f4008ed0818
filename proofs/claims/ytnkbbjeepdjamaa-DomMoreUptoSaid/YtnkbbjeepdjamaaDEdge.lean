/- A row of pairs of small numbers, made by the call: a copy; one more behind it; it reads as ways. Conditions: few. -/
import Derived.Test.YtnkbbjeepdjamaaGSmall
namespace Go.Proofs.Ytnkbbjeepdjamaa
open Go.RowKit
def pairsV (l : List (Nat × Nat)) : List Value := l.flatMap (fun e => [.int .u8 (e.1 : Int), .int .u8 (e.2 : Int)])
theorem pairsV_len (l : List (Nat × Nat)) : (pairsV l).length = l.length * 2 := by
  induction l with
  | nil => rfl
  | cons a l ih =>
    have : pairsV (a :: l) = [.int .u8 (a.1 : Int), .int .u8 (a.2 : Int)] ++ pairsV l := rfl
    rw [this, List.length_append, ih]
    simp; omega
theorem pairsV_snoc (l : List (Nat × Nat)) (e : Nat × Nat) : pairsV (l ++ [e]) = pairsV l ++ [.int .u8 (e.1 : Int), .int .u8 (e.2 : Int)] := by simp [pairsV]
theorem pairsV_at : ∀ (l : List (Nat × Nat)) (i x y : Nat), l[i]? = some (x, y) → (pairsV l)[i * 2]? = some (.int .u8 (x : Int)) ∧ (pairsV l)[i * 2 + 1]? = some (.int .u8 (y : Int))
  | [], i, x, y, h => by simp at h
  | a :: l, 0, x, y, h => by
    simp at h; subst h
    exact ⟨rfl, rfl⟩
  | a :: l, i + 1, x, y, h => by
    have e : pairsV (a :: l) = .int .u8 (a.1 : Int) :: .int .u8 (a.2 : Int) :: pairsV l := rfl
    have ih := pairsV_at l i x y (by simpa using h)
    rw [e, show (i + 1) * 2 = i * 2 + 1 + 1 by omega]
    exact ih
theorem info2 : (Try.prog.info? 43).map (fun i => (i.zero, i.size, i.bytes)) = some (some (.agg #[.int .u8 0, .int .u8 0]), 2, 2) := by kernel_rfl
/-- The row, in the call's own memory. -/
def Own2 (w : World) (base : Nat) (v : Value) (l : List (Nat × Nat)) : Prop := w.ownsRow base 43 2 v l.length (pairsV l)
theorem Own2.slice {w : World} {base : Nat} {v : Value} {l : List (Nat × Nat)} (h : Own2 w base v l) : ∃ A c, v = .slice A l.length c ∧ l.length ≤ c := by
  obtain ⟨_, ⟨h1, h2⟩ | ⟨g, cap, cur, hv, _, _, hn, _⟩⟩ := h
  · exact ⟨none, 0, by rw [h1, h2], by omega⟩
  · exact ⟨_, cap, hv, hn⟩
theorem Own2.only {w w' : World} {base : Nat} {v : Value} {l : List (Nat × Nat)} {S : Nat → Prop} (h : Own2 w base v l) (ho : Only S w w') (hn : ∀ g, v.ownBlock = some g → ¬ S g) : Own2 w' base v l := by
  obtain ⟨h0, ⟨h1, h2⟩ | ⟨g, cap, cur, rfl, hb, hh, r⟩⟩ := h
  · exact ⟨h0, .inl ⟨h1, h2⟩⟩
  · exact ⟨h0, .inr ⟨g, cap, cur, rfl, hb, (ho.block g (lt_blk hh) (hn g rfl)).trans hh, r⟩⟩
theorem Own2.lt {w : World} {base : Nat} {v : Value} {l : List (Nat × Nat)} (h : Own2 w base v l) {g : Nat} (hg : v.ownBlock = some g) : base ≤ g ∧ g < w.heap.size := World.ownsRow.lt h g hg
theorem Own2.ne_blk {w : World} {base p : Nat} {v : Value} {l : List (Nat × Nat)} {t : TypeId} {cs : Array Value} {f : Nat × Nat} (h : Own2 w base v l) (hp : w.heap[p]? = some (.cells cs t f)) (hne : 43 ≠ t) : v.ownBlock ≠ some p := by
  intro hv
  obtain ⟨_, ⟨h1, _⟩ | ⟨g, cap, cur, rfl, _, hh, _⟩⟩ := h
  · rw [h1] at hv; cases hv
  · simp only [Value.ownBlock, Option.some.injEq] at hv
    subst hv
    exact Proofs.Ytnkbbjeepdjamaa.blk_ne hh hp hne rfl
theorem Own2.edges {w : World} {base : Nat} {A : Option Addr} {n c : Nat} {l : List (Nat × Nat)} (h : Own2 w base (.slice A n c) l) (hs : ∀ e ∈ l, e.1 ≤ 255 ∧ e.2 ≤ 255) : Edges w A l := by
  intro i x y hi
  have hm := hs _ (List.mem_of_getElem? hi)
  have hil := (List.getElem?_eq_some_iff.1 hi).1
  obtain ⟨h0, ⟨h1, h2⟩ | ⟨g, cap, cur, hv, hb, hh, hn, hc, hcs, hx⟩⟩ := h
  · omega
  · injection hv with h1 h2 h3
    refine ⟨hm.1, hm.2, g, 0, h1, ?_, ?_⟩
    · have := (pairsV_at l i x y hi).1
      rw [← hx, List.getElem?_take, if_pos (by omega), Array.getElem?_toList] at this
      rw [cell_of_blk _ _ _ _ _ hh, Nat.zero_add]; exact this
    · have := (pairsV_at l i x y hi).2
      rw [← hx, List.getElem?_take, if_pos (by omega), Array.getElem?_toList] at this
      rw [cell_of_blk _ _ _ _ _ hh, Nat.zero_add]; exact this
theorem own2_append {w : World} {base : Nat} {v : Value} {l : List (Nat × Nat)} (h : Own2 w base v l) (ad : Addr) (x y : Nat) (hx : w.cell? ad = some (.int .u8 (x : Int))) (hy : w.cell? (ad.add 1) = some (.int .u8 (y : Int))) (hb : base ≤ w.heap.size) (hl : l.length ≤ 1048576) :
    ∃ v' w', (Builtin.append_ #[22, 22] 22 #[v, .slice (some ad) 1 1]).run Try.prog w = .ok v' w' ∧ Own2 w' base v' (l ++ [(x, y)]) ∧ Only (fun k => v.ownBlock = some k) w w' := by
  obtain ⟨i0, hi0, hz0, hz1, hz2⟩ := info_parts info2
  obtain ⟨v', w', hr, r1, r2, _⟩ := run_append_own (P := Try.prog) w base 22 22 43 i0 _ 2 2 Try.underlying22 hi0 hz0 hz1 hz2 rfl (by decide) v l.length (pairsV l) h ad 1 1 [.int .u8 (x : Int), .int .u8 (y : Int)] rfl
    (fun j u hj => by
      match j, hj with
      | 0, hj => rw [show ad.add 0 = ad by simp [Addr.add]]; simpa [hx] using hj
      | 1, hj => simpa [hy] using hj
      | j + 2, hj => simp at hj)
    (fun u hu => by simp at hu; rcases hu with rfl | rfl <;> rfl) (by unfold maxLen; omega) (by omega) hb
  refine ⟨v', w', hr, ?_, (Only.grown r2).mono (fun k _ hk => hk)⟩
  unfold Own2
  rw [pairsV_snoc, List.length_append]
  exact r1
theorem pairsV_of (l : List (Nat × Nat)) (j : Nat) (u : Value) (h : (pairsV l)[j]? = some u) : ∃ (i x y : Nat), l[i]? = some (x, y) ∧ ((j = i * 2 ∧ u = .int .u8 (x : Int)) ∨ (j = i * 2 + 1 ∧ u = .int .u8 (y : Int))) := by
  have hl := (List.getElem?_eq_some_iff.1 h).1
  rw [pairsV_len] at hl
  obtain ⟨x, y, hxy⟩ : ∃ (x y : Nat), l[j / 2]? = some (x, y) := ⟨_, _, List.getElem?_eq_getElem (by omega)⟩
  obtain ⟨h1, h2⟩ := pairsV_at l (j / 2) x y hxy
  refine ⟨j / 2, x, y, hxy, ?_⟩
  rcases Nat.mod_two_eq_zero_or_one j with e | e
  · have e2 : j / 2 * 2 = j := by omega
    rw [e2, h] at h1
    exact .inl ⟨e2.symm, Option.some.inj h1⟩
  · have e2 : j / 2 * 2 + 1 = j := by omega
    rw [e2, h] at h2
    exact .inr ⟨e2.symm, Option.some.inj h2⟩
/-- The ways are laid anew behind an empty row. -/
theorem edges_copy {w : World} {g : Nat} {A : Option Addr} {c : Nat} {es : List (Nat × Nat)} (hg : w.heap[g]? = some (.cells #[] 43 (0, 0))) (h : Edges w A es) (hl : es.length ≤ 1048576) :
    ∃ v' w', (Builtin.append_ #[22, 22] 22 #[.slice (some ⟨g, 0, none⟩) 0 0, .slice A es.length c]).run Try.prog w = .ok v' w' ∧ Own2 w' g v' es ∧ Only (fun k => k = g) w w' := by
  obtain ⟨i0, hi0, hz0, hz1, hz2⟩ := info_parts info2
  have hown : Own2 w g (.slice (some ⟨g, 0, none⟩) 0 0) [] :=
    ⟨rfl, .inr ⟨g, 0, _, rfl, Nat.le_refl _, hg, Nat.le_refl _, by decide, rfl, rfl⟩⟩
  cases A with
  | none =>
    have hn : es = [] := by
      cases es with
      | nil => rfl
      | cons e r => obtain ⟨_, _, g', o', e', _⟩ := h 0 e.1 e.2 rfl; cases e'
    subst hn
    exact ⟨_, w, by simp [Builtin.append_, run_underlying Try.underlying22, sizeOf, typeInfo, hi0, Builtin.lenOf, Builtin.firstCells, storeCells], hown, Only.refl _ _⟩
  | some ad =>
    obtain ⟨v', w', hr, r1, r2, _⟩ := run_append_own (P := Try.prog) w g 22 22 43 i0 _ 2 2 Try.underlying22 hi0 hz0 hz1 hz2 rfl (by decide) (.slice (some ⟨g, 0, none⟩) 0 0) 0 [] hown ad es.length c (pairsV es) (pairsV_len es)
      (fun j u hj => by
        obtain ⟨i, x, y, hi, hju⟩ := pairsV_of es j u hj
        obtain ⟨_, _, g', o', e', c1, c2⟩ := h i x y hi
        cases e'
        rw [Addr.add_lit]
        rcases hju with ⟨rfl, rfl⟩ | ⟨rfl, rfl⟩
        · exact c1
        · exact c2)
      (fun u hu => by
        obtain ⟨j, hj⟩ := List.getElem?_of_mem hu
        obtain ⟨i, x, y, hi, hju⟩ := pairsV_of es j u hj
        rcases hju with ⟨_, rfl⟩ | ⟨_, rfl⟩ <;> rfl) (by unfold maxLen; omega) (by omega) (Nat.le_of_lt (lt_blk hg))
    refine ⟨v', w', hr, ?_, (Only.grown r2).mono (fun k _ hk => by simp [Value.ownBlock] at hk; exact hk.symm)⟩
    unfold Own2
    simpa using r1
end Go.Proofs.Ytnkbbjeepdjamaa
