/- The loops' row, made by the call: one more behind it. Conditions: few. -/
import Derived.Test.YtnkbbjeepdjamaaLSort
namespace Go.Proofs.Ytnkbbjeepdjamaa
open Go.RowKit
def flatL (l : List LEl) : List Value := l.flatMap (fun e => [.int .i64 e.h, e.v])
theorem flatL_len (l : List LEl) : (flatL l).length = l.length * 2 := by
  induction l with
  | nil => rfl
  | cons a l ih =>
    have : flatL (a :: l) = [.int .i64 a.h, a.v] ++ flatL l := rfl
    rw [this, List.length_append, ih]
    simp
    omega
theorem flatL_snoc (l : List LEl) (e : LEl) : flatL (l ++ [e]) = flatL l ++ [.int .i64 e.h, e.v] := by simp [flatL]
theorem flatL_at (l : List LEl) : ∀ (i : Nat) (e : LEl), l[i]? = some e → (flatL l)[2 * i]? = some (.int .i64 e.h) ∧ (flatL l)[2 * i + 1]? = some e.v := by
  induction l with
  | nil => intro i e h; simp at h
  | cons a l ih =>
    intro i e h
    have hc : flatL (a :: l) = .int .i64 a.h :: a.v :: flatL l := rfl
    cases i with
    | zero => simp at h; subst h; rw [hc]; exact ⟨rfl, rfl⟩
    | succ i =>
      obtain ⟨h1, h2⟩ := ih i e (by simpa using h)
      rw [hc, show 2 * (i + 1) = 2 * i + 2 by omega]
      exact ⟨by simpa using h1, by simpa using h2⟩
theorem infoL : (Try.prog.info? 72).map (fun i => (i.zero, i.size, i.bytes)) = some (some (.agg #[.int .i64 0, .slice none 0 0]), 2, 32) := by kernel_rfl
def OwnL (w : World) (base : Nat) (v : Value) (l : List LEl) : Prop := w.ownsRow base 72 2 v l.length (flatL l)
theorem OwnL.nil (w : World) (base : Nat) : OwnL w base (.slice none 0 0) [] := World.ownsRow_nil _ _ _ _
theorem OwnL.only {S : Nat → Prop} {w w' : World} {base : Nat} {v : Value} {l : List LEl} (h : OwnL w base v l) (ho : Only S w w') (hn : ∀ g, v.ownBlock = some g → ¬ S g) : OwnL w' base v l := own_only ho h hn
theorem OwnL.later {w w' : World} {base : Nat} {v : Value} {l : List LEl} (h : OwnL w base v l) (hb : Below w.heap.size w w') : OwnL w' base v l := h.only (Only.of_below hb) (fun g hg e => by have := (own_lt h hg).1; omega)
theorem ownL_append {w : World} {base : Nat} {v : Value} {l : List LEl} (h : OwnL w base v l) (ad : Addr) (e : LEl) (hx : w.cell? ad = some (.int .i64 e.h)) (hy : w.cell? (ad.add 1) = some e.v) (hb : base ≤ w.heap.size) (hl : l.length ≤ 1048576) :
    ∃ v' w', (Builtin.append_ #[68, 68] 68 #[v, .slice (some ad) 1 1]).run Try.prog w = .ok v' w' ∧ OwnL w' base v' (l ++ [e]) ∧ Only (fun k => v.ownBlock = some k) w w' := by
  obtain ⟨i0, hi0, hz0, hz1, hz2⟩ := info_parts infoL
  obtain ⟨v', w', hr, r1, r2, _⟩ := run_append_own (P := Try.prog) w base 68 68 72 i0 _ 2 32 Try.underlying68 hi0 hz0 hz1 hz2 rfl (by decide) v l.length (flatL l) h ad 1 1 [.int .i64 e.h, e.v] rfl
    (fun j u hj => by
      match j, hj with
      | 0, hj => rw [show ad.add 0 = ad by simp [Addr.add]]; simpa [hx] using hj
      | 1, hj => simpa [hy] using hj
      | j + 2, hj => simp at hj)
    (fun u hu => by simp at hu; rcases hu with rfl | rfl <;> rfl) (by unfold maxLen; omega) (by omega) hb
  refine ⟨v', w', hr, ?_, (Only.grown r2).mono (fun k _ hk => hk)⟩
  unfold OwnL
  rw [flatL_snoc, List.length_append]
  exact r1
/-- Its block is another than a set's, a cell's, a mark's. -/
theorem OwnL.ne_set {w : World} {base b : Nat} {v u : Value} {l : List LEl} {xs : List Int} (h : OwnL w base v l) (hs : IsSetI w b u xs) {g : Nat} (hu : u.ownBlock = some g) : v.ownBlock ≠ some g := by
  intro hv
  obtain ⟨_, ⟨h1, _⟩ | ⟨g', cap, cur, rfl, _, hh, _⟩⟩ := h
  · rw [h1] at hv; cases hv
  · simp only [Value.ownBlock, Option.some.injEq] at hv
    subst hv
    exact isset_ne hs hh (by decide) hu
theorem OwnL.slice {w : World} {base : Nat} {v : Value} {l : List LEl} (h : OwnL w base v l) : ∃ A c, v = .slice A l.length c ∧ l.length ≤ c := by
  obtain ⟨_, ⟨h1, h2⟩ | ⟨g, cap, cur, hv, _, _, hn, _⟩⟩ := h
  · exact ⟨none, 0, by rw [h1, h2], by omega⟩
  · exact ⟨_, cap, hv, hn⟩
theorem OwnL.blk {w : World} {base : Nat} {v : Value} {l : List LEl} (h : OwnL w base v l) {g : Nat} (hg : v.ownBlock = some g) : base ≤ g ∧ g < w.heap.size ∧ ∃ cur, w.heap[g]? = some (.cells cur 72 (0, 0)) := by
  obtain ⟨_, ⟨h1, _⟩ | ⟨g', cap, cur, rfl, hb, hh, _⟩⟩ := h
  · rw [h1] at hg; cases hg
  · simp only [Value.ownBlock, Option.some.injEq] at hg
    subst hg
    exact ⟨hb, lt_blk hh, cur, hh⟩
/-- As the sort reads it. -/
theorem OwnL.row {w : World} {base : Nat} {v : Value} {l : List LEl} (h : OwnL w base v l) (hne : l ≠ []) (hf : ∀ e ∈ l, e.k ≤ 1048576) : ∃ g c, v = .slice (some ⟨g, 0, none⟩) l.length c ∧ LRow w g l ∧ g < w.heap.size ∧ base ≤ g := by
  obtain ⟨h0, ⟨h1, h2⟩ | ⟨g, cap, cur, hv, hb, hh, hn, hc, hcs, hx⟩⟩ := h
  · exact absurd (List.length_eq_zero_iff.1 h2) hne
  · refine ⟨g, cap, hv, ⟨fun i e he => ?_, hf, fun k => by simp [World.frozen?, hh]⟩, lt_blk hh, hb⟩
    have hil := (List.getElem?_eq_some_iff.1 he).1
    obtain ⟨a1, a2⟩ := flatL_at l i e he
    rw [cell_of_blk _ _ _ _ _ hh, cell_of_blk _ _ _ _ _ hh]
    rw [← hx, List.getElem?_take, if_pos (by omega), Array.getElem?_toList] at a1 a2
    exact ⟨a1, a2⟩
end Go.Proofs.Ytnkbbjeepdjamaa
