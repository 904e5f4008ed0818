/- A row in a box: what keeps it, one more by a closure; which places are seen. Conditions: few numbers. -/
import Derived.Test.YtnkbbjeepdjamaaGJoin
import Derived.Test.YtnkbbjeepdjamaaGPlain
namespace Go.Proofs.Ytnkbbjeepdjamaa
open Go.RowKit
/-- A box that holds a row of numbers. -/
structure BoxRow (w : World) (base B : Nat) (l : List Nat) (S : Nat → Prop) : Prop where
  ex : ∃ v, w.heap[B]? = some (.cells #[v] 31 (0, 0)) ∧ RowAt w base 3 v (l.map iv) ∧ base ≤ B ∧ ∀ g, S g ↔ g = B ∨ v.ownBlock = some g
theorem BoxRow.only {w w' : World} {base B : Nat} {l : List Nat} {S T : Nat → Prop} (h : BoxRow w base B l S) (ho : Only T w w') (hn : ∀ g, S g → ¬ T g) : BoxRow w' base B l S := by
  obtain ⟨v, h1, h2, h3, h4⟩ := h.ex
  exact ⟨v, (ho.block B (lt_blk h1) (hn B ((h4 B).2 (.inl rfl)))).trans h1, h2.only ho (fun g hg => hn g ((h4 g).2 (.inr hg))), h3, h4⟩
theorem BoxRow.lt {w : World} {base B : Nat} {l : List Nat} {S : Nat → Prop} (h : BoxRow w base B l S) {g : Nat} (hg : S g) : g < w.heap.size ∧ base ≤ g := by
  obtain ⟨v, h1, h2, h3, h4⟩ := h.ex
  rcases (h4 g).1 hg with rfl | hg
  · exact ⟨lt_blk h1, h3⟩
  · exact h2.lt hg
theorem BoxRow.new {w : World} {base B : Nat} (h : w.heap[B]? = some (.cells #[.slice none 0 0] 31 (0, 0))) (hb : base ≤ B) : BoxRow w base B [] (fun g => g = B) :=
  ⟨_, h, RowAt.nil _ _ _, hb, fun g => by simp [Value.ownBlock]⟩
/-- What a closure that puts a number behind a boxed row leaves. -/
def PutPost (w : World) (base B : Nat) (l : List Nat) (S : Nat → Prop) (e : Ending) (w' : World) : Prop :=
  e = .returned (.tuple #[]) ∧ ∃ S', BoxRow w' base B l S' ∧ Only S w w' ∧ ∀ g, S' g → S g ∨ w.heap.size ≤ g
theorem put_final {w w1 : World} {base B x : Nat} {l : List Nat} {S : Nat → Prop} {v v' : Value} (h1 : w.heap[B]? = some (.cells #[v] 31 (0, 0))) (h2 : RowAt w base 3 v (l.map iv)) (h3 : base ≤ B) (h4 : ∀ g, S g ↔ g = B ∨ v.ownBlock = some g)
    (k1 : RowAt w1 base 3 v' ((l ++ [x]).map iv)) (k2 : Only (fun k => v.ownBlock = some k) w w1) (k3 : v'.ownBlock = v.ownBlock ∨ ∃ g, v'.ownBlock = some g ∧ w.heap.size ≤ g) :
    ∃ S', BoxRow (w1.setCell ⟨B, 0, none⟩ v') base B (l ++ [x]) S' ∧ Only S w (w1.setCell ⟨B, 0, none⟩ v') ∧ ∀ g, S' g → S g ∨ w.heap.size ≤ g := by
  have hvB : v.ownBlock ≠ some B := h2.ne_blk h1 (by decide)
  have hB1 : w1.heap[B]? = some (.cells #[v] 31 (0, 0)) := (k2.block B (lt_blk h1) hvB).trans h1
  have hv'B : v'.ownBlock ≠ some B := k1.ne_blk hB1 (by decide)
  have hs := Only.setCell w1 ⟨B, 0, none⟩ v'
  refine ⟨fun g => g = B ∨ v'.ownBlock = some g, ⟨v', ?_, k1.only hs (fun g hg e => hv'B (by rw [hg]; exact congrArg some e)), h3, fun _ => Iff.rfl⟩, (k2.mono (fun k _ e => (h4 k).2 (.inr e))).trans hs (fun k _ e => (h4 k).2 (.inl e)), fun g hg => ?_⟩
  · simp [World.setCell, Array.getElem?_modify, hB1]
  · rcases hg with rfl | hg
    · exact .inl ((h4 g).2 (.inl rfl))
    · rcases k3 with k3 | ⟨g', k3, k4⟩
      · exact .inl ((h4 g).2 (.inr (by rw [← k3]; exact hg)))
      · rw [k3] at hg; injection hg with hg; exact .inr (by omega)
/-- Which places are seen. -/
def Seen (w : World) (q : Nat) (s : List Bool) : Prop := w.heap[q]? = some (.cells (s.map Value.bool).toArray 4 (0, 0))
theorem Seen.only {w w' : World} {q : Nat} {s : List Bool} {T : Nat → Prop} (h : Seen w q s) (ho : Only T w w') (hn : ¬ T q) : Seen w' q s := (ho.block q (lt_blk h) hn).trans h
theorem Seen.cell {w : World} {q : Nat} {s : List Bool} (h : Seen w q s) (i : Nat) (hi : i < s.length) : w.cell? ⟨q, i, none⟩ = some (.bool (s.getD i true)) := by
  rw [cell_of_blk _ _ _ _ _ h]
  simp [List.getD_eq_getElem?_getD, hi]
theorem Seen.frozen {w : World} {q : Nat} {s : List Bool} (h : Seen w q s) (i : Nat) : w.frozen? ⟨q, i, none⟩ = false := by
  have h' : w.heap[q]? = some (.cells (s.map Value.bool).toArray 4 (0, 0)) := h
  simp [World.frozen?, h']
theorem Seen.set {w : World} {q : Nat} {s : List Bool} (h : Seen w q s) (i : Nat) (b : Bool) : Seen (w.setCell ⟨q, i, none⟩ (.bool b)) q (s.set i b) := by
  have h' : w.heap[q]? = some (.cells (s.map Value.bool).toArray 4 (0, 0)) := h
  have e : (s.set i b).map Value.bool = (s.map Value.bool).set i (.bool b) := by rw [List.map_set]
  unfold Seen
  rw [e, show ((s.map Value.bool).set i (.bool b)).toArray = (s.map Value.bool).toArray.setIfInBounds i (.bool b) by simp]
  simp [World.setCell, Array.getElem?_modify, h']
def falses (n : Nat) : Obj := .cells ((List.replicate n false).map Value.bool).toArray 4
theorem mk_falses (n : Nat) (hn : n ≤ 1048576) (w : World) : (Instr.makeSlice 38 (.int .i64 (n : Int)) (.int .i64 (n : Int))).run Try.prog w = .ok (.slice (some ⟨w.heap.size, 0, none⟩) n n) (w.alloc (falses n)) := by
  obtain ⟨i0, hi0, hz0, hz1, hz2⟩ := info_parts infoB
  have h := run_make (P := Try.prog) w 38 4 i0 _ Try.underlying38 hi0 hz0 .i64 .i64 n n (by omega) (Int.le_refl _) (by rw [hz2]; omega) (by omega)
  rw [h, hz1, Int.toNat_natCast, Nat.mul_one]
  unfold falses
  have e : (madeCells (Value.cells (.bool false)) n) = ((List.replicate n false).map Value.bool).toArray := by
    apply Array.toList_inj.1
    rw [show Value.cells (.bool false) = #[.bool false] from rfl, toList_madeCells_one]
    simp
  rw [e]
end Go.Proofs.Ytnkbbjeepdjamaa
