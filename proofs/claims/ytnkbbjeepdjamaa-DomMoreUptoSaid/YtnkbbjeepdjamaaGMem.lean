/- Rows of numbers in memory, a block of such rows: what is read, one more in a row, what keeps them. Conditions: one-cell elements; the blocks are of the call's own. -/
import Derived.Test.YtnkbbjeepdjamaaRow
import Derived.Test.YtnkbbjeepdjamaaProg
namespace Go.Proofs.Ytnkbbjeepdjamaa
open Go.RowKit

def iv (x : Nat) : Value := .int .i64 (x : Int)
theorem one_iv (l : List Nat) : ∀ u ∈ l.map iv, u.oneCell' = true := by
  intro u hu; obtain ⟨x, _, rfl⟩ := List.mem_map.1 hu; rfl
theorem infoI : (Try.prog.info? 3).map (fun i => (i.zero, i.size, i.bytes)) = some (some (.int .i64 0), 1, 8) := by kernel_rfl
theorem infoS : (Try.prog.info? 31).map (fun i => (i.zero, i.size, i.bytes)) = some (some (.slice none 0 0), 1, 24) := by kernel_rfl
theorem infoB : (Try.prog.info? 4).map (fun i => (i.zero, i.size, i.bytes)) = some (some (.bool false), 1, 1) := by kernel_rfl
theorem lt_blk {w : World} {g : Nat} {o : Obj} (h : w.heap[g]? = some o) : g < w.heap.size := (Array.getElem?_eq_some_iff.1 h).1

/-- A block of rows of numbers. -/
structure Mat (w : World) (base q : Nat) (vs : List Value) (f : List (List Nat)) : Prop where
  blk : w.heap[q]? = some (.cells vs.toArray 31 (0, 0))
  len : vs.length = f.length
  ge : base ≤ q
  row : ∀ (i : Nat) v l, vs[i]? = some v → f[i]? = some l → RowAt w base 3 v (l.map iv)
  inj : ∀ (i j : Nat) v u g, vs[i]? = some v → vs[j]? = some u → v.ownBlock = some g → u.ownBlock = some g → i = j
/-- Its blocks. -/
def MatB (q : Nat) (vs : List Value) (g : Nat) : Prop := g = q ∨ ∃ (i : Nat) (v : Value), vs[i]? = some v ∧ v.ownBlock = some g
section
variable {w w' : World} {base q : Nat} {vs : List Value} {f : List (List Nat)}
theorem Mat.get (h : Mat w base q vs f) {i : Nat} (hi : i < f.length) : ∃ v l, vs[i]? = some v ∧ f[i]? = some l ∧ RowAt w base 3 v (l.map iv) := by
  have h1 : i < vs.length := by rw [h.len]; exact hi
  exact ⟨_, _, List.getElem?_eq_getElem h1, List.getElem?_eq_getElem hi, h.row i _ _ (List.getElem?_eq_getElem h1) (List.getElem?_eq_getElem hi)⟩
theorem Mat.lt (h : Mat w base q vs f) {g : Nat} (hg : MatB q vs g) : g < w.heap.size ∧ base ≤ g := by
  rcases hg with rfl | ⟨i, v, hv, hg⟩
  · exact ⟨lt_blk h.blk, h.ge⟩
  · have hi : i < f.length := by rw [← h.len]; exact (List.getElem?_eq_some_iff.1 hv).1
    exact (h.row i v _ hv (List.getElem?_eq_getElem hi)).lt hg
theorem Mat.only {S : Nat → Prop} (h : Mat w base q vs f) (ho : Only S w w') (hn : ∀ g, MatB q vs g → ¬ S g) : Mat w' base q vs f :=
  ⟨(ho.block q (lt_blk h.blk) (hn q (.inl rfl))).trans h.blk, h.len, h.ge, fun i v l hv hl => (h.row i v l hv hl).only ho (fun g hg => hn g (.inr ⟨i, v, hv, hg⟩)), h.inj⟩
theorem Mat.later (h : Mat w base q vs f) (hb : Below w.heap.size w w') : Mat w' base q vs f := h.only (Only.of_below hb) (fun g hg e => by have := (h.lt hg).1; omega)
theorem Mat.drewN (h : Mat w base q vs f) (n : Nat) : Mat (w.drewN n) base q vs f := h.only (Only.drewN (fun _ => False) w n) (fun _ _ e => e)
theorem Mat.cell (h : Mat w base q vs f) (i : Nat) : w.cell? ⟨q, i, none⟩ = vs[i]? := by rw [cell_of_blk _ _ _ _ _ h.blk]; simp
theorem Mat.frozen (h : Mat w base q vs f) (i : Nat) : w.frozen? ⟨q, i, none⟩ = false := by simp [World.frozen?, h.blk]
/-- Another value in one of its places: its row has one more. -/
theorem Mat.set {w1 : World} (h : Mat w base q vs f) {i : Nat} {v v' : Value} {l l' : List Nat} (hv : vs[i]? = some v) (hl : f[i]? = some l) (ho : Only (fun k => v.ownBlock = some k) w w1) (hr : RowAt w1 base 3 v' (l'.map iv))
    (hb : v'.ownBlock = v.ownBlock ∨ ∃ g, v'.ownBlock = some g ∧ w.heap.size ≤ g) :
    Mat (w1.setCell ⟨q, i, none⟩ v') base q (vs.set i v') (f.set i l') ∧ Only (MatB q vs) w (w1.setCell ⟨q, i, none⟩ v') ∧ ∀ g, MatB q (vs.set i v') g → MatB q vs g ∨ w.heap.size ≤ g := by
  have hi : i < vs.length := (List.getElem?_eq_some_iff.1 hv).1
  have hvq : v.ownBlock ≠ some q := (h.row i v l hv hl).ne_blk h.blk (by decide)
  have hq1 : w1.heap[q]? = some (.cells vs.toArray 31 (0, 0)) := (ho.block q (lt_blk h.blk) (fun e => hvq e)).trans h.blk
  have hv'q : v'.ownBlock ≠ some q := hr.ne_blk hq1 (by decide)
  have hs := Only.setCell w1 ⟨q, i, none⟩ v'
  refine ⟨⟨?_, by simp [h.len], h.ge, fun j u m hu hm => ?_, fun j k u u' g hu hu' hg hg' => ?_⟩, ?_, fun g hg => ?_⟩
  · have e : (vs.set i v').toArray = vs.toArray.setIfInBounds i v' := by simp
    rw [e]
    simp [World.setCell, Array.getElem?_modify, hq1]
  · by_cases e : i = j
    · subst e
      rw [List.getElem?_set_self hi] at hu
      rw [List.getElem?_set_self (by rw [← h.len]; exact hi)] at hm
      cases hu; cases hm
      exact hr.only hs (fun g hg e => hv'q (by rw [hg]; exact congrArg some e))
    · rw [List.getElem?_set_ne e] at hu hm
      have hrow := h.row j u m hu hm
      exact (hrow.only ho (fun g hg hg2 => e (h.inj i j v u g hv hu hg2 hg))).only hs (fun g hg e => hrow.ne_blk h.blk (by decide) (by rw [hg]; exact congrArg some e))
  · have old : ∀ (j : Nat) u g, (vs.set i v')[j]? = some u → j ≠ i → u.ownBlock = some g → vs[j]? = some u ∧ g < w.heap.size := fun j u g hu hji hg => by
      rw [List.getElem?_set_ne (fun e => hji e.symm)] at hu
      exact ⟨hu, (h.lt (.inr ⟨j, u, hu, hg⟩)).1⟩
    have new : ∀ (j : Nat) u g, (vs.set i v')[j]? = some u → j ≠ i → u.ownBlock = some g → v'.ownBlock ≠ some g := fun j u g hu hji hg e => by
      obtain ⟨h1, h2⟩ := old j u g hu hji hg
      rcases hb with hb | ⟨g', hb, h3⟩
      · exact hji (h.inj j i u v g h1 hv hg (by rw [← hb]; exact e))
      · rw [hb] at e; injection e with e; omega
    by_cases ej : j = i
    · by_cases ek : k = i
      · rw [ej, ek]
      · subst ej
        rw [List.getElem?_set_self hi] at hu
        cases hu
        exact absurd hg (new k u' g hu' ek hg')
    · by_cases ek : k = i
      · subst ek
        rw [List.getElem?_set_self hi] at hu'
        cases hu'
        exact absurd hg' (new j u g hu ej hg)
      · exact h.inj j k u u' g (old j u g hu ej hg).1 (old k u' g hu' ek hg').1 hg hg'
  · exact (ho.mono (fun k _ hk => (.inr ⟨i, v, hv, hk⟩ : MatB q vs k))).trans hs (fun k _ e => (.inl e : MatB q vs k))
  · rcases hg with rfl | ⟨j, u, hu, hg⟩
    · exact .inl (.inl rfl)
    · by_cases e : i = j
      · subst e
        rw [List.getElem?_set_self hi] at hu
        cases hu
        rcases hb with hb | ⟨g', hb, h3⟩
        · exact .inl (.inr ⟨i, v, hv, by rw [← hb]; exact hg⟩)
        · rw [hb] at hg; injection hg with hg; exact .inr (by omega)
      · rw [List.getElem?_set_ne e] at hu
        exact .inl (.inr ⟨j, u, hu, hg⟩)
/-- A new block, all of its rows empty. -/
theorem Mat.new {n : Nat} (h : w.heap[q]? = some (.cells (List.replicate n (Value.slice none 0 0)).toArray 31 (0, 0))) (hb : base ≤ q) : Mat w base q (List.replicate n (.slice none 0 0)) (List.replicate n []) := by
  have hn : ∀ (i : Nat) v, (List.replicate n (Value.slice none 0 0))[i]? = some v → v = .slice none 0 0 := fun i v hv => by
    rw [List.getElem?_replicate] at hv
    split at hv
    · injection hv with hv; exact hv.symm
    · cases hv
  refine ⟨h, by simp, hb, fun i v l hv hl => ?_, fun i j v u g hv _ hg _ => ?_⟩
  · obtain rfl := hn i v hv
    rw [List.getElem?_replicate] at hl
    split at hl
    · injection hl with hl; subst hl; exact RowAt.nil _ _ _
    · cases hl
  · obtain rfl := hn i v hv
    cases hg
theorem matB_new {n q g : Nat} (h : MatB q (List.replicate n (.slice none 0 0)) g) : g = q := by
  rcases h with h | ⟨i, v, hv, hg⟩
  · exact h
  · rw [List.getElem?_replicate] at hv
    split at hv
    · injection hv with hv; subst hv; cases hg
    · cases hv
end
/-- Two blocks of rows, apart: a graph in memory. -/
structure Gr (w : World) (base : Nat) (gv : Value) (b a : List (List Nat)) (S : Nat → Prop) : Prop where
  ex : ∃ q p vs us, gv = .agg #[.slice (some ⟨q, 0, none⟩) b.length b.length, .slice (some ⟨p, 0, none⟩) b.length b.length] ∧ Mat w base q vs b ∧ Mat w base p us a ∧ a.length = b.length ∧ (∀ g, MatB q vs g → ¬ MatB p us g) ∧ (∀ g, S g ↔ MatB q vs g ∨ MatB p us g)
theorem Gr.only {w w' : World} {base : Nat} {gv : Value} {b a : List (List Nat)} {S T : Nat → Prop} (h : Gr w base gv b a S) (ho : Only T w w') (hn : ∀ g, S g → ¬ T g) : Gr w' base gv b a S := by
  obtain ⟨q, p, vs, us, e, h1, h2, h3, h4, h5⟩ := h.ex
  exact ⟨q, p, vs, us, e, h1.only ho (fun g hg => hn g ((h5 g).2 (.inl hg))), h2.only ho (fun g hg => hn g ((h5 g).2 (.inr hg))), h3, h4, h5⟩
theorem Gr.lt {w : World} {base : Nat} {gv : Value} {b a : List (List Nat)} {S : Nat → Prop} (h : Gr w base gv b a S) {g : Nat} (hg : S g) : g < w.heap.size ∧ base ≤ g := by
  obtain ⟨q, p, vs, us, e, h1, h2, h3, h4, h5⟩ := h.ex
  rcases (h5 g).1 hg with hg | hg
  · exact h1.lt hg
  · exact h2.lt hg
theorem Gr.later {w w' : World} {base : Nat} {gv : Value} {b a : List (List Nat)} {S : Nat → Prop} (h : Gr w base gv b a S) (hb : Below w.heap.size w w') : Gr w' base gv b a S := h.only (Only.of_below hb) (fun g hg e => by have := (h.lt hg).1; omega)
end Go.Proofs.Ytnkbbjeepdjamaa
