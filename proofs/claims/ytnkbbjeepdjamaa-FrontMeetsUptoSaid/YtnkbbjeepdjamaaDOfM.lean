/- dom.Of: what lies in memory while it goes on. No condition. -/
import Derived.Test.YtnkbbjeepdjamaaDTr
import Derived.Test.YtnkbbjeepdjamaaDPass
import Derived.Test.YtnkbbjeepdjamaaDVisit
import Derived.Test.YtnkbbjeepdjamaaGLaw
namespace Go.Proofs.Ytnkbbjeepdjamaa
open Go.RowKit
/-- One of its places gets an empty row. -/
theorem Mat.clear {w : World} {base q : Nat} {vs : List Value} {f : List (List Nat)} (h : Mat w base q vs f) (i : Nat) :
    Mat (w.setCell ⟨q, i, none⟩ (.slice none 0 0)) base q (vs.set i (.slice none 0 0)) (f.set i []) ∧ Only (MatB q vs) w (w.setCell ⟨q, i, none⟩ (.slice none 0 0)) ∧ ∀ g, MatB q (vs.set i (.slice none 0 0)) g → MatB q vs g ∨ w.heap.size ≤ g := by
  have hs := Only.setCell w ⟨q, i, none⟩ (.slice none 0 0)
  have old : ∀ (j : Nat) u g, (vs.set i (.slice none 0 0))[j]? = some u → u.ownBlock = some g → vs[j]? = some u := fun j u g hu hg => by
    rw [List.getElem?_set] at hu
    split at hu
    · split at hu
      · rw [← Option.some.inj hu] at hg; simp [Value.ownBlock] at hg
      · cases hu
    · exact hu
  refine ⟨⟨?_, by simp [h.len], h.ge, fun j u m hu hm => ?_, fun j k u u' g hu hu' hg hg' => h.inj j k u u' g (old j u g hu hg) (old k u' g hu' hg') hg hg'⟩, hs.mono (fun k _ e => .inl e), fun g hg => ?_⟩
  · have hb := h.blk
    rw [show (vs.set i (Value.slice none 0 0)).toArray = vs.toArray.setIfInBounds i (.slice none 0 0) by simp]
    simp [World.setCell, Array.getElem?_modify, hb]
  · rw [List.getElem?_set] at hu hm
    split at hu
    · rename_i e
      rw [if_pos e] at hm
      split at hu
      · split at hm
        · rw [← Option.some.inj hu, ← Option.some.inj hm]; exact RowAt.nil _ _ _
        · cases hm
      · cases hu
    · rename_i e
      rw [if_neg e] at hm
      have hrow := h.row j u m hu hm
      exact hrow.only hs (fun g hg e => hrow.ne_blk h.blk (by decide) (by rw [hg]; exact congrArg some e))
  · rcases hg with e | ⟨j, u, hu, hg⟩
    · exact .inl (.inl e)
    · exact .inl (.inr ⟨j, u, old j u g hu hg, hg⟩)
structure OF (W : World) (base n q1 p1 : Nat) (b a : List (List Nat)) (S : Nat → Prop) (F : Nat) (vv : Value) (qp qs qr ql qu qk : Nat) (pre : List Nat) (par semi root label up : List Int) (ks : List Value) (bk : List (List Nat)) (X : World) : Prop where
  gr : Gr X base (.agg #[.slice (some ⟨q1, 0, none⟩) n n, .slice (some ⟨p1, 0, none⟩) n n]) b a S
  bx : X.heap[W.heap.size]? = some (.cells #[.slice (some ⟨q1, 0, none⟩) n n, .slice (some ⟨p1, 0, none⟩) n n] 28 (0, 0))
  rx : X.heap[W.heap.size + 1]? = some (.cells #[.slice none 0 0, .slice none 0 0, .slice none 0 0] 33 (0, 0))
  fm : FM X F n vv qp qs qr ql par semi root label
  row : RowAt X base 3 vv (pre.map iv)
  up : Ints X qu up
  mat : Mat X (W.heap.size + 2) qk ks bk
  sepU : qu ≠ qp ∧ qu ≠ qs ∧ qu ≠ qr ∧ qu ≠ ql
  sepV : ∀ g, vv.ownBlock = some g → g ≠ qp ∧ g ≠ qs ∧ g ≠ qr ∧ g ≠ ql ∧ g ≠ qu
  sepK : ∀ g, MatB qk ks g → g ≠ qp ∧ g ≠ qs ∧ g ≠ qr ∧ g ≠ ql ∧ g ≠ qu ∧ vv.ownBlock ≠ some g
  lt : W.heap.size + 1 < F ∧ W.heap.size + 1 < qp ∧ W.heap.size + 1 < qs ∧ W.heap.size + 1 < qr ∧ W.heap.size + 1 < ql ∧ W.heap.size + 1 < qu
  old : ∀ g, S g → g < W.heap.size
  below : Below W.heap.size W X
section
variable {W X X' : World} {base n q1 p1 : Nat} {b a : List (List Nat)} {S : Nat → Prop} {F : Nat} {vv : Value} {qp qs qr ql qu qk : Nat} {pre : List Nat} {par semi root label up : List Int} {ks : List Value} {bk : List (List Nat)}
theorem OF.ne (h : OF W base n q1 p1 b a S F vv qp qs qr ql qu qk pre par semi root label up ks bk X) : qu ≠ F ∧ qu ≠ qk ∧ F ≠ qk := by
  refine ⟨h.up.ne h.fm.blk (by decide), h.up.ne h.mat.blk (by decide), fun e => ?_⟩
  have h1 := h.fm.blk
  rw [e] at h1
  exact blk_ne h1 h.mat.blk (by decide) rfl
/-- What touches none of the blocks but those of four kinds. -/
theorem OF.later (h : OF W base n q1 p1 b a S F vv qp qs qr ql qu qk pre par semi root label up ks bk X) (hb : Below X.heap.size X X') : OF W base n q1 p1 b a S F vv qp qs qr ql qu qk pre par semi root label up ks bk X' :=
  ⟨h.gr.later hb, (hb.block _ (lt_blk h.bx)).trans h.bx, (hb.block _ (lt_blk h.rx)).trans h.rx, h.fm.later hb, h.row.only (Only.of_below hb) (fun g hg e => by have := (h.row.lt hg).1; omega), h.up.later hb, h.mat.later hb, h.sepU, h.sepV, h.sepK, h.lt, h.old, below_two h.below hb⟩
/-- The forest and the labels. -/
theorem OF.rl {root' label' : List Int} (h : OF W base n q1 p1 b a S F vv qp qs qr ql qu qk pre par semi root label up ks bk X) (hf : FM X' F n vv qp qs qr ql par semi root' label') (ho : Only (fun k => k = qr ∨ k = ql) X X') : OF W base n q1 p1 b a S F vv qp qs qr ql qu qk pre par semi root' label' up ks bk X' := by
  have hl := h.lt
  have hu := h.sepU
  refine ⟨h.gr.only ho (fun g hg e => by have := h.old g hg; rcases e with e | e <;> omega), (ho.block _ (lt_blk h.bx) (by omega)).trans h.bx, (ho.block _ (lt_blk h.rx) (by omega)).trans h.rx, hf, h.row.only ho (fun g hg e => by have := h.sepV g hg; rcases e with e | e <;> omega), h.up.only ho (by omega), h.mat.only ho (fun g hg e => by have := h.sepK g hg; rcases e with e | e <;> omega), h.sepU, h.sepV, h.sepK, h.lt, h.old, h.below.trans (ho.below h.below.size (fun k hk e => by rcases e with e | e <;> omega))⟩
/-- A half-dominator. -/
theorem OF.setS (h : OF W base n q1 p1 b a S F vv qp qs qr ql qu qk pre par semi root label up ks bk X) (i : Nat) (x : Int) : OF W base n q1 p1 b a S F vv qp qs qr ql qu qk pre par (semi.set i x) root label up ks bk (X.setCell ⟨qs, i, none⟩ (.int .i64 x)) := by
  have hl := h.lt
  have hu := h.sepU
  have ho := Only.setCell X ⟨qs, i, none⟩ (.int .i64 x)
  have ne : ∀ g, g ≠ qs → ¬ g = (⟨qs, i, none⟩ : Addr).block := fun g hg e => hg e
  exact ⟨h.gr.only ho (fun g hg => ne g (by have := h.old g hg; omega)), (ho.block _ (lt_blk h.bx) (ne _ (by omega))).trans h.bx, (ho.block _ (lt_blk h.rx) (ne _ (by omega))).trans h.rx, h.fm.setS i x, h.row.only ho (fun g hg => ne g (h.sepV g hg).2.1), h.up.only ho (ne _ hu.2.1), h.mat.only ho (fun g hg => ne g (h.sepK g hg).2.1), h.sepU, h.sepV, h.sepK, h.lt, h.old, h.below.setCell (by show W.heap.size ≤ qs; omega) _⟩
/-- One's own. -/
theorem OF.setU (h : OF W base n q1 p1 b a S F vv qp qs qr ql qu qk pre par semi root label up ks bk X) (i : Nat) (x : Int) : OF W base n q1 p1 b a S F vv qp qs qr ql qu qk pre par semi root label (up.set i x) ks bk (X.setCell ⟨qu, i, none⟩ (.int .i64 x)) := by
  have hl := h.lt
  have hu := h.sepU
  have hn := h.ne
  have ho := Only.setCell X ⟨qu, i, none⟩ (.int .i64 x)
  have ne : ∀ g, g ≠ qu → ¬ g = (⟨qu, i, none⟩ : Addr).block := fun g hg e => hg e
  exact ⟨h.gr.only ho (fun g hg => ne g (by have := h.old g hg; omega)), (ho.block _ (lt_blk h.bx) (ne _ (by omega))).trans h.bx, (ho.block _ (lt_blk h.rx) (ne _ (by omega))).trans h.rx, h.fm.only ho (ne _ (fun e => hn.1 e.symm)) (ne _ (fun e => hu.1 e.symm)) (ne _ (fun e => hu.2.1 e.symm)) (ne _ (fun e => hu.2.2.1 e.symm)) (ne _ (fun e => hu.2.2.2 e.symm)), h.row.only ho (fun g hg => ne g (h.sepV g hg).2.2.2.2), h.up.set i x, h.mat.only ho (fun g hg => ne g (h.sepK g hg).2.2.2.2.1), h.sepU, h.sepV, h.sepK, h.lt, h.old, h.below.setCell (by show W.heap.size ≤ qu; omega) _⟩
theorem OF.setR (h : OF W base n q1 p1 b a S F vv qp qs qr ql qu qk pre par semi root label up ks bk X) (i : Nat) (x : Int) : OF W base n q1 p1 b a S F vv qp qs qr ql qu qk pre par semi (root.set i x) label up ks bk (X.setCell ⟨qr, i, none⟩ (.int .i64 x)) :=
  h.rl (h.fm.setR i x) ((Only.setCell X ⟨qr, i, none⟩ (.int .i64 x)).mono (fun _ _ e => .inl e))
theorem OF.setL (h : OF W base n q1 p1 b a S F vv qp qs qr ql qu qk pre par semi root label up ks bk X) (i : Nat) (x : Int) : OF W base n q1 p1 b a S F vv qp qs qr ql qu qk pre par semi root (label.set i x) up ks bk (X.setCell ⟨ql, i, none⟩ (.int .i64 x)) :=
  h.rl (h.fm.setL i x) ((Only.setCell X ⟨ql, i, none⟩ (.int .i64 x)).mono (fun _ _ e => .inr e))
/-- The buckets. -/
theorem OF.setK {ks' : List Value} {bk' : List (List Nat)} (h : OF W base n q1 p1 b a S F vv qp qs qr ql qu qk pre par semi root label up ks bk X) (hm : Mat X' (W.heap.size + 2) qk ks' bk') (ho : Only (MatB qk ks) X X') (hn : ∀ g, MatB qk ks' g → MatB qk ks g ∨ X.heap.size ≤ g) :
    OF W base n q1 p1 b a S F vv qp qs qr ql qu qk pre par semi root label up ks' bk' X' := by
  have hlt : ∀ g, MatB qk ks g → W.heap.size + 2 ≤ g := fun g hg => (h.mat.lt hg).2
  have hl1 := lt_blk h.fm.par
  have hl2 := lt_blk h.fm.semi
  have hl3 := lt_blk h.fm.root
  have hl4 := lt_blk h.fm.label
  have hl5 := lt_blk h.up
  have hF : ¬ MatB qk ks F := fun e => by
    rcases e with e | ⟨i, v, hv, hg⟩
    · exact h.ne.2.2 e
    · have hi : i < bk.length := by rw [← h.mat.len]; exact (List.getElem?_eq_some_iff.1 hv).1
      exact (h.mat.row i v _ hv (List.getElem?_eq_getElem hi)).ne_blk h.fm.blk (by decide) hg
  refine ⟨h.gr.only ho (fun g hg e => by have := h.old g hg; have := hlt g e; omega), (ho.block _ (lt_blk h.bx) (fun e => by have := hlt _ e; omega)).trans h.bx, (ho.block _ (lt_blk h.rx) (fun e => by have := hlt _ e; omega)).trans h.rx, h.fm.only ho hF (fun e => (h.sepK _ e).1 rfl) (fun e => (h.sepK _ e).2.1 rfl) (fun e => (h.sepK _ e).2.2.1 rfl) (fun e => (h.sepK _ e).2.2.2.1 rfl), h.row.only ho (fun g hg e => (h.sepK _ e).2.2.2.2.2 hg), h.up.only ho (fun e => (h.sepK _ e).2.2.2.2.1 rfl), hm, h.sepU, h.sepV, fun g hg => ?_, h.lt, h.old, h.below.trans (ho.below h.below.size (fun k hk e => by have := hlt k e; omega))⟩
  rcases hn g hg with e | e
  · exact h.sepK g e
  · exact ⟨by omega, by omega, by omega, by omega, by omega, fun e2 => by have := (h.row.lt e2).1; omega⟩
end
end Go.Proofs.Ytnkbbjeepdjamaa
