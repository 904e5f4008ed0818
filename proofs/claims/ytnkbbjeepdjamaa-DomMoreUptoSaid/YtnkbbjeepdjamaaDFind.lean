/- dom.finder in memory. No condition. -/
import Derived.Test.YtnkbbjeepdjamaaDMem
namespace Go.Proofs.Ytnkbbjeepdjamaa
open Go.RowKit
/-- The finder's block, and its four blocks of numbers. -/
structure FM (w : World) (F n : Nat) (vv : Value) (qp qs qr ql : Nat) (par semi root label : List Int) : Prop where
  blk : w.heap[F]? = some (.cells #[vv, .slice (some ⟨qp, 0, none⟩) n n, .slice (some ⟨qs, 0, none⟩) n n, .slice (some ⟨qr, 0, none⟩) n n, .slice (some ⟨ql, 0, none⟩) n n] 83 (0, 0))
  par : Ints w qp par
  semi : Ints w qs semi
  root : Ints w qr root
  label : Ints w ql label
  ne : qp ≠ qs ∧ qp ≠ qr ∧ qp ≠ ql ∧ qs ≠ qr ∧ qs ≠ ql ∧ qr ≠ ql
section
variable {w w' : World} {F n : Nat} {vv : Value} {qp qs qr ql : Nat} {par semi root label : List Int}
theorem FM.only {T : Nat → Prop} (h : FM w F n vv qp qs qr ql par semi root label) (ho : Only T w w') (hF : ¬ T F) (hp : ¬ T qp) (hs : ¬ T qs) (hr : ¬ T qr) (hl : ¬ T ql) : FM w' F n vv qp qs qr ql par semi root label :=
  ⟨(ho.block F (lt_blk h.blk) hF).trans h.blk, h.par.only ho hp, h.semi.only ho hs, h.root.only ho hr, h.label.only ho hl, h.ne⟩
theorem FM.later (h : FM w F n vv qp qs qr ql par semi root label) (hb : Below w.heap.size w w') : FM w' F n vv qp qs qr ql par semi root label := by
  have h1 := lt_blk h.blk
  have h2 := lt_blk h.par
  have h3 := lt_blk h.semi
  have h4 := lt_blk h.root
  have h5 := lt_blk h.label
  exact h.only (Only.of_below hb) (by omega) (by omega) (by omega) (by omega) (by omega)
theorem FM.drewN (h : FM w F n vv qp qs qr ql par semi root label) (m : Nat) : FM (w.drewN m) F n vv qp qs qr ql par semi root label := h.only (Only.drewN (fun _ => False) w m) id id id id id
theorem FM.nF (h : FM w F n vv qp qs qr ql par semi root label) : qp ≠ F ∧ qs ≠ F ∧ qr ≠ F ∧ ql ≠ F := ⟨h.par.ne h.blk (by decide), h.semi.ne h.blk (by decide), h.root.ne h.blk (by decide), h.label.ne h.blk (by decide)⟩
theorem FM.cell (h : FM w F n vv qp qs qr ql par semi root label) : w.cell? ⟨F, 0, none⟩ = some vv ∧ w.cell? ⟨F, 1, none⟩ = some (.slice (some ⟨qp, 0, none⟩) n n) ∧ w.cell? ⟨F, 2, none⟩ = some (.slice (some ⟨qs, 0, none⟩) n n) ∧ w.cell? ⟨F, 3, none⟩ = some (.slice (some ⟨qr, 0, none⟩) n n) ∧ w.cell? ⟨F, 4, none⟩ = some (.slice (some ⟨ql, 0, none⟩) n n) := by
  have h1 := h.blk
  refine ⟨?_, ?_, ?_, ?_, ?_⟩ <;> (rw [cell_of_blk _ _ _ _ _ h1]; rfl)
theorem FM.frozen (h : FM w F n vv qp qs qr ql par semi root label) (i : Nat) : w.frozen? ⟨F, i, none⟩ = false := by
  have h1 := h.blk
  simp [World.frozen?, h1]
theorem FM.setR (h : FM w F n vv qp qs qr ql par semi root label) (i : Nat) (x : Int) : FM (w.setCell ⟨qr, i, none⟩ (.int .i64 x)) F n vv qp qs qr ql par semi (root.set i x) label := by
  have ho := Only.setCell w ⟨qr, i, none⟩ (.int .i64 x)
  have hn := h.nF
  have hne := h.ne
  exact ⟨(ho.block F (lt_blk h.blk) (fun e => hn.2.2.1 e.symm)).trans h.blk, h.par.only ho hne.2.1, h.semi.only ho hne.2.2.2.1, h.root.set i x, h.label.only ho (fun e => hne.2.2.2.2.2 e.symm), hne⟩
theorem FM.setL (h : FM w F n vv qp qs qr ql par semi root label) (i : Nat) (x : Int) : FM (w.setCell ⟨ql, i, none⟩ (.int .i64 x)) F n vv qp qs qr ql par semi root (label.set i x) := by
  have ho := Only.setCell w ⟨ql, i, none⟩ (.int .i64 x)
  have hn := h.nF
  have hne := h.ne
  exact ⟨(ho.block F (lt_blk h.blk) (fun e => hn.2.2.2 e.symm)).trans h.blk, h.par.only ho hne.2.2.1, h.semi.only ho hne.2.2.2.2.1, h.root.only ho hne.2.2.2.2.2, h.label.set i x, hne⟩
theorem FM.setS (h : FM w F n vv qp qs qr ql par semi root label) (i : Nat) (x : Int) : FM (w.setCell ⟨qs, i, none⟩ (.int .i64 x)) F n vv qp qs qr ql par (semi.set i x) root label := by
  have ho := Only.setCell w ⟨qs, i, none⟩ (.int .i64 x)
  have hn := h.nF
  have hne := h.ne
  exact ⟨(ho.block F (lt_blk h.blk) (fun e => hn.2.1 e.symm)).trans h.blk, h.par.only ho hne.1, h.semi.set i x, h.root.only ho (fun e => hne.2.2.2.1 e.symm), h.label.only ho (fun e => hne.2.2.2.2.1 e.symm), hne⟩
theorem FM.setP (h : FM w F n vv qp qs qr ql par semi root label) (i : Nat) (x : Int) : FM (w.setCell ⟨qp, i, none⟩ (.int .i64 x)) F n vv qp qs qr ql (par.set i x) semi root label := by
  have ho := Only.setCell w ⟨qp, i, none⟩ (.int .i64 x)
  have hn := h.nF
  have hne := h.ne
  exact ⟨(ho.block F (lt_blk h.blk) (fun e => hn.1 e.symm)).trans h.blk, h.par.set i x, h.semi.only ho (fun e => hne.1 e.symm), h.root.only ho (fun e => hne.2.1 e.symm), h.label.only ho (fun e => hne.2.2.1 e.symm), hne⟩
/-- Another row of places met. -/
theorem FM.setV (h : FM w F n vv qp qs qr ql par semi root label) (v' : Value) : FM (w.setCell ⟨F, 0, none⟩ v') F n v' qp qs qr ql par semi root label := by
  have ho := Only.setCell w ⟨F, 0, none⟩ v'
  have hn := h.nF
  have hb := h.blk
  refine ⟨?_, h.par.only ho hn.1, h.semi.only ho hn.2.1, h.root.only ho hn.2.2.1, h.label.only ho hn.2.2.2, h.ne⟩
  simp [World.setCell, Array.getElem?_modify, hb]
end
end Go.Proofs.Ytnkbbjeepdjamaa
