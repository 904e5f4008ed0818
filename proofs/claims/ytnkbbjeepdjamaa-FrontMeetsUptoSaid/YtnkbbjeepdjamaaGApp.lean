/- One more in a row, as a step of a region. Conditions: as each says. -/
import Derived.Test.YtnkbbjeepdjamaaGSort
import Derived.Test.YtnkbbjeepdjamaaM2
import Derived.Test.YtnkbbjeepdjamaaGNew
namespace Go.Proofs.Ytnkbbjeepdjamaa
open Go.RowKit
theorem step_append_run {P : Program} {ops : Array Oper} {o : Oper} {a : Act} {w : World} {K : Act → World → Prop} {Q : Exit → Act → World → Prop} {E : Prop}
    (hg : o.guard = none) (d x : Operand) (dT sT : TypeId) (hop : o.op = Op.call { callee := Callee.builtin Builtin.append, args := #[d, x], argTypes := #[dT, sT] })
    (v u : Value) (hd : a.eval d = v) (hx : a.eval x = u) {v' : Value} {w' : World} (hr : (Builtin.append_ #[dT, sT] o.type #[v, u]).run P w = .ok v' w') (hK : K (a.put o.dst v') w') :
    if Region.wanted o (yielded ops a.tmps) = true then Oper.wp P o a w K Q else E := by
  have hw : Region.wanted o (yielded ops a.tmps) = true := by simp [Region.wanted, hg]
  rw [if_pos hw]
  unfold Oper.wp
  simp [execOp, hop, resolve, invoke, builtin, hd, hx, hr, Result.andThen]
  exact hK
theorem row_append {w : World} {base : Nat} {v : Value} {l : List Nat} (h : RowAt w base 3 v (l.map iv)) (ad : Addr) (x : Nat) (hx : w.cell? ad = some (iv x)) (hb : base ≤ w.heap.size) (hl : l.length ≤ 1048576) :
    ∃ v' w', (Builtin.append_ #[31, 31] 31 #[v, .slice (some ad) 1 1]).run Try.prog w = .ok v' w' ∧ RowAt w' base 3 v' ((l ++ [x]).map iv) ∧ Only (fun k => v.ownBlock = some k) w w' ∧ (v'.ownBlock = v.ownBlock ∨ ∃ g, v'.ownBlock = some g ∧ w.heap.size ≤ g) := by
  obtain ⟨i0, hi0, hz0, hz1, hz2⟩ := info_parts infoI
  have := RowAt.append (P := Try.prog) 31 31 3 i0 _ 8 Try.underlying31 hi0 hz0 hz1 hz2 rfl h ad (iv x) hx rfl hb (by unfold maxLen; simp; omega) (by simp; omega)
  simpa using this
/-- While a row gets one more: a box of two cells, a place in a block of rows; no block but the row's own is touched. -/
def JS (W : World) (B q i : Nat) (v c0 c1 : Value) (X : World) : Prop :=
  X.cell? ⟨B, 0, none⟩ = some c0 ∧ X.cell? ⟨B, 1, none⟩ = some c1 ∧ X.cell? ⟨q, i, none⟩ = some v ∧ X.frozen? ⟨q, i, none⟩ = false ∧ Hid (Only (fun k => v.ownBlock = some k) W X ∧ B < W.heap.size ∧ q < W.heap.size ∧ v.ownBlock ≠ some B ∧ v.ownBlock ≠ some q)
theorem JS.step {W : World} {B q i : Nat} {v c0 c1 : Value} {X Y : World} (h : JS W B q i v c0 c1 X) (ho : Only (fun k => v.ownBlock = some k) X Y) : JS W B q i v c0 c1 Y := by
  obtain ⟨h0, h1, h2, h3, h4⟩ := h
  obtain ⟨o, b1, b2, n1, n2⟩ := h4.out
  have hs := o.size
  exact ⟨(ho.cell (p := ⟨B, 0, none⟩) (by show B < _; omega) n1).trans h0, (ho.cell (p := ⟨B, 1, none⟩) (by show B < _; omega) n1).trans h1, (ho.cell (p := ⟨q, i, none⟩) (by show q < _; omega) n2).trans h2, (ho.frozen (p := ⟨q, i, none⟩) (by show q < _; omega) n2).trans h3, Lib.hid ⟨o.trans ho (fun _ _ e => e), b1, b2, n1, n2⟩⟩
theorem JS.alloc {W : World} {B q i : Nat} {v c0 c1 : Value} {X : World} (h : JS W B q i v c0 c1 X) (o : Obj) : JS W B q i v c0 c1 (X.alloc o) := h.step (Only.alloc _ _ _)
end Go.Proofs.Ytnkbbjeepdjamaa
