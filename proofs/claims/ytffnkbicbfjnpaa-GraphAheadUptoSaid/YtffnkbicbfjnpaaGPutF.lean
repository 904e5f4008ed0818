/- A closure that puts a number behind a boxed row. Conditions: few numbers. -/
import Derived.Test.YtffnkbicbfjnpaaGBox
namespace Go.Proofs.Ytffnkbicbfjnpaa
open Go.RowKit
theorem putF {w : World} {base B : Nat} {l : List Nat} {S : Nat → Prop} (h : BoxRow w base B l S) (x : Nat) (hn : l.length ≤ 1048575) :
    Calls Try.prog 85 #[.int .i64 x, .pointer (some ⟨B, 0, none⟩)] w (PutPost w base B (l ++ [x]) S) := by
  obtain ⟨v, h1, h2, h3, h4⟩ := h.ex
  have hb : base ≤ w.heap.size := by have := (h.lt ((h4 B).2 (.inl rfl))); omega
  have c0 := cell_of_blk _ _ _ _ _ h1 0
  have f0 : w.frozen? ⟨B, 0, none⟩ = false := by simp [World.frozen?, h1]
  have hvB : v.ownBlock ≠ some B := h2.ne_blk h1 (by decide)
  have hlt := lt_blk h1
  obtain ⟨v', w1, hr, k1, k2, k3⟩ := row_append (w := w.alloc (.cells #[.int .i64 (x : Int)] 3)) (base := base) (v := v) (l := l) (h2.only (Only.alloc (fun _ => False) _ _) (fun _ _ e => e)) ⟨w.heap.size, 0, none⟩ x (by
    have := cell_of_blk (w.alloc (.cells #[.int .i64 (x : Int)] 3)) w.heap.size _ _ _ (heap_alloc_new' w _) 0
    exact this) (by simp; omega) (by omega)
  obtain ⟨A1, m1, c1, rfl⟩ : ∃ A m c, v' = .slice A m c := (rowAt_slice k1).elim fun A h => h.elim fun c h => ⟨A, _, c, h.1⟩
  have ho : Only (fun k => v.ownBlock = some k) w w1 := (Only.alloc _ _ _).trans k2 (fun _ _ e => e)
  have d0 : w1.cell? ⟨B, 0, none⟩ = some v := (ho.cell (p := ⟨B, 0, none⟩) hlt hvB).trans c0
  have d1 : w1.frozen? ⟨B, 0, none⟩ = false := (ho.frozen (p := ⟨B, 0, none⟩) hlt hvB).trans f0
  have HF := Lib.hid (put_final h1 h2 h3 h4 k1 ho (k3.imp id (fun ⟨g, a, b⟩ => ⟨g, a, by simp at b; omega⟩)))
  have HR := Lib.hid hr
  clear hr k1 k2 k3 ho h1 h2 h3 h4 h hb hvB hlt
  simp at c0
  go_enter Try.func85, Try.ntmps85
  go_wp2_with (first | (at_builtin; refine Lib.wpList_append_run _ rfl _ _ _ _ rfl _ _ rfl rfl _ _ HR.out ?_) | fail)
  go_end0
  exact ⟨rfl, HF.out⟩
end Go.Proofs.Ytffnkbicbfjnpaa
