/- dom.Of's own closure: a block of so many -1. Conditions: at least one place, few. -/
import Derived.Test.YtnkbbjeepdjamaaDRep
namespace Go.Proofs.Ytnkbbjeepdjamaa
open Go.RowKit
theorem fill_calls (n : Nat) (h1 : 1 ≤ n) (hn : n ≤ 1048575) (N : Nat) (w : World) (hN : w.cell? ⟨N, 0, none⟩ = some (.int .i64 n)) :
    Calls Try.prog 49 #[.pointer (some ⟨N, 0, none⟩)] w fun e w' => ∃ q, e = .returned (.slice (some ⟨q, 0, none⟩) n n) ∧ Ints w' q (List.replicate n (-1)) ∧ w.heap.size ≤ q ∧ Below w.heap.size w w' := by
  have hlt : N < w.heap.size := World.block_lt_of_cell? w _ hN
  have hb : Below w.heap.size w (w.alloc (.cells #[.int .i64 (-1)] 3)) := (Below.refl _ _).alloc (Nat.le_refl _) _
  have HR := Lib.hid (repeat_calls n h1 hn w.heap.size 0 1 (-1) (w.alloc (.cells #[.int .i64 (-1)] 3)) (cell_of_blk _ _ _ _ _ (heap_alloc_new' w _) 0))
  have HB := Lib.hid hb
  clear hb
  go_enter Try.func49, Try.ntmps49
  go_wp2_with fail
  refine HR.out.mono ?_
  rintro e w1 ⟨q, rfl, h2, h3, h4⟩
  have HE := Lib.hid (And.intro h2 (And.intro (show w.heap.size ≤ q by simp at h3; omega) (below_two HB.out h4)))
  clear h2 h3 h4
  go_wp2_with fail
  go_ret
  exact ⟨q, rfl, HE.out.1, HE.out.2.1, HE.out.2.2⟩
end Go.Proofs.Ytnkbbjeepdjamaa
