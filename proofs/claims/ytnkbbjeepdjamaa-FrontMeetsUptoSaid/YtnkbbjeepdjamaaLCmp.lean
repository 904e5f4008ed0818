/- Loops are held against each other by how many places they have. Conditions: the sets are slices of that many items. -/
import Derived.Test.YtnkbbjeepdjamaaM4
import Derived.Test.YtnkbbjeepdjamaaFrM
import Derived.Deep.RegionHeld3
import Derived.BigRegion
namespace Go.Proofs.Ytnkbbjeepdjamaa
open Go.RowKit
/-- A loop in memory: its head, its body's row. -/
structure LEl where
  h : Int
  A : Option Addr
  k : Nat
  c : Nat
def LEl.v (e : LEl) : Value := .slice e.A e.k e.c
def LEl.val (e : LEl) : Value := .agg #[.int .i64 e.h, e.v]
theorem two_bx {w X : World} {o0 o1 : Obj} (h : (w.alloc o0).alloc o1 = X) : X.heap[w.heap.size]? = some o0 ∧ X.heap[w.heap.size + 1]? = some o1 ∧ X.heap.size = w.heap.size + 2 ∧ Below w.heap.size w X := by
  subst h
  have n1 := heap_alloc_new' (w.alloc o0) o1
  rw [World.size_alloc] at n1
  exact ⟨(Below.heap_alloc _ _ _ (by simp)).trans (heap_alloc_new' w o0), n1, by simp, ((Below.refl _ _).alloc (Nat.le_refl _) _).alloc (by simp) _⟩
theorem lenA (A : Option Addr) (k c : Nat) (w : World) : Calls Try.prog 41 #[.agg #[.slice A k c]] w fun e w' => e = .returned (.int .i64 k) ∧ Below w.heap.size w w' := by
  go_enter Try.func41, Try.ntmps41
  go_wp2
  go_ret
  exact ⟨rfl, (Below.refl _ _).alloc (Nat.le_refl _) _⟩
def CmpS (p : Nat) (a b : LEl) (w X : World) : Prop := X.cell? ⟨p, 1, none⟩ = some a.v ∧ X.cell? ⟨p + 1, 1, none⟩ = some b.v ∧ Hid (Below w.heap.size w X)
theorem CmpS.later {p : Nat} {a b : LEl} {w X X' : World} (h : CmpS p a b w X) (hb : Below X.heap.size X X') : CmpS p a b w X' := by
  obtain ⟨h1, h2, h3⟩ := h
  have k : ∀ {p : Addr} {v : Value}, X.cell? p = some v → X'.cell? p = some v := fun hc => (hb.cell (World.block_lt_of_cell? X _ hc)).trans hc
  exact ⟨k h1, k h2, Lib.hid (below_two h3.out hb)⟩
set_option maxRecDepth 100000 in
theorem cmp_calls (a b : LEl) (w : World) (ha : a.k ≤ 1048576) (hb : b.k ≤ 1048576) : Calls Try.prog 70 #[a.val, b.val] w fun e w' => e = .returned (.int .i64 ((a.k : Int) - b.k)) ∧ Below w.heap.size w w' := by
  obtain ⟨h1, A1, k1, c1⟩ := a
  obtain ⟨h2, A2, k2, c2⟩ := b
  simp only [LEl.val, LEl.v]
  simp only at ha hb
  go_enter Try.func70, Try.ntmps70
  go_wp2_with fail
  generalize hX : World.alloc (World.alloc w _) _ = X
  obtain ⟨x1, x2, xz, xb⟩ := two_bx hX
  obtain ⟨p, hp⟩ : ∃ k, w.heap.size = k := ⟨_, rfl⟩
  rw [hp] at x1 x2
  have hS : CmpS p ⟨h1, A1, k1, c1⟩ ⟨h2, A2, k2, c2⟩ w X := ⟨cell_of_blk _ _ _ _ _ x1 1, cell_of_blk _ _ _ _ _ x2 1, Lib.hid xb⟩
  have hSd := hS.later (X' := X.drew) ((Below.refl X.heap.size X).drew)
  rw [hp]
  clear hX x1 x2 xz xb hp hS
  go_region_held3 (fun Y => Y.cell? ⟨p, 1, none⟩ = some (.slice A1 k1 c1) ∧ Y.cell? ⟨p + 1, 1, none⟩ = some (.slice A2 k2 c2) ∧ Hid (Below w.heap.size w Y))
    (first | exact hSd | exact (hSd.later hb1).later hb2 | exact hSd.later hb1)
    (first | (go_at_call 41; refine (lenA A1 k1 c1 _).mono ?_; rintro e w1 ⟨rfl, hb1⟩) | (go_at_call 41; refine (lenA A2 k2 c2 _).mono ?_; rintro e w2 ⟨rfl, hb2⟩))
  rename_i hh
  have hw := hh.2.2.out
  go_wp2_with fail
  go_ret
  refine ⟨?_, hw⟩
  simp
  exact IntWalk.i64_in _ (by omega)
end Go.Proofs.Ytnkbbjeepdjamaa
