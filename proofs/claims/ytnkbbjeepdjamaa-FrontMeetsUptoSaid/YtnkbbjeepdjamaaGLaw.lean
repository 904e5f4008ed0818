/- A law's graph in memory, in a box; rows beside it. Conditions: few places. -/
import Derived.Test.YtnkbbjeepdjamaaGJoinsP
import Derived.Test.YtnkbbjeepdjamaaM6
import Derived.Deep.RegionHeld3
namespace Go.Proofs.Ytnkbbjeepdjamaa
open Go.RowKit
/-- The graph, its box, the rows beside it; nothing older than W is touched. -/
structure GL (W : World) (base n : Nat) (b a : List (List Nat)) (B q1 p1 q : Nat) (vs : List Value) (S : Nat → Prop) (X : World) : Prop where
  gr : Gr X base (.agg #[.slice (some ⟨q1, 0, none⟩) n n, .slice (some ⟨p1, 0, none⟩) n n]) b a S
  mat : Mat X base q vs b
  c0 : X.cell? ⟨B, 0, none⟩ = some (.slice (some ⟨q1, 0, none⟩) n n)
  c1 : X.cell? ⟨B, 1, none⟩ = some (.slice (some ⟨p1, 0, none⟩) n n)
  below : Below W.heap.size W X
theorem GL.later {W X X' : World} {base n : Nat} {b a : List (List Nat)} {B q1 p1 q : Nat} {vs : List Value} {S : Nat → Prop} (h : GL W base n b a B q1 p1 q vs S X) (hb : Below X.heap.size X X') : GL W base n b a B q1 p1 q vs S X' :=
  ⟨h.gr.later hb, h.mat.later hb, (hb.cell (p := ⟨B, 0, none⟩) (World.block_lt_of_cell? X _ h.c0)).trans h.c0, (hb.cell (p := ⟨B, 1, none⟩) (World.block_lt_of_cell? X _ h.c1)).trans h.c1, h.below.trans (hb.mono h.below.size)⟩
theorem new_min (x : Int) (w : World) : Calls Try.prog 26 #[.int .i64 (min x 0)] w (NewPost 0 w) := by
  by_cases h : x < 0
  · rw [Int.min_eq_left (by omega)]; exact new_neg x h w
  · rw [Int.min_eq_right (by omega)]; exact new_calls 0 (by decide) w
theorem light_calls7 (N : Nat) (A : Option Addr) (m c : Nat) (w : World) : Calls Try.prog 17 #[.agg #[.int .u8 N, .slice A m c]] w fun e w' => e = .returned (.bool (decide (m ≤ 40))) ∧ Below w.heap.size w w' := by
  go_enter Try.func17, Try.ntmps17
  go_wp2
  go_ret
  refine ⟨?_, (Below.refl _ _).alloc (Nat.le_refl _) _⟩
  first | rfl | (congr 2; simp; omega) | (congr 2)
/-- Two rows of numbers. -/
theorem rowAt_cells {w : World} {base : Nat} {A : Option Addr} {n c : Nat} {l : List Nat} (h : RowAt w base 3 (.slice A n c) (l.map iv)) : n = (ivs l).length ∧ SI.CellsAt A (ivs l) w ∧ l.length ≤ maxLen := by
  obtain ⟨A', c', e, h1, h2, _⟩ := rowAt_slice h
  rw [List.length_map] at e h1
  injection e with e1 e2 e3
  subst e1; subst e2; subst e3
  refine ⟨(ivs_len l).symm, fun i hi => ?_, by omega⟩
  rw [ivs_len] at hi
  rcases h with ⟨h1, _⟩ | ⟨g, o, cap, cur, h1, hb, hh, h3, h4, h5, hx⟩
  · injection h1 with _ h2 _; omega
  · injection h1 with h1 _ _
    refine ⟨g, o, h1, ?_⟩
    rw [cell_of_blk _ _ _ _ _ hh]
    refine hx i _ ?_
    rw [List.getElem?_map, List.getElem?_eq_getElem hi]
    simp [ivs, iv]
theorem equalG {w : World} {base base' : Nat} {A A' : Option Addr} {n n' c c' : Nat} {l l' : List Nat} (h : RowAt w base 3 (.slice A n c) (l.map iv)) (h' : RowAt w base' 3 (.slice A' n' c') (l'.map iv)) :
    Calls Try.prog 23 #[.slice A n c, .slice A' n' c'] w fun e w' => e = .returned (.bool (decide (l = l'))) ∧ Below w.heap.size w w' := by
  obtain ⟨rfl, h1, h2⟩ := rowAt_cells h
  obtain ⟨rfl, h1', h2'⟩ := rowAt_cells h'
  refine (SI.equal A A' c c' (ivs l) (ivs l') w h1 h1' (by rw [ivs_len]; exact h2) (by rw [ivs_len]; exact h2')).mono ?_
  rintro e w' ⟨rfl, m, rfl⟩
  refine ⟨?_, below_drewN' _ _⟩
  have : (ivs l = ivs l') ↔ l = l' := ⟨fun e => by
    unfold ivs at e
    exact (List.map_inj_right (fun a b h => Int.ofNat.inj h)).1 e, fun e => by rw [e]⟩
  simp only [this]
/-- The same, a row of the law's own beside it. -/
structure GLR (W : World) (base n : Nat) (b a : List (List Nat)) (B q1 p1 q : Nat) (vs : List Value) (S : Nat → Prop) (Z : Nat) (v : Value) (l : List Nat) (X : World) : Prop where
  gl : GL W base n b a B q1 p1 q vs S X
  row : RowAt X Z 3 v (l.map iv)
theorem GLR.later {W X X' : World} {base n : Nat} {b a : List (List Nat)} {B q1 p1 q : Nat} {vs : List Value} {S : Nat → Prop} {Z : Nat} {v : Value} {l : List Nat} (h : GLR W base n b a B q1 p1 q vs S Z v l X) (hb : Below X.heap.size X X') : GLR W base n b a B q1 p1 q vs S Z v l X' :=
  ⟨h.gl.later hb, h.row.only (Only.of_below hb) (fun g hg e => by have := (h.row.lt hg).1; omega)⟩
theorem seen_eq {b : List (List Nat)} {n : Nat} {s : List Bool} (hn : 0 < n) (hb : b.length = n) (hf : Few b) (hl : s.length = n) (hi : ∀ i, i < n → (tr s i = true ↔ WayO (nb b) (-1) i)) : (dfs0 (nb b) n).seen = s := by
  have hw := dfs0_whole (nb b) n hn (fun i w hw => by
    unfold nb at hw
    rw [List.getD_eq_getElem?_getD] at hw
    cases h : b[i]? with
    | none => rw [h] at hw; simp at hw
    | some l => rw [h] at hw; rw [← hb]; exact hf.lt i l h w hw)
  apply List.ext_getElem?
  intro i
  by_cases h : i < n
  · have h1 := hw.seen i h
    have h2 := hi i h
    rw [wayO_all] at h2
    unfold tr at h2
    rw [List.getD_eq_getElem?_getD, List.getElem?_eq_getElem (by rw [hw.len]; exact h)] at h1
    rw [List.getD_eq_getElem?_getD, List.getElem?_eq_getElem (by omega)] at h2
    rw [List.getElem?_eq_getElem (by rw [hw.len]; exact h), List.getElem?_eq_getElem (by omega)]
    congr 1
    simp only [Option.getD_some] at h1 h2
    have h3 := h1.trans h2.symm
    cases h4 : s[i] <;> simp_all
  · rw [List.getElem?_eq_none (by rw [hw.len]; omega), List.getElem?_eq_none (by omega)]
end Go.Proofs.Ytnkbbjeepdjamaa
