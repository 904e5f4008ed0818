/- In how many loops each place is: counts, plain; new rows of numbers in memory. No condition. -/
import Derived.Test.YtnkbbjeepdjamaaLRow
import Derived.Test.YtnkbbjeepdjamaaLNeT
import Derived.Test.YtnkbbjeepdjamaaM5
namespace Go.Proofs.Ytnkbbjeepdjamaa
open Go.RowKit
/-- In how many a place is. -/
def inl (L : List (List Int)) (v : Nat) : Nat := L.countP (fun xs => decide ((v : Int) ∈ xs))
theorem inl_le (L : List (List Int)) (v : Nat) : inl L v ≤ L.length := List.countP_le_length
theorem inl_snoc (L : List (List Int)) (xs : List Int) (v : Nat) : inl (L ++ [xs]) v = inl L v + (if (v : Int) ∈ xs then 1 else 0) := by
  unfold inl
  rw [List.countP_append]
  by_cases h : (v : Int) ∈ xs <;> simp [h]
/-- While one of them is looked at. -/
def inlK (L : List (List Int)) (ys : List Int) (N : Nat) : List Int := (List.range N).map (fun v => ((inl L v + (if (v : Int) ∈ ys then 1 else 0) : Nat) : Int))
theorem inlK_len (L : List (List Int)) (ys : List Int) (N : Nat) : (inlK L ys N).length = N := by simp [inlK]
theorem inlK_nil (L : List (List Int)) (N : Nat) : inlK L [] N = (List.range N).map (fun v => ((inl L v : Nat) : Int)) := by simp [inlK]
theorem inlK_all (L : List (List Int)) (xs : List Int) (N : Nat) : inlK L xs N = inlK (L ++ [xs]) [] N := by
  rw [inlK_nil]
  unfold inlK
  simp only [inl_snoc]
theorem inlK_get {L : List (List Int)} {ys : List Int} {N v : Nat} (hv : v < N) : (inlK L ys N)[v]? = some ((inl L v + (if (v : Int) ∈ ys then 1 else 0) : Nat) : Int) := by
  unfold inlK
  rw [List.getElem?_map, List.getElem?_range hv]
  rfl
theorem inlK_skip {L : List (List Int)} {ys : List Int} {N : Nat} {z : Int} (hz : ¬ (0 ≤ z ∧ z < (N : Int))) : inlK L (ys ++ [z]) N = inlK L ys N := by
  unfold inlK
  apply List.map_congr_left
  intro v hv
  have hv := List.mem_range.1 hv
  have : ((v : Int) ∈ ys ++ [z]) ↔ (v : Int) ∈ ys := by
    rw [List.mem_append, List.mem_singleton]
    exact ⟨fun h => h.resolve_right (fun e => hz ⟨by omega, by omega⟩), .inl⟩
  simp only [this]
theorem inlK_put {L : List (List Int)} {ys : List Int} {N z : Nat} (_ : z < N) : (inlK L ys N).set z ((inl L z : Nat) + 1) = inlK L (ys ++ [(z : Int)]) N := by
  apply List.ext_getElem?
  intro v
  rw [List.getElem?_set]
  by_cases hv : v < N
  · rw [inlK_get (ys := ys ++ [(z : Int)]) hv]
    by_cases e : z = v
    · subst e
      rw [if_pos rfl, if_pos (by rw [inlK_len]; exact hv)]
      simp
    · rw [if_neg e, inlK_get hv]
      have : ((v : Int) ∈ ys ++ [(z : Int)]) ↔ (v : Int) ∈ ys := by
        rw [List.mem_append, List.mem_singleton]
        exact ⟨fun h => h.resolve_right (fun e2 => e (by omega)), .inl⟩
      simp only [this]
  · rw [if_neg (by omega), List.getElem?_eq_none (by rw [inlK_len]; omega), List.getElem?_eq_none (by rw [inlK_len]; omega)]
def zeros (n : Nat) : Obj := .cells ((List.replicate n (0 : Int)).map zv).toArray 3
theorem mk_zeros (n : Nat) (hn : n ≤ 1048576) (w : World) : (Instr.makeSlice 31 (.int .i64 (n : Int)) (.int .i64 (n : Int))).run Try.prog w = .ok (.slice (some ⟨w.heap.size, 0, none⟩) n n) (w.alloc (zeros n)) := by
  obtain ⟨i0, hi0, hz0, hz1, hz2⟩ := info_parts infoI
  have h := run_make (P := Try.prog) w 31 3 i0 _ Try.underlying31 hi0 hz0 .i64 .i64 n n (by omega) (Int.le_refl _) (by rw [hz2]; omega) (by omega)
  rw [h, hz1, Int.toNat_natCast, Nat.mul_one]
  unfold zeros
  have e : (madeCells (Value.cells (.int .i64 0)) n) = ((List.replicate n (0 : Int)).map zv).toArray := by
    apply Array.toList_inj.1
    rw [show Value.cells (.int .i64 0) = #[.int .i64 0] from rfl, toList_madeCells_one]
    simp [zv]
  rw [e]
theorem inlK_zero (N : Nat) : List.replicate N (0 : Int) = inlK [] [] N := by
  symm
  apply List.eq_replicate_iff.2
  refine ⟨inlK_len _ _ _, fun b hb => ?_⟩
  obtain ⟨v, _, rfl⟩ := List.mem_map.1 hb
  simp [inl]
/-- The loops as Deep reads them. -/
structure LD (W : World) (base : Nat) (A : Option Addr) (L : List LEl) (xss : List (List Int)) : Prop where
  len : L.length = xss.length
  at_ : ∀ (i : Nat) (e : LEl), L[i]? = some e → ∃ (q : Nat) (xs : List Int), A = some ⟨q, 0, none⟩ ∧ W.cell? ⟨q, i * 2, none⟩ = some (.int .i64 e.h) ∧ W.cell? ⟨q, i * 2 + 1, none⟩ = some e.v ∧ IsSetI W base e.v xs ∧ xss[i]? = some xs ∧ e.k = xs.length ∧ xs.length ≤ 100
theorem LD.later {W W' : World} {base : Nat} {A : Option Addr} {L : List LEl} {xss : List (List Int)} (h : LD W base A L xss) (hb : Below W.heap.size W W') : LD W' base A L xss := by
  refine ⟨h.len, fun i e hi => ?_⟩
  obtain ⟨q, xs, h1, h2, h3, h4, h5⟩ := h.at_ i e hi
  exact ⟨q, xs, h1, (hb.cell (World.block_lt_of_cell? W _ h2)).trans h2, (hb.cell (World.block_lt_of_cell? W _ h3)).trans h3, h4.only (Only.of_below hb) (fun g hg e => by have := (isset_lt h4 hg).2; omega), h5⟩
end Go.Proofs.Ytnkbbjeepdjamaa
