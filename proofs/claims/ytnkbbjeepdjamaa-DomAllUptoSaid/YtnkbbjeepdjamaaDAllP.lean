/- A tree's places, each ahead of those below it, plain: all that are reached, each once. No condition. -/
import Derived.Test.YtnkbbjeepdjamaaDUpP
import Derived.Test.YtnkbbjeepdjamaaFrM
namespace Go.Proofs.Ytnkbbjeepdjamaa
open Go.RowKit
theorem mem_belowOf {up : List Int} {n u v : Nat} : v ∈ belowOf up n u ↔ v < n ∧ up[v]? = some (u : Int) := by
  unfold belowOf
  rw [List.mem_filter, List.mem_range]
  simp
/-- A place, then those below it, one after the other: so deep. -/
def preT (up : List Int) (n : Nat) : Nat → Nat → List Nat
  | 0, v => [v]
  | f + 1, v => v :: (belowOf up n v).flatMap (preT up n f)
theorem preT_head (up : List Int) (n f v : Nat) : v ∈ preT up n f v := by
  cases f <;> simp [preT]
theorem preT_pos (up : List Int) (n f v : Nat) : 1 ≤ (preT up n f v).length := by
  cases f <;> simp [preT]
namespace LT
section
variable {g : Nat → List Nat} {n : Nat} {up deep : List Int} (h : DTree g n up deep)
include h
/-- One below a place that is reached. -/
theorem DTree.kid {u v d : Nat} (hd : deep[u]? = some (d : Int)) (hv : v ∈ belowOf up n u) : v < n ∧ Way g 0 v ∧ deep[v]? = some ((d + 1 : Nat) : Int) ∧ ∀ a, (Ov g a v ↔ a = v ∨ Ov g a u) := by
  obtain ⟨h1, h2⟩ := mem_belowOf.1 hv
  have hw : Way g 0 v := Classical.byContradiction fun hn => by
    rw [(h.un v h1 hn).1] at h2
    have := Option.some.inj h2
    omega
  have h0 : v ≠ 0 := fun e => by
    subst e
    rw [h.zero.1] at h2
    have := Option.some.inj h2
    omega
  obtain ⟨u', d', k1, k2, k3, k4, k5⟩ := h.near v hw h0
  rw [h2] at k2
  have e : u = u' := by have := Option.some.inj k2; omega
  subst e
  rw [hd] at k4
  have e2 := Option.some.inj k4
  have e2 : d = d' := by omega
  subst e2
  exact ⟨h1, hw, k3, k5⟩
theorem DTree.deep_lt {v d : Nat} (hw : Way g 0 v) (hd : deep[v]? = some (d : Int)) : d < n := by
  have h1 := h.many hw hd
  have h2 := overs_le g v n
  omega
theorem DTree.pre_ov : ∀ (f v d : Nat), Way g 0 v → deep[v]? = some (d : Int) → ∀ y ∈ preT up n f v, Ov g v y ∧ y < n
  | 0, v, d, hw, hd, y, hy => by
    have : y = v := by simpa [preT] using hy
    subst this
    exact ⟨ov_self hw, h.lt y hw⟩
  | f + 1, v, d, hw, hd, y, hy => by
    rcases List.mem_cons.1 hy with rfl | hy
    · exact ⟨ov_self hw, h.lt y hw⟩
    · obtain ⟨w, hw1, hy⟩ := List.mem_flatMap.1 hy
      obtain ⟨k1, k2, k3, k4⟩ := h.kid hd hw1
      obtain ⟨m1, m2⟩ := DTree.pre_ov f w (d + 1) k2 k3 y hy
      obtain ⟨dy, hdy, _⟩ := h.deep_of m1.2.1
      exact ⟨h.trans dy y w v hdy m1 ((k4 v).2 (.inr (ov_self hw))), m2⟩
theorem DTree.pre_clo : ∀ (f v d : Nat), Way g 0 v → deep[v]? = some (d : Int) → n ≤ d + f → ∀ y ∈ preT up n f v, ∀ z ∈ belowOf up n y, z ∈ preT up n f v
  | 0, v, d, hw, hd, hn, y, hy, z, hz => by have := h.deep_lt hw hd; omega
  | f + 1, v, d, hw, hd, hn, y, hy, z, hz => by
    refine List.mem_cons_of_mem _ (List.mem_flatMap.2 ?_)
    rcases List.mem_cons.1 hy with rfl | hy
    · exact ⟨z, hz, preT_head up n f z⟩
    · obtain ⟨w, hw1, hy⟩ := List.mem_flatMap.1 hy
      obtain ⟨k1, k2, k3, k4⟩ := h.kid hd hw1
      exact ⟨w, hw1, DTree.pre_clo f w (d + 1) k2 k3 (by omega) y hy z hz⟩
theorem DTree.pre_all : ∀ (d v : Nat), Way g 0 v → deep[v]? = some (d : Int) → v ∈ preT up n n 0
  | d, v, hw, hd => by
    by_cases e : v = 0
    · subst e; exact preT_head up n n 0
    · obtain ⟨u, d', k1, k2, k3, k4, _⟩ := h.near v hw e
      rw [hd] at k3
      have e3 := Option.some.inj k3
      have hu := DTree.pre_all d' u k1 k4
      exact h.pre_clo n 0 0 (.refl 0) (by simpa using h.zero.2) (by omega) u hu v (mem_belowOf.2 ⟨h.lt v hw, k2⟩)
termination_by d => d
decreasing_by omega
theorem DTree.pre_nd : ∀ (f v d : Nat), Way g 0 v → deep[v]? = some (d : Int) → (preT up n f v).Nodup
  | 0, v, d, hw, hd => by simp [preT]
  | f + 1, v, d, hw, hd => by
    refine List.nodup_cons.2 ⟨fun hm => ?_, ?_⟩
    · obtain ⟨w, hw1, hy⟩ := List.mem_flatMap.1 hm
      obtain ⟨k1, k2, k3, k4⟩ := h.kid hd hw1
      have := (h.le d w v _ (h.pre_ov f w (d + 1) k2 k3 v hy).1 hd k3).1
      omega
    · rw [List.nodup_iff_pairwise_ne, List.pairwise_flatMap]
      refine ⟨fun w hw1 => ?_, ?_⟩
      · obtain ⟨k1, k2, k3, k4⟩ := h.kid hd hw1
        exact List.nodup_iff_pairwise_ne.1 (DTree.pre_nd f w (d + 1) k2 k3)
      · have hnd : (belowOf up n v).Pairwise (fun a b => a ≠ b) := List.nodup_iff_pairwise_ne.1 (List.Pairwise.filter _ List.nodup_range)
        refine List.Pairwise.imp_of_mem ?_ hnd
        intro a b ha hb hab x hx y hy e
        subst e
        obtain ⟨_, k2, k3, _⟩ := h.kid hd ha
        obtain ⟨_, m2, m3, _⟩ := h.kid hd hb
        have p1 := (h.pre_ov f a (d + 1) k2 k3 x hx).1
        have p2 := (h.pre_ov f b (d + 1) m2 m3 x hy).1
        obtain ⟨dx, hdx, _⟩ := h.deep_of p1.2.1
        rcases h.pair dx x a b hdx p1 p2 with q | q
        · exact hab ((h.le (d + 1) a b _ q m3 k3).2 rfl)
        · exact hab ((h.le (d + 1) b a _ q k3 m3).2 rfl).symm
/-- All that are reached, each once. -/
theorem DTree.pre_mem (v : Nat) : v ∈ preT up n n 0 ↔ Way g 0 v := by
  constructor
  · intro hv
    exact (h.pre_ov n 0 0 (.refl 0) (by simpa using h.zero.2) v hv).1.2.1
  · intro hw
    obtain ⟨d, hd, _⟩ := h.deep_of hw
    exact h.pre_all d v hw hd
theorem DTree.pre_len : (preT up n n 0).length ≤ n := by
  have h1 := h.pre_nd n 0 0 (.refl 0) (by simpa using h.zero.2)
  exact len_range _ n h1 (fun x hx => (h.pre_ov n 0 0 (.refl 0) (by simpa using h.zero.2) x hx).2)
end
end LT
end Go.Proofs.Ytnkbbjeepdjamaa
