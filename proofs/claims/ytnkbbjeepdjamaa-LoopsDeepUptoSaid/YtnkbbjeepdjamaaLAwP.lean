/- The fixed fact's graph: 0 goes on at 1, 1 at 1: one loop, of 1 alone. No condition. -/
import Derived.Test.YtnkbbjeepdjamaaLOfP
namespace Go.Proofs.Ytnkbbjeepdjamaa
open Go.RowKit
def es10 : List (Nat × Nat) := [(0, 1), (1, 1)]
theorem nb10 (u v : Nat) : v ∈ nb (graphB 2 es10) u ↔ v = 1 ∧ u < 2 := by
  have h : graphB 2 es10 = [[1], [1]] := by decide
  rw [h]
  unfold nb
  match u with
  | 0 => simp
  | 1 => simp
  | u + 2 => simp
theorem ov10 : LT.Ov (nb (graphB 2 es10)) 1 1 := by
  have h1 : Way (nb (graphB 2 es10)) 0 1 := (Way.refl 0).step ((nb10 0 1).2 ⟨rfl, by decide⟩)
  exact ⟨h1, h1, LT.wayO_self⟩
theorem hb10 (y : Nat) : HB (nb (graphB 2 es10)) y ↔ y = 1 := by
  constructor
  · rintro ⟨u, h, _⟩
    exact ((nb10 u y).1 h).1
  · rintro rfl
    exact ⟨1, (nb10 1 1).2 ⟨rfl, by decide⟩, ov10⟩
theorem lb10 (z : Nat) : LB (nb (graphB 2 es10)) 1 z ↔ z = 1 := by
  constructor
  · intro h
    induction h with
    | head => rfl
    | back h1 h2 =>
      rename_i u
      have hu := ((nb10 u 1).1 h1).2
      by_cases e : u = 1
      · exact e
      · obtain rfl : u = 0 := by omega
        exact absurd (WayO.zero (by decide)) h2.2.2
    | step _ hne _ _ ih => exact absurd ih hne
  · rintro rfl
    exact .head
/-- One loop: of 1. -/
theorem one10 {B : Nat} {v : Value} {L : List LEl} {W : World} (h : LRes B (nb (graphB 2 es10)) 2 v L W) : ∃ A c, L = [⟨1, A, 1, c⟩] := by
  have key : ∀ e ∈ L, e.h = 1 ∧ e.k = 1 := fun e he => by
    obtain ⟨xs, y, hs, hk, _, hy, hx⟩ := h.sets e he
    have h1 := (hb10 y).1 ((h.heads y).1 ⟨e, he, hy⟩).2
    subst h1
    refine ⟨hy, ?_⟩
    have : xs = [1] := srt_ext ordI _ _ hs.srt (by simp [Srt]) (fun x => by
      rw [hx]
      constructor
      · rintro ⟨z, rfl, hz⟩
        rw [(lb10 z).1 hz]
        simp
      · intro hm
        have hm : x = 1 := by simpa using hm
        exact ⟨1, hm, (lb10 1).2 rfl⟩)
    rw [hk, this]
    rfl
  obtain ⟨e, he, _⟩ := (h.heads 1).2 ⟨by decide, (hb10 1).2 rfl⟩
  cases hL : L with
  | nil => rw [hL] at he; cases he
  | cons a t =>
    have ha := key a (by rw [hL]; exact List.mem_cons_self)
    cases t with
    | nil =>
      obtain ⟨ah, aA, ak, ac⟩ := a
      obtain ⟨h1, h2⟩ := ha
      simp only at h1 h2
      subst h1 h2
      exact ⟨aA, ac, rfl⟩
    | cons b t =>
      have hb := key b (by rw [hL]; simp)
      have hp := h.asc
      rw [hL] at hp
      have := (List.pairwise_cons.1 hp).1 b List.mem_cons_self
      unfold RLo at this
      omega
end Go.Proofs.Ytnkbbjeepdjamaa
