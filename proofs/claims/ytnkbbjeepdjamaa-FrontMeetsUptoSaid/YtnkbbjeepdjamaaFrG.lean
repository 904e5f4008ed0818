/- dom.Of and front.Of of a boxed graph, one behind the other. Conditions: few places. -/
import Derived.Test.YtnkbbjeepdjamaaFrOf
import Derived.Test.YtnkbbjeepdjamaaDAwake
import Derived.Deep.RegionHeld3
namespace Go.Proofs.Ytnkbbjeepdjamaa
open Go.RowKit
/-- A boxed graph. -/
def GSr (B q1 p1 n base : Nat) (b a : List (List Nat)) (S : Nat → Prop) (X0 X : World) : Prop :=
  X.cell? ⟨B, 0, none⟩ = some (.slice (some ⟨q1, 0, none⟩) n n) ∧ X.cell? ⟨B, 1, none⟩ = some (.slice (some ⟨p1, 0, none⟩) n n) ∧ Hid (Gr X base (.agg #[.slice (some ⟨q1, 0, none⟩) n n, .slice (some ⟨p1, 0, none⟩) n n]) b a S ∧ Below X0.heap.size X0 X)
theorem GSr.later {B q1 p1 n base : Nat} {b a : List (List Nat)} {S : Nat → Prop} {X0 X X' : World} (h : GSr B q1 p1 n base b a S X0 X) (hb : Below X.heap.size X X') : GSr B q1 p1 n base b a S X0 X' := by
  obtain ⟨h1, h2, h3⟩ := h
  have k : ∀ {p : Addr} {v : Value}, X.cell? p = some v → X'.cell? p = some v := fun hc => (hb.cell (World.block_lt_of_cell? X _ hc)).trans hc
  exact ⟨k h1, k h2, Lib.hid ⟨h3.out.1.later hb, below_two h3.out.2 hb⟩⟩
theorem front8 (r v : Nat) : LT.FrontR (nb (graphB 4 es8)) r v ↔ (v = 3 ∧ (r = 1 ∨ r = 2)) := by
  constructor
  · rintro ⟨u, h1, h2, h3⟩
    have hr : r = 0 ∨ r = 1 ∨ r = 2 ∨ r = 3 := by
      have hrw := graph_rows 4 (by decide) es8
      have hf : Few (graphB 4 es8) := hrw.fewOf (by decide)
      have : r < (graphB 4 es8).length := by
        cases h2.1 with
        | refl => rw [hrw.lb]; decide
        | step _ hc =>
          rename_i a h
          unfold nb at hc
          rw [List.getD_eq_getElem?_getD] at hc
          cases hb : (graphB 4 es8)[a]? with
          | none => rw [hb] at hc; simp at hc
          | some l => rw [hb] at hc; exact hf.lt a l hb r hc
      rw [hrw.lb] at this
      omega
    have hu : (u = 0 ∧ (v = 1 ∨ v = 2)) ∨ (u = 1 ∧ v = 3) ∨ (u = 2 ∧ v = 3) := by
      rw [nb8] at h1
      by_cases e0 : u = 0
      · subst e0; simp at h1; exact .inl ⟨rfl, h1⟩
      · rw [if_neg e0] at h1
        by_cases e1 : u = 1
        · subst e1; simp at h1; exact .inr (.inl ⟨rfl, h1⟩)
        · rw [if_neg e1] at h1
          by_cases e2 : u = 2
          · subst e2; simp at h1; exact .inr (.inr ⟨rfl, h1⟩)
          · rw [if_neg e2] at h1; simp at h1
    have zero : ∀ x, Way (nb (graphB 4 es8)) 0 x → LT.Ov (nb (graphB 4 es8)) 0 x := fun x hx => LT.ov_zero hx
    have hv : Way (nb (graphB 4 es8)) 0 v := h2.2.1.step h1
    have ne0 : r ≠ 0 := fun e => by
      subst e
      rcases h3 with e | e
      · subst e; omega
      · exact e (zero v hv)
    rcases hu with ⟨rfl, hv2⟩ | ⟨rfl, rfl⟩ | ⟨rfl, rfl⟩
    · exact absurd h2 (fun h => ne0 (Classical.byContradiction fun hn => h.2.2 (.zero (by omega))))
    · refine ⟨rfl, ?_⟩
      rcases hr with e | e | e | e
      · exact absurd e ne0
      · exact .inl e
      · exact .inr e
      · subst e
        exact absurd h2 (fun h => h.2.2 (.step (.zero (by decide)) (c := 1) (by rw [nb8]; simp) (by decide)))
    · refine ⟨rfl, ?_⟩
      rcases hr with e | e | e | e
      · exact absurd e ne0
      · exact .inl e
      · exact .inr e
      · subst e
        exact absurd h2 (fun h => h.2.2 (.step (.zero (by decide)) (c := 2) (by rw [nb8]; simp) (by decide)))
  · rintro ⟨rfl, rfl | rfl⟩
    · exact ⟨1, by rw [nb8]; simp, LT.ov_self way8_1, .inr ov8_1⟩
    · exact ⟨2, by rw [nb8]; simp, LT.ov_self way8_2, .inr ov8_2⟩
end Go.Proofs.Ytnkbbjeepdjamaa
